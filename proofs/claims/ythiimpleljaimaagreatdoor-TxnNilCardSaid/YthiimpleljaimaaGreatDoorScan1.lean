/- scan.Of, at a sector in use. -/
import Derived.Test.YthiimpleljaimaaGreatDoorMg14
namespace Go.Proofs.YthiimpleljaimaaGreatDoor
open Go Go.RowKit Flo
attribute [local go_sem] run_store_complex

/-- The state of a scan at its label. -/
def ScanJ (s z : Int) (k ab off cap : Nat) (l : List Nat) (w : World) (R : Nat × List Found) (a' : Act) (wr : World) : Prop :=
  ∃ (po a kk : Nat) (fs : List Found) (v : Value) (u : Nat → Value), a' = { tmps := #[geo s z, i64 k, .slice (some ⟨ab, off, none⟩) l.length cap, .pointer (some ⟨w.heap.size, 0, none⟩), undef, undef, .pointer (some ⟨w.heap.size + 1, 0, none⟩), .pointer (some ⟨po, 0, none⟩), .int .i64 a, u 9, u 10, u 11, u 12, u 13, u 14, u 15, u 16, u 17, u 18, u 19, u 20, u 21, u 22, u 23, u 24, u 25, u 26, u 27, u 28, u 29, u 30, u 31, u 32, u 33, u 34, u 35, u 36, u 37, u 38, u 39, u 40, u 41, u 42, u 43, u 44, u 45, u 46, u 47, u 48, u 49, u 50, u 51, u 52, u 53, u 54, u 55, u 56, u 57, u 58, u 59, u 60, u 61, u 62, u 63, u 64, u 65, u 66, u 67, u 68, u 69, u 70, u 71, u 72, u 73, u 74, u 75, u 76, u 77, u 78, u 79, u 80], defers := [] } ∧ a ≤ l.length ∧ fs.length ≤ a ∧ Hid (l.length < a + kk ∧ scanN k l kk a fs = R) ∧ Hid (ScanSt 180 w (w.heap.size + 1) po wr v fs)
set_option maxRecDepth 100000 in
theorem ScanJ.mk' {s z : Int} {k ab off cap : Nat} {l : List Nat} {w : World} {R : Nat × List Found} {wr : World} (t : Array Value) (po a kk : Nat) (fs : List Found) (v : Value)
    (ht : t = #[geo s z, i64 k, .slice (some ⟨ab, off, none⟩) l.length cap, .pointer (some ⟨w.heap.size, 0, none⟩), undef, undef, .pointer (some ⟨w.heap.size + 1, 0, none⟩), .pointer (some ⟨po, 0, none⟩), .int .i64 a, t.getD 9 undef, t.getD 10 undef, t.getD 11 undef, t.getD 12 undef, t.getD 13 undef, t.getD 14 undef, t.getD 15 undef, t.getD 16 undef, t.getD 17 undef, t.getD 18 undef, t.getD 19 undef, t.getD 20 undef, t.getD 21 undef, t.getD 22 undef, t.getD 23 undef, t.getD 24 undef, t.getD 25 undef, t.getD 26 undef, t.getD 27 undef, t.getD 28 undef, t.getD 29 undef, t.getD 30 undef, t.getD 31 undef, t.getD 32 undef, t.getD 33 undef, t.getD 34 undef, t.getD 35 undef, t.getD 36 undef, t.getD 37 undef, t.getD 38 undef, t.getD 39 undef, t.getD 40 undef, t.getD 41 undef, t.getD 42 undef, t.getD 43 undef, t.getD 44 undef, t.getD 45 undef, t.getD 46 undef, t.getD 47 undef, t.getD 48 undef, t.getD 49 undef, t.getD 50 undef, t.getD 51 undef, t.getD 52 undef, t.getD 53 undef, t.getD 54 undef, t.getD 55 undef, t.getD 56 undef, t.getD 57 undef, t.getD 58 undef, t.getD 59 undef, t.getD 60 undef, t.getD 61 undef, t.getD 62 undef, t.getD 63 undef, t.getD 64 undef, t.getD 65 undef, t.getD 66 undef, t.getD 67 undef, t.getD 68 undef, t.getD 69 undef, t.getD 70 undef, t.getD 71 undef, t.getD 72 undef, t.getD 73 undef, t.getD 74 undef, t.getD 75 undef, t.getD 76 undef, t.getD 77 undef, t.getD 78 undef, t.getD 79 undef, t.getD 80 undef])
    (h1 : a ≤ l.length) (h2 : fs.length ≤ a) (h3 : Hid (l.length < a + kk ∧ scanN k l kk a fs = R)) (h4 : Hid (ScanSt 180 w (w.heap.size + 1) po wr v fs)) : ScanJ s z k ab off cap l w R { tmps := t, defers := [] } wr :=
  ⟨po, a, kk, fs, v, fun i => t.getD i undef, congrArg (fun t => ({ tmps := t, defers := [] } : Act)) ht, h1, h2, h3, h4⟩

set_option maxHeartbeats 8000000 in
set_option maxRecDepth 100000 in
theorem scanOf_yes (s z : Int) (k : Nat) (A : Option Addr) (cap : Nat) (l : List Nat) (w : World) (h : Byt w (.slice A l.length cap) l) (hl : ∀ b ∈ l, b < 256) (hk : k ≤ 2147483647) (hc : classB s z l = 1) :
    Calls Tryz.prog 119 #[geo s z, i64 k, .slice A l.length cap] w (ScanPost w ⟨1, (scanN k l (l.length + 1) 8 []).1, (!decide ((recClass l (scanN k l (l.length + 1) 8 []).1).1 = 0)) || decide (l.length ≤ (scanN k l (l.length + 1) 8 []).1), (scanN k l (l.length + 1) 8 []).2⟩) := by
  have hg : 512 ≤ l.length ∧ l.length ≤ 4096 := by
    have : geoN s z l = true := by
      cases hn : geoN s z l with
      | true => rfl
      | false => unfold classB at hc; rw [if_pos hn] at hc; cases hc
    obtain ⟨h1, h2⟩ := geoN_yes this
    have := geoB_yes h1
    omega
  obtain ⟨hg1, hg2⟩ := hg
  have HC := fun W hB => headClass_any s z A l.length cap l W (Sl.below (w' := W) h hB) (by omega)
  rw [hc] at HC
  have HD := fun W hB => Lib.hid (HC W hB)
  obtain ⟨ab, off, rfl, hab, hx⟩ := Byt.cell h (by omega)
  clear hx HC hc
  have HR := fun (W : World) (a : Nat) (hB : Below w.heap.size w W) (ha : a ≤ l.length) => Lib.hid (recClass_any (some ⟨ab, off, none⟩) l.length cap l a W (Sl.below h hB) hl (by omega) (by omega) (by omega))
  have HG := fun (W : World) A n c (r : List Nat) (hy : Byt W (.slice A n c) r) (hr : ∀ b ∈ r, b < 256) (hrl : r.length ≤ 100000) => Lib.hid (show Makes 172 #[.slice A n c] W (.tuple #[(gotI r).val, i64 (gotE r)]) from ringGet_any A n c r W hy hr hrl (readOf r) (readOf_of r))
  have HP := fun (W : World) (a : Nat) (ha : a ≤ l.length) => Lib.hid (of_in k a W (by omega) (by omega) (by omega) (by omega))
  have HL := fun a => Lib.hid (recClass_cases l a)
  have HT := fun a => Lib.hid (recClass_lt hl a)
  have HN := fun a => Lib.hid (recClass_len l a)
  obtain ⟨R, hR⟩ : ∃ R, scanN k l (l.length + 1) 8 [] = R := ⟨_, rfl⟩
  rw [hR]
  have HS := Lib.hid hR
  have HK := Lib.hid hl
  clear hR hl
  go_enter Tryz.func119, Tryz.ntmps119
  go_wp2_with fail
  refine wp_scope_loop 0 (ScanJ s z k ab off cap l w R) (fun a' _ => l.length - (intOf (a'.tmps.getD 8 undef)).toNat) rfl ?_ ?_
  · rintro a' wr ⟨po, a, kk, fs, v, u, rfl, ha, hfa, hs, hst⟩
    have hb0 := hst.out.below
    go_wp2_with fail
    refine (HR wr a hb0 ha).out.mono ?_; rintro e1 w1 ⟨A1, n1, c1, rfl, hy1, hb1⟩
    have HLa := (HL a).out
    have HTa := (HT a).out
    have HNa := (HN a).out
    obtain ⟨q, hq0⟩ : ∃ q, recClass l a = q := ⟨_, rfl⟩
    rw [hq0] at HLa HTa HNa hy1 ⊢
    have hq := Lib.hid hq0
    clear hq0
    obtain ⟨st, rc, en⟩ := q
    simp only at HLa HTa HNa hy1 ⊢
    have hst5 : st = 0 ∨ st = 3 ∨ st = 4 ∨ st = 5 ∨ st = 6 := by
      rcases HLa with e | e | e
      · injection e with e _; exact .inl e
      · injection e with e _; exact .inr (.inl e)
      · obtain ⟨e, _⟩ := e; omega
    have hen : 4 ≤ st → a < en ∧ en ≤ l.length := by
      rcases HLa with e | e | e
      · injection e with e _; omega
      · injection e with e _; omega
      · intro _; exact ⟨e.2.1, e.2.2.1⟩
    clear HLa
    go_wp2_with fail
    refine (HG w1 A1 n1 c1 rc hy1 HTa (by omega)).out.mono ?_; rintro e2 w2 ⟨rfl, hb2⟩
    clear HTa HNa
    obtain ⟨it, hit0⟩ : ∃ it, gotI rc = it := ⟨_, rfl⟩
    obtain ⟨ee, hee0⟩ : ∃ ee, gotE rc = ee := ⟨_, rfl⟩
    rw [hit0, hee0]
    have hit := Lib.hid hit0
    have hee := Lib.hid hee0
    have hb3 := Base.tr hb1 hb2
    clear hit0 hee0 hy1 hb1 hb2
    have h3 := scan_three st ee hst5
    rcases h3 with rfl | ⟨h45, rfl⟩ | h0
    · obtain ⟨hen1, hen2⟩ := hen (by omega)
      clear hst5 hen
      have hst2 := Lib.hid ((hst.out.below' hb3).below' (Base.al (Below.refl _ _) (.cells #[.int .u64 it.seq, .int .u64 it.ver, i64 it.index, i64 it.count, cx it.a it.b, .bool it.gone, .string it.key, .string it.value] 129)))
      clear hst hb3 hb0
      go_wp2
      go_step3
      obtain ⟨kk', e1, e2⟩ := scanN_skip (s := k) (fs := fs) hs.out.1 ha (by rw [hq.out])
      rw [hq.out] at e1 e2
      refine ⟨rfl, ScanJ.mk' _ po en kk' fs v (by rfl) hen2 (by omega) (Lib.hid ⟨e1, e2 ▸ hs.out.2⟩) hst2, ?_⟩
      simp [intOf]
      omega
    · obtain ⟨hen1, hen2⟩ := hen (by omega)
      have hst1 := hst.out.below' hb3
      have hst2 := hst1.below' (Base.al (Below.refl _ _) (.cells #[.int .u64 it.seq, .int .u64 it.ver, i64 it.index, i64 it.count, cx it.a it.b, .bool it.gone, .string it.key, .string it.value] 129))
      have hbI := blk_new w2 (.cells #[.int .u64 it.seq, .int .u64 it.ver, i64 it.index, i64 it.count, cx it.a it.b, .bool it.gone, .string it.key, .string it.value] 129)
      have t6 : ((st : Int) == 6) = false := by rw [beq_eq_false_iff_ne]; omega
      obtain ⟨kk', e1, e2⟩ := scanN_take (s := k) (fs := fs) hs.out.1 ha (by rw [hq.out]; exact h45) (by rw [hq.out]; exact hee.out)
      have hone : oneAt k l a = ⟨near k, near a, (en : Int) - (a : Int), decide (st = 5), it⟩ := by unfold oneAt; rw [hq.out]; show Found.mk _ _ _ _ (gotI rc) = _; rw [hit.out]
      rw [hq.out, hone] at e2
      rw [hq.out] at e1
      have hs2 : Hid (l.length < en + kk' ∧ scanN k l kk' en (fs ++ [⟨near k, near a, (en : Int) - (a : Int), decide (st = 5), it⟩]) = R) := Lib.hid ⟨e1, e2 ▸ hs.out.2⟩
      have kw : IntKind.i64.wrap ((en : Int) - (a : Int)) = (en : Int) - (a : Int) := by rw [IntKind.wrap_i64]; omega
      obtain ⟨i0, hi, hz0, hz1, hz2⟩ := info_parts info_Found
      have hpa := HP w2 a ha
      clear hst hb3 hb0 hst5 hen e1 e2 hone hs hit hee hq HR HG HL HT HN HS HK
      have hsl := hst2.slice
      obtain ⟨A3, n3, m3, rfl⟩ := hsl
      obtain ⟨W3, hW3⟩ : ∃ W3, w2.alloc (.cells #[.int .u64 it.seq, .int .u64 it.ver, i64 it.index, i64 it.count, cx it.a it.b, .bool it.gone, .string it.key, .string it.value] 129) = W3 := ⟨_, rfl⟩
      rw [hW3] at hst2 hbI
      have hNI := (Array.getElem?_eq_some_iff.1 hbI).1
      have hNP := (Array.getElem?_eq_some_iff.1 hst2.out).1
      have hWI : Below w2.heap.size w2 W3 := hW3 ▸ Base.al (Below.refl _ _) _
      have nI : some w2.heap.size ≠ (Value.slice A3 n3 m3).ownBlock := fun e => by have := (hst1.own.lt _ e.symm).2; omega
      have nP : some po ≠ (Value.slice A3 n3 m3).ownBlock := fun e => by have := (hst2.own.lt _ e.symm).1; omega
      have i0' := cell_blk hbI 0
      have i1' := cell_blk hbI 1
      have i2' := cell_blk hbI 2
      have i3' := cell_blk hbI 3
      have i4' := cell_blk hbI 4
      have i5' := cell_blk hbI 5
      have i6' := cell_blk hbI 6
      have i7' := cell_blk hbI 7
      have o3' := cell_blk hst2.out 3
      have k0 := fun p : GrOf W3 (Value.slice A3 n3 m3).ownBlock => (gr_rd0 p hNI nI).trans i0'
      have k1 := fun p : GrOf W3 (Value.slice A3 n3 m3).ownBlock => (gr_rd0 p hNI nI).trans i1'
      have k2 := fun p : GrOf W3 (Value.slice A3 n3 m3).ownBlock => (gr_rd0 p hNI nI).trans i2'
      have k3 := fun p : GrOf W3 (Value.slice A3 n3 m3).ownBlock => (gr_rd0 p hNI nI).trans i3'
      have k4 := fun p : GrOf W3 (Value.slice A3 n3 m3).ownBlock => (gr_rd0 p hNI nI).trans i4'
      have k5 := fun p : GrOf W3 (Value.slice A3 n3 m3).ownBlock => (gr_rd0 p hNI nI).trans i5'
      have k6 := fun p : GrOf W3 (Value.slice A3 n3 m3).ownBlock => (gr_rd0 p hNI nI).trans i6'
      have k7 := fun p : GrOf W3 (Value.slice A3 n3 m3).ownBlock => (gr_rd0 p hNI nI).trans i7'
      have kv := fun p : GrOf W3 (Value.slice A3 n3 m3).ownBlock => (gr_rd0 p hNP nP).trans o3'
      have HST := Lib.hid hst2
      have HPA := fun W => Lib.hid (HP W a ha)
      clear hst1 hst2 hpa HP hWI
      rcases h45 with rfl | rfl
      all_goals
        go_wp2_with fail
        try rw [hW3]
        clear hW3
        refine wp_region_po (fun w' => ∃ p : GrOf W3 (Value.slice A3 n3 m3).ownBlock, w' = p.v) 14 [4, 12, 13] (by kernel_rfl) (by kernel_rfl) ⟨⟨_, grown_dr (grown_same _ _)⟩, rfl⟩ ?_
        simp only [List.take_succ_cons, List.take_zero, List.drop_succ_cons, List.drop_zero]
        have on0 := @on_rd0; have on1 := @on_rd1; have on2 := @on_rd2; have on3 := @on_new1; have on4 := @on_new2; have on5 := @gr_rd0
        repeat ((with_reducible refine seq_read ?_ ?_); (focus rfl); (intro K hK); (unfold readsAt); go_simp; first | ((with_reducible refine hK _ ?_); clear hK K) | (rw [if_neg (by intro h; cases h)]; (with_reducible refine hK _ ?_); clear hK K))
        refine seq_eff (by rfl) (by first | rfl | go_simp) ?_
        intro K hK
        unfold effAt2
        go_simp
        refine ⟨rfl, (HPA _).out.mono ?_⟩; rintro e5 x5 ⟨rfl, rfl⟩
        refine ⟨_, rfl, ⟨⟨_, grown_dr (grown_same _ _)⟩, rfl⟩, hK _ _ ?_⟩
        clear hK K
        repeat ((with_reducible refine seq_read ?_ ?_); (focus rfl); (intro K hK); (unfold readsAt); go_simp; first | ((with_reducible refine hK _ ?_); clear hK K) | (rw [if_neg (by intro h; cases h)]; (with_reducible refine hK _ ?_); clear hK K))
        refine seq_eff (by rfl) (by first | rfl | go_simp) ?_
        intro K hK
        unfold effAt2
        go_simp
      · refine ⟨⟨⟨_, grown_dr (grown_al (grown_same _ _) _)⟩, rfl⟩, hK _ _ ?_⟩
        clear hK K
        have hm6 := news_of W3 [cx (near k) (near a), .int .i64 ((en : Int) - (a : Int)), .bool false, .int .u64 it.seq, .int .u64 it.ver, i64 it.index, i64 it.count, cx it.a it.b, .bool it.gone, .string it.key, .string it.value] 131
        have own6 := (own_below HST.out.own (Base.al (Below.refl _ W3) (.cells #[cx (near k) (near a), .int .i64 ((en : Int) - (a : Int)), .bool false, .int .u64 it.seq, .int .u64 it.ver, i64 it.index, i64 it.count, cx it.a it.b, .bool it.gone, .string it.key, .string it.value] 131)))
        have hgr6 : W3.grownBy ((W3.alloc (.cells #[cx (near k) (near a), .int .i64 ((en : Int) - (a : Int)), .bool false, .int .u64 it.seq, .int .u64 it.ver, i64 it.index, i64 it.count, cx it.a it.b, .bool it.gone, .string it.key, .string it.value] 131)).drew) (Value.slice A3 n3 m3).ownBlock := grown_dr (grown_al (grown_same _ _) _)
        have hle6 : po + 1 ≤ W3.heap.size + 1 := by omega
        refine seq_eff (by rfl) (by first | rfl | go_simp) ?_
        intro K hK
        refine eff_append _ _ _ 117 rfl (po + 1) 131 i0 _ 11 120 Tryz.underlying117 hi hz0 hz1 hz2 rfl (by decide) (.slice A3 n3 m3) fs.length _ rfl (own_below own6 (Base.dr (Below.refl _ _))) ⟨W3.heap.size, 0, none⟩ 1 1 [cx (near k) (near a), .int .i64 ((en : Int) - (a : Int)), .bool false, .int .u64 it.seq, .int .u64 it.ver, i64 it.index, i64 it.count, cx it.a it.b, .bool it.gone, .string it.key, .string it.value] rfl rfl hm6 (by simp [Value.oneCell']) (by unfold maxLen; omega) (by omega) (by simp; omega) ?_
        intro v' x7 hown7 hgr7 halt7
        obtain ⟨A', n', c', rfl⟩ : ∃ A n c, v' = .slice A n c := by
          rcases hown7.2 with ⟨h1, _⟩ | ⟨g', c', _, h1, _⟩
          · exact ⟨_, _, _, h1⟩
          · exact ⟨_, _, _, h1⟩
        refine ⟨⟨⟨_, grown_trans hgr6 hgr7⟩, rfl⟩, hK _ _ ?_⟩
        clear hK K halt7
        clear on0 on1 on2 on3 on4 on5
        with_reducible refine seq_nil ?_
        have hst7 := Lib.hid (HST.out.step (f := ⟨near k, near a, (en : Int) - (a : Int), decide (4 = 5), it⟩) (grown_trans hgr6 hgr7) hown7)
        have hpo7 := ((grown_trans hgr6 hgr7).block po hNP nP).trans HST.out.out
        have c7 : x7.cell? ⟨po, 3, none⟩ = some (.slice A3 n3 m3) := cell_blk hpo7 3
        have f7 := frozen_blk hpo7 3
        clear hgr6 hgr7 hown7 own6 hm6 HST k0 k1 k2 k3 k4 k5 k6 k7 kv i0' i1' i2' i3' i4' i5' i6' i7' o3' hbI hpo7
        go_wp2
        go_step3
        refine ⟨rfl, ScanJ.mk' _ po en kk' _ _ (by rfl) hen2 (by simp; omega) hs2 hst7, ?_⟩
        simp [intOf]
        omega
      · refine ⟨⟨⟨_, grown_dr (grown_al (grown_same _ _) _)⟩, rfl⟩, hK _ _ ?_⟩
        clear hK K
        have hm6 := news_of W3 [cx (near k) (near a), .int .i64 ((en : Int) - (a : Int)), .bool true, .int .u64 it.seq, .int .u64 it.ver, i64 it.index, i64 it.count, cx it.a it.b, .bool it.gone, .string it.key, .string it.value] 131
        have own6 := (own_below HST.out.own (Base.al (Below.refl _ W3) (.cells #[cx (near k) (near a), .int .i64 ((en : Int) - (a : Int)), .bool true, .int .u64 it.seq, .int .u64 it.ver, i64 it.index, i64 it.count, cx it.a it.b, .bool it.gone, .string it.key, .string it.value] 131)))
        have hgr6 : W3.grownBy ((W3.alloc (.cells #[cx (near k) (near a), .int .i64 ((en : Int) - (a : Int)), .bool true, .int .u64 it.seq, .int .u64 it.ver, i64 it.index, i64 it.count, cx it.a it.b, .bool it.gone, .string it.key, .string it.value] 131)).drew) (Value.slice A3 n3 m3).ownBlock := grown_dr (grown_al (grown_same _ _) _)
        have hle6 : po + 1 ≤ W3.heap.size + 1 := by omega
        refine seq_eff (by rfl) (by first | rfl | go_simp) ?_
        intro K hK
        refine eff_append _ _ _ 117 rfl (po + 1) 131 i0 _ 11 120 Tryz.underlying117 hi hz0 hz1 hz2 rfl (by decide) (.slice A3 n3 m3) fs.length _ rfl (own_below own6 (Base.dr (Below.refl _ _))) ⟨W3.heap.size, 0, none⟩ 1 1 [cx (near k) (near a), .int .i64 ((en : Int) - (a : Int)), .bool true, .int .u64 it.seq, .int .u64 it.ver, i64 it.index, i64 it.count, cx it.a it.b, .bool it.gone, .string it.key, .string it.value] rfl rfl hm6 (by simp [Value.oneCell']) (by unfold maxLen; omega) (by omega) (by simp; omega) ?_
        intro v' x7 hown7 hgr7 halt7
        obtain ⟨A', n', c', rfl⟩ : ∃ A n c, v' = .slice A n c := by
          rcases hown7.2 with ⟨h1, _⟩ | ⟨g', c', _, h1, _⟩
          · exact ⟨_, _, _, h1⟩
          · exact ⟨_, _, _, h1⟩
        refine ⟨⟨⟨_, grown_trans hgr6 hgr7⟩, rfl⟩, hK _ _ ?_⟩
        clear hK K halt7
        clear on0 on1 on2 on3 on4 on5
        with_reducible refine seq_nil ?_
        have hst7 := Lib.hid (HST.out.step (f := ⟨near k, near a, (en : Int) - (a : Int), decide (5 = 5), it⟩) (grown_trans hgr6 hgr7) hown7)
        have hpo7 := ((grown_trans hgr6 hgr7).block po hNP nP).trans HST.out.out
        have c7 : x7.cell? ⟨po, 3, none⟩ = some (.slice A3 n3 m3) := cell_blk hpo7 3
        have f7 := frozen_blk hpo7 3
        clear hgr6 hgr7 hown7 own6 hm6 HST k0 k1 k2 k3 k4 k5 k6 k7 kv i0' i1' i2' i3' i4' i5' i6' i7' o3' hbI hpo7
        go_wp2
        go_step3
        refine ⟨rfl, ScanJ.mk' _ po en kk' _ _ (by rfl) hen2 (by simp; omega) hs2 hst7, ?_⟩
        simp [intOf]
        omega
    · have hst1 := hst.out.below' hb3
      have hst2 := hst1.below' (Base.al (Below.refl _ _) (.cells #[.int .u64 it.seq, .int .u64 it.ver, i64 it.index, i64 it.count, cx it.a it.b, .bool it.gone, .string it.key, .string it.value] 129))
      have hst6 : ¬ (recClass l a).1 = 6 := by rw [hq.out]; show ¬ st = 6; omega
      have hstn : ¬ (((recClass l a).1 = 4 ∨ (recClass l a).1 = 5) ∧ gotE (recClass l a).2.1 = 0) := by rw [hq.out]; show ¬ ((st = 4 ∨ st = 5) ∧ gotE rc = 0); rw [hee.out]; omega
      have hRR : R = (a, fs) := by rw [← hs.out.2]; exact scanN_stop hst6 hstn
      have hq1 : (recClass l a).1 = st := by rw [hq.out]
      have HRR := Lib.hid hRR
      have HQ1 := Lib.hid hq1
      clear hRR
      obtain ⟨A3, n3, m3, rfl⟩ := hst2.slice
      obtain ⟨W3, hW3⟩ : ∃ W3, w2.alloc (.cells #[.int .u64 it.seq, .int .u64 it.ver, i64 it.index, i64 it.count, cx it.a it.b, .bool it.gone, .string it.key, .string it.value] 129) = W3 := ⟨_, rfl⟩
      rw [hW3] at hst2
      have p0 := cell_blk hst2.res 0
      have p1 := cell_blk hst2.res 1
      have p2 := cell_blk hst2.res 2
      have p3 := cell_blk hst2.res 3
      have q0 := cell_blk hst2.out 0
      have q1 := cell_blk hst2.out 1
      have q2 := cell_blk hst2.out 2
      have q3 := cell_blk hst2.out 3
      have fp := fun o => frozen_blk hst2.res o
      have fq := fun o => frozen_blk hst2.out o
      have hne : w.heap.size + 1 ≠ po := Nat.ne_of_lt hst2.l2
      have hne' : po ≠ w.heap.size + 1 := Ne.symm hne
      have HST := Lib.hid hst2
      have hne1 := Lib.hid hne
      clear hst hst1 hst2 hb3 hb0 hst5 hen hs hit hee hq hq1 hst6 hstn HR HG HL HT HN HS HK HP
      rcases h0 with rfl | rfl | ⟨rfl | rfl, h0⟩
      · have e1 := HST.out.fin (.int .i64 a) (.bool (decide (l.length ≤ a))) [.int .i64 1, .int .i64 a, .bool (decide (l.length ≤ a)), .slice A3 n3 m3] rfl
        have E1 := Lib.hid e1
        clear e1 h
        go_wp2_with fail
        simp only [Exit.jump]
        change bodyPost _ _ _ _ _ (sets ((W3.setCell ⟨po, 1, none⟩ (.int .i64 a)).setCell ⟨po, 2, none⟩ (.bool (decide (l.length ≤ a)))) (w.heap.size + 1) 0 [.int .i64 1, .int .i64 a, .bool (decide (l.length ≤ a)), .slice A3 n3 m3])
        obtain ⟨z1, z2, z3⟩ := E1.out
        generalize (sets ((W3.setCell ⟨po, 1, none⟩ (.int .i64 a)).setCell ⟨po, 2, none⟩ (.bool (decide (l.length ≤ a)))) (w.heap.size + 1) 0 [.int .i64 1, .int .i64 a, .bool (decide (l.length ≤ a)), .slice A3 n3 m3]) = y at *
        have c0 := cell_blk z1 0
        have c1 := cell_blk z1 1
        have c2 := cell_blk z1 2
        have c3 := cell_blk z1 3
        refine bodyPost_ret (v := .agg #[i64 1, i64 a, .bool (decide (l.length ≤ a)), .slice A3 n3 m3]) (by simp [results, Tryz.results119, go_sem, c0, c1, c2, c3]) rfl ?_
        refine ⟨.slice A3 n3 m3, ?_, ?_, z3⟩
        · rw [HRR.out]
          show Ending.returned (.agg #[i64 1, i64 a, .bool (decide (l.length ≤ a)), .slice A3 n3 m3]) = Ending.returned (.agg #[i64 (1 : Nat), i64 a, .bool (!decide ((recClass l a).1 = 0) || decide (l.length ≤ a)), .slice A3 n3 m3])
          rw [HQ1.out]
          simp
        · rw [HRR.out]; exact z2
      · have e1 := HST.out.fin (.int .i64 a) (.bool true) [.int .i64 1, .int .i64 a, .bool true, .slice A3 n3 m3] rfl
        have E1 := Lib.hid e1
        clear e1 h
        go_wp2_with fail
        simp only [Exit.jump]
        change bodyPost _ _ _ _ _ (sets ((W3.setCell ⟨po, 1, none⟩ (.int .i64 a)).setCell ⟨po, 2, none⟩ (.bool true)) (w.heap.size + 1) 0 [.int .i64 1, .int .i64 a, .bool true, .slice A3 n3 m3])
        obtain ⟨z1, z2, z3⟩ := E1.out
        generalize (sets ((W3.setCell ⟨po, 1, none⟩ (.int .i64 a)).setCell ⟨po, 2, none⟩ (.bool true)) (w.heap.size + 1) 0 [.int .i64 1, .int .i64 a, .bool true, .slice A3 n3 m3]) = y at *
        have c0 := cell_blk z1 0
        have c1 := cell_blk z1 1
        have c2 := cell_blk z1 2
        have c3 := cell_blk z1 3
        refine bodyPost_ret (v := .agg #[i64 1, i64 a, .bool true, .slice A3 n3 m3]) (by simp [results, Tryz.results119, go_sem, c0, c1, c2, c3]) rfl ?_
        refine ⟨.slice A3 n3 m3, ?_, ?_, z3⟩
        · rw [HRR.out]
          show Ending.returned (.agg #[i64 1, i64 a, .bool true, .slice A3 n3 m3]) = Ending.returned (.agg #[i64 (1 : Nat), i64 a, .bool (!decide ((recClass l a).1 = 0) || decide (l.length ≤ a)), .slice A3 n3 m3])
          rw [HQ1.out]
          simp
        · rw [HRR.out]; exact z2
      · have e1 := HST.out.fin (.int .i64 a) (.bool true) [.int .i64 1, .int .i64 a, .bool true, .slice A3 n3 m3] rfl
        have E1 := Lib.hid e1
        have te : ((ee : Int) == 0) = false := by rw [beq_eq_false_iff_ne]; omega
        clear e1 h
        go_wp2_with fail
        simp only [Exit.jump]
        change bodyPost _ _ _ _ _ (sets ((W3.setCell ⟨po, 1, none⟩ (.int .i64 a)).setCell ⟨po, 2, none⟩ (.bool true)) (w.heap.size + 1) 0 [.int .i64 1, .int .i64 a, .bool true, .slice A3 n3 m3])
        obtain ⟨z1, z2, z3⟩ := E1.out
        generalize (sets ((W3.setCell ⟨po, 1, none⟩ (.int .i64 a)).setCell ⟨po, 2, none⟩ (.bool true)) (w.heap.size + 1) 0 [.int .i64 1, .int .i64 a, .bool true, .slice A3 n3 m3]) = y at *
        have c0 := cell_blk z1 0
        have c1 := cell_blk z1 1
        have c2 := cell_blk z1 2
        have c3 := cell_blk z1 3
        refine bodyPost_ret (v := .agg #[i64 1, i64 a, .bool true, .slice A3 n3 m3]) (by simp [results, Tryz.results119, go_sem, c0, c1, c2, c3]) rfl ?_
        refine ⟨.slice A3 n3 m3, ?_, ?_, z3⟩
        · rw [HRR.out]
          show Ending.returned (.agg #[i64 1, i64 a, .bool true, .slice A3 n3 m3]) = Ending.returned (.agg #[i64 (1 : Nat), i64 a, .bool (!decide ((recClass l a).1 = 0) || decide (l.length ≤ a)), .slice A3 n3 m3])
          rw [HQ1.out]
          simp
        · rw [HRR.out]; exact z2
      · have e1 := HST.out.fin (.int .i64 a) (.bool true) [.int .i64 1, .int .i64 a, .bool true, .slice A3 n3 m3] rfl
        have E1 := Lib.hid e1
        have te : ((ee : Int) == 0) = false := by rw [beq_eq_false_iff_ne]; omega
        clear e1 h
        go_wp2_with fail
        simp only [Exit.jump]
        change bodyPost _ _ _ _ _ (sets ((W3.setCell ⟨po, 1, none⟩ (.int .i64 a)).setCell ⟨po, 2, none⟩ (.bool true)) (w.heap.size + 1) 0 [.int .i64 1, .int .i64 a, .bool true, .slice A3 n3 m3])
        obtain ⟨z1, z2, z3⟩ := E1.out
        generalize (sets ((W3.setCell ⟨po, 1, none⟩ (.int .i64 a)).setCell ⟨po, 2, none⟩ (.bool true)) (w.heap.size + 1) 0 [.int .i64 1, .int .i64 a, .bool true, .slice A3 n3 m3]) = y at *
        have c0 := cell_blk z1 0
        have c1 := cell_blk z1 1
        have c2 := cell_blk z1 2
        have c3 := cell_blk z1 3
        refine bodyPost_ret (v := .agg #[i64 1, i64 a, .bool true, .slice A3 n3 m3]) (by simp [results, Tryz.results119, go_sem, c0, c1, c2, c3]) rfl ?_
        refine ⟨.slice A3 n3 m3, ?_, ?_, z3⟩
        · rw [HRR.out]
          show Ending.returned (.agg #[i64 1, i64 a, .bool true, .slice A3 n3 m3]) = Ending.returned (.agg #[i64 (1 : Nat), i64 a, .bool (!decide ((recClass l a).1 = 0) || decide (l.length ≤ a)), .slice A3 n3 m3])
          rw [HQ1.out]
          simp
        · rw [HRR.out]; exact z2
  · intro hr
    go_wp2_with fail
    refine (HD _ (Base.al (Base.al (Below.refl _ _) _) _)).out.mono ?_; rintro e x1 ⟨rfl, hb1⟩
    have hB1 := Base.tr (Base.al (Base.al (Below.refl _ w) _) _) hb1
    have kr := blk_below (blk_new1 w _ _) hb1
    have hs1 : w.heap.size + 1 < x1.heap.size := by have := hb1.size; simp at this; omega
    clear hb1
    go_wp2_with fail
    refine wp_label ?_
    simp only [Exit.then]
    rename_i K hKK
    refine hKK _ _ ?_
    refine hr _ _ ?_
    exact (ScanJ.mk' _ x1.heap.size 8 (l.length + 1) [] (.slice none 0 0) (by rfl) (by omega) (Nat.zero_le _) (Lib.hid ⟨by omega, HS.out⟩) (Lib.hid ⟨Base.al hB1 _, blk_old kr, blk_new x1 _, World.ownsRow_nil _ _ _ _, Nat.le_succ _, hs1⟩))
end Go.Proofs.YthiimpleljaimaaGreatDoor
