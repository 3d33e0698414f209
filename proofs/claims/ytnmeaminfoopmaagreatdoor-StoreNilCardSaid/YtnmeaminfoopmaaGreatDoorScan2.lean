/- flintref08.Of. -/
import Derived.Test.YtnmeaminfoopmaaGreatDoorMg12
import Derived.Test.YtnmeaminfoopmaaGreatDoorMg13
import Derived.Test.YtnmeaminfoopmaaGreatDoorRecR
import Derived.Test.YtnmeaminfoopmaaGreatDoorRingRGet
namespace Go.Proofs.YtnmeaminfoopmaaGreatDoor
open Go Go.RowKit Flo
attribute [local go_sem] run_store_complex

set_option maxHeartbeats 4000000 in
set_option maxRecDepth 100000 in
theorem rscanOf_no (s z : Int) (k : Nat) (A : Option Addr) (cap : Nat) (l : List Nat) (w : World) (h : Byt w (.slice A l.length cap) l) (hl : ∀ b ∈ l, b < 256) (hm : l.length ≤ 100000) (c : Nat) (hc : classB s z l = c) (h02 : c = 0 ∨ c = 2) :
    Calls Tryz.prog 57 #[geo s z, i64 k, .slice A l.length cap] w (ScanPost w ⟨c, 0, decide (c = 2), []⟩) := by
  have HC := fun W hB => rClass_any s z A l.length cap l W (Sl.below (w' := W) h hB) hl hm
  rw [hc] at HC
  have HD := fun W hB => Lib.hid (HC W hB)
  clear HC h hm hc hl
  rcases h02 with rfl | rfl
  all_goals
    go_enter Tryz.func57, Tryz.ntmps57
    go_wp2_with fail
    refine (HD _ (Base.al (Base.al (Below.refl _ _) _) _)).out.mono ?_; rintro e x1 ⟨rfl, hb1⟩
    have hs1 : w.heap.size + 1 < x1.heap.size := by have := hb1.size; simp at this; omega
    have hB1 := Base.tr (Base.al (Base.al (Below.refl _ w) _) _) hb1
    have kr := blk_below (blk_new1 w _ _) hb1
    clear hb1
    have fr := fun o => frozen_blk kr o
    have r0 := cell_blk kr 0
    have r1 := cell_blk kr 1
    have r2 := cell_blk kr 2
    have r3 := cell_blk kr 3
    go_wp2_with fail
  · change bodyPost _ _ _ _ _ ((sets x1 (w.heap.size + 1) 0 [.int .i64 0, .int .i64 0, .bool false, .slice none 0 0]).alloc _)
    have e4 := blk_old (x := .cells #[.int .i64 0, .int .i64 0, .bool false, .slice none 0 0] 100) (sets_at kr [.int .i64 0, .int .i64 0, .bool false, .slice none 0 0] rfl)
    have b4 := Base.al (sets_below (a := w) (Nat.le_succ _) [.int .i64 0, .int .i64 0, .bool false, .slice none 0 0] x1 0 hB1) (.cells #[.int .i64 0, .int .i64 0, .bool false, .slice none 0 0] 100)
    generalize ((sets x1 (w.heap.size + 1) 0 [.int .i64 0, .int .i64 0, .bool false, .slice none 0 0]).alloc _) = y at *
    have c0 := cell_blk e4 0
    have c1 := cell_blk e4 1
    have c2 := cell_blk e4 2
    have c3 := cell_blk e4 3
    exact bodyPost_ret (v := .agg #[i64 0, i64 0, .bool false, .slice none 0 0]) (by simp [results, Tryz.results57, go_sem, c0, c1, c2, c3]) rfl ⟨_, rfl, World.ownsRow_nil _ _ _ _, b4⟩
  · change bodyPost _ _ _ _ _ ((sets x1 (w.heap.size + 1) 0 [.int .i64 2, .int .i64 0, .bool true, .slice none 0 0]).alloc _)
    have e4 := blk_old (x := .cells #[.int .i64 2, .int .i64 0, .bool true, .slice none 0 0] 100) (sets_at kr [.int .i64 2, .int .i64 0, .bool true, .slice none 0 0] rfl)
    have b4 := Base.al (sets_below (a := w) (Nat.le_succ _) [.int .i64 2, .int .i64 0, .bool true, .slice none 0 0] x1 0 hB1) (.cells #[.int .i64 2, .int .i64 0, .bool true, .slice none 0 0] 100)
    generalize ((sets x1 (w.heap.size + 1) 0 [.int .i64 2, .int .i64 0, .bool true, .slice none 0 0]).alloc _) = y at *
    have c0 := cell_blk e4 0
    have c1 := cell_blk e4 1
    have c2 := cell_blk e4 2
    have c3 := cell_blk e4 3
    exact bodyPost_ret (v := .agg #[i64 2, i64 0, .bool true, .slice none 0 0]) (by simp [results, Tryz.results57, go_sem, c0, c1, c2, c3]) rfl ⟨_, rfl, World.ownsRow_nil _ _ _ _, b4⟩

set_option maxHeartbeats 2000000 in
set_option maxRecDepth 100000 in
theorem rscanOf_yes (s z : Int) (k : Nat) (A : Option Addr) (cap : Nat) (l : List Nat) (w : World) (h : Byt w (.slice A l.length cap) l) (hl : ∀ b ∈ l, b < 256) (hk : k ≤ 2147483647) (hc : classB s z l = 1) :
    Calls Tryz.prog 57 #[geo s z, i64 k, .slice A l.length cap] w (ScanPost w ⟨1, (scanN k l (l.length + 1) 8 []).1, (!decide ((recClass l (scanN k l (l.length + 1) 8 []).1).1 = 0)) || decide (l.length ≤ (scanN k l (l.length + 1) 8 []).1), (scanN k l (l.length + 1) 8 []).2⟩) := by
  have hg : 512 ≤ l.length ∧ l.length ≤ 4096 := by
    have : geoN s z l = true := by
      cases hn : geoN s z l with
      | true => rfl
      | false => unfold classB at hc; rw [if_pos hn] at hc; cases hc
    obtain ⟨h1, h2⟩ := geoN_yes this
    have := geoB_yes h1
    omega
  obtain ⟨hg1, hg2⟩ := hg
  have HC := fun W hB => rClass_any s z A l.length cap l W (Sl.below (w' := W) h hB) hl (by omega)
  rw [hc] at HC
  have HD := fun W hB => Lib.hid (HC W hB)
  obtain ⟨ab, off, rfl, hab, hx⟩ := Byt.cell h (by omega)
  clear hx HC hc
  have HR := fun (W : World) (a : Nat) (hB : Below w.heap.size w W) (ha : a ≤ l.length) => Lib.hid (refClass_any (some ⟨ab, off, none⟩) l.length cap l a W (Sl.below h hB) hl (by omega) (by omega) (by omega))
  have HG := fun (W : World) A n c (r : List Nat) (hy : Byt W (.slice A n c) r) (hr : ∀ b ∈ r, b < 256) (hrl : r.length ≤ 100000) => Lib.hid (show Makes 105 #[.slice A n c] W (.tuple #[(gotI r).val, i64 (gotE r)]) from rGetIt_any A n c r W hy hr hrl (readOf r) (readOf_of r))
  have HP := fun (W : World) (a : Nat) (ha : a ≤ l.length) => Lib.hid (rof_in k a W (by omega) (by omega) (by omega) (by omega))
  have HL := fun a => Lib.hid (recClass_cases l a)
  have HT := fun a => Lib.hid (recClass_lt hl a)
  have HN := fun a => Lib.hid (recClass_len l a)
  obtain ⟨R, hR⟩ : ∃ R, scanN k l (l.length + 1) 8 [] = R := ⟨_, rfl⟩
  rw [hR]
  have HS := Lib.hid hR
  have HK := Lib.hid hl
  clear hR hl
  go_enter Tryz.func57, Tryz.ntmps57
  go_wp2_with fail
  refine (HD _ (Base.al (Base.al (Below.refl _ _) _) _)).out.mono ?_; rintro e x1 ⟨rfl, hb1⟩
  have hB1 := Base.tr (Base.al (Base.al (Below.refl _ w) _) _) hb1
  have kr := blk_below (blk_new1 w _ _) hb1
  have hs1 : w.heap.size + 1 < x1.heap.size := by have := hb1.size; simp at this; omega
  clear hb1
  go_wp2_with fail
  have hst0 := Lib.hid (show ScanSt 100 w (w.heap.size + 1) x1.heap.size _ (.slice none 0 0) [] from ⟨Base.al hB1 _, blk_old kr, blk_new x1 (.cells #[.int .i64 1, .int .i64 0, .bool false, .slice none 0 0] 100), World.ownsRow_nil _ _ _ _, Nat.le_succ _, hs1⟩)
  clear kr hB1 hs1
  generalize x1.heap.size = po at *
  generalize x1.alloc _ = x2 at *
  go_loopw [8] (fun i wr => ∃ (a kk : Nat) (fs : List Found) (v : Value), i = .int .i64 a ∧ a ≤ l.length ∧ fs.length ≤ a ∧ Hid (l.length < a + kk ∧ scanN k l kk a fs = R) ∧ Hid (ScanSt 100 w (w.heap.size + 1) po wr v fs)) (fun i _ => l.length - (intOf i).toNat)
  case atStart => exact ⟨8, l.length + 1, [], .slice none 0 0, rfl, by omega, Nat.zero_le _, Lib.hid ⟨by omega, HS.out⟩, hst0⟩
  case round =>
    obtain ⟨a, kk, fs, v, rfl, ha, hfa, hs, hst⟩ := hrel
    have hb0 := hst.out.below
    go_wp2_with fail
    refine (HR wr a hb0 ha).out.mono ?_; rintro e1 w1 ⟨A1, n1, c1, rfl, hy1, hb1⟩
    have HLa := (HL a).out
    have HTa := (HT a).out
    have HNa := (HN a).out
    obtain ⟨q, hq0⟩ : ∃ q, recClass l a = q := ⟨_, rfl⟩
    rw [hq0] at HLa HTa HNa hy1 ⊢
    have hq := Lib.hid hq0
    clear hq0
    obtain ⟨st, rc, en⟩ := q
    simp only at HLa HTa HNa hy1 ⊢
    have hst5 : st = 0 ∨ st = 3 ∨ st = 4 ∨ st = 5 ∨ st = 6 := by
      rcases HLa with e | e | e
      · injection e with e _; exact .inl e
      · injection e with e _; exact .inr (.inl e)
      · obtain ⟨e, _⟩ := e; omega
    have hen : 4 ≤ st → a < en ∧ en ≤ l.length := by
      rcases HLa with e | e | e
      · injection e with e _; omega
      · injection e with e _; omega
      · intro _; exact ⟨e.2.1, e.2.2.1⟩
    clear HLa
    go_wp2_with fail
    refine (HG w1 A1 n1 c1 rc hy1 HTa (by omega)).out.mono ?_; rintro e2 w2 ⟨rfl, hb2⟩
    clear HTa HNa
    obtain ⟨it, hit0⟩ : ∃ it, gotI rc = it := ⟨_, rfl⟩
    obtain ⟨ee, hee0⟩ : ∃ ee, gotE rc = ee := ⟨_, rfl⟩
    rw [hit0, hee0]
    have hit := Lib.hid hit0
    have hee := Lib.hid hee0
    have hb3 := Base.tr hb1 hb2
    clear hit0 hee0 hy1 hb1 hb2
    have h3 := scan_three st ee hst5
    rcases h3 with rfl | ⟨h45, rfl⟩ | h0
    · obtain ⟨hen1, hen2⟩ := hen (by omega)
      clear hst5 hen
      have hst2 := Lib.hid ((hst.out.below' hb3).below' (Base.al (Below.refl _ _) (.cells #[.int .u64 it.seq, .int .u64 it.ver, i64 it.index, i64 it.count, cx it.a it.b, .bool it.gone, .string it.key, .string it.value] 73)))
      clear hst hb3 hb0
      go_wp2_with fail
      obtain ⟨kk', e1, e2⟩ := scanN_skip (s := k) (fs := fs) hs.out.1 ha (by rw [hq.out])
      rw [hq.out] at e1 e2
      refine ⟨⟨en, kk', fs, v, rfl, hen2, by omega, Lib.hid ⟨e1, e2 ▸ hs.out.2⟩, hst2⟩, ?_⟩
      simp [intOf]
      omega
    · obtain ⟨hen1, hen2⟩ := hen (by omega)
      have hst1 := hst.out.below' hb3
      have hst2 := hst1.below' (Base.al (Below.refl _ _) (.cells #[.int .u64 it.seq, .int .u64 it.ver, i64 it.index, i64 it.count, cx it.a it.b, .bool it.gone, .string it.key, .string it.value] 73))
      have hbI := blk_new w2 (.cells #[.int .u64 it.seq, .int .u64 it.ver, i64 it.index, i64 it.count, cx it.a it.b, .bool it.gone, .string it.key, .string it.value] 73)
      have t6 : ((st : Int) == 6) = false := by rw [beq_eq_false_iff_ne]; omega
      obtain ⟨kk', e1, e2⟩ := scanN_take (s := k) (fs := fs) hs.out.1 ha (by rw [hq.out]; exact h45) (by rw [hq.out]; exact hee.out)
      have hone : oneAt k l a = ⟨near k, near a, (en : Int) - (a : Int), decide (st = 5), it⟩ := by unfold oneAt; rw [hq.out]; show Found.mk _ _ _ _ (gotI rc) = _; rw [hit.out]
      rw [hq.out, hone] at e2
      rw [hq.out] at e1
      have hs2 : Hid (l.length < en + kk' ∧ scanN k l kk' en (fs ++ [⟨near k, near a, (en : Int) - (a : Int), decide (st = 5), it⟩]) = R) := Lib.hid ⟨e1, e2 ▸ hs.out.2⟩
      have kw : IntKind.i64.wrap ((en : Int) - (a : Int)) = (en : Int) - (a : Int) := by rw [IntKind.wrap_i64]; omega
      obtain ⟨i0, hi, hz0, hz1, hz2⟩ := info_parts info_Found
      have hpa := HP w2 a ha
      clear hst hb3 hb0 hst5 hen e1 e2 hone hs hit hee hq HR HG HL HT HN HS HK
      have hsl := hst2.slice
      obtain ⟨A3, n3, m3, rfl⟩ := hsl
      obtain ⟨W3, hW3⟩ : ∃ W3, w2.alloc (.cells #[.int .u64 it.seq, .int .u64 it.ver, i64 it.index, i64 it.count, cx it.a it.b, .bool it.gone, .string it.key, .string it.value] 73) = W3 := ⟨_, rfl⟩
      rw [hW3] at hst2 hbI
      have hNI := (Array.getElem?_eq_some_iff.1 hbI).1
      have hNP := (Array.getElem?_eq_some_iff.1 hst2.out).1
      have hWI : Below w2.heap.size w2 W3 := hW3 ▸ Base.al (Below.refl _ _) _
      have nI : some w2.heap.size ≠ (Value.slice A3 n3 m3).ownBlock := fun e => by have := (hst1.own.lt _ e.symm).2; omega
      have nP : some po ≠ (Value.slice A3 n3 m3).ownBlock := fun e => by have := (hst2.own.lt _ e.symm).1; omega
      have i0' := cell_blk hbI 0
      have i1' := cell_blk hbI 1
      have i2' := cell_blk hbI 2
      have i3' := cell_blk hbI 3
      have i4' := cell_blk hbI 4
      have i5' := cell_blk hbI 5
      have i6' := cell_blk hbI 6
      have i7' := cell_blk hbI 7
      have o3' := cell_blk hst2.out 3
      have k0 := fun p : GrOf W3 (Value.slice A3 n3 m3).ownBlock => (gr_rd0 p hNI nI).trans i0'
      have k1 := fun p : GrOf W3 (Value.slice A3 n3 m3).ownBlock => (gr_rd0 p hNI nI).trans i1'
      have k2 := fun p : GrOf W3 (Value.slice A3 n3 m3).ownBlock => (gr_rd0 p hNI nI).trans i2'
      have k3 := fun p : GrOf W3 (Value.slice A3 n3 m3).ownBlock => (gr_rd0 p hNI nI).trans i3'
      have k4 := fun p : GrOf W3 (Value.slice A3 n3 m3).ownBlock => (gr_rd0 p hNI nI).trans i4'
      have k5 := fun p : GrOf W3 (Value.slice A3 n3 m3).ownBlock => (gr_rd0 p hNI nI).trans i5'
      have k6 := fun p : GrOf W3 (Value.slice A3 n3 m3).ownBlock => (gr_rd0 p hNI nI).trans i6'
      have k7 := fun p : GrOf W3 (Value.slice A3 n3 m3).ownBlock => (gr_rd0 p hNI nI).trans i7'
      have kv := fun p : GrOf W3 (Value.slice A3 n3 m3).ownBlock => (gr_rd0 p hNP nP).trans o3'
      have HST := Lib.hid hst2
      have HPA := fun W => Lib.hid (HP W a ha)
      clear hst1 hst2 hpa HP hWI
      rcases h45 with rfl | rfl
      all_goals
        go_wp2_with fail
        try rw [hW3]
        clear hW3
        refine wp_region_po (fun w' => ∃ p : GrOf W3 (Value.slice A3 n3 m3).ownBlock, w' = p.v) 14 [4, 12, 13] (by kernel_rfl) (by kernel_rfl) ⟨⟨_, grown_dr (grown_same _ _)⟩, rfl⟩ ?_
        simp only [List.take_succ_cons, List.take_zero, List.drop_succ_cons, List.drop_zero]
        have on0 := @on_rd0; have on1 := @on_rd1; have on2 := @on_rd2; have on3 := @on_new1; have on4 := @on_new2; have on5 := @gr_rd0
        repeat ((with_reducible refine seq_read ?_ ?_); (focus rfl); (intro K hK); (unfold readsAt); go_simp; first | ((with_reducible refine hK _ ?_); clear hK K) | (rw [if_neg (by intro h; cases h)]; (with_reducible refine hK _ ?_); clear hK K))
        refine seq_eff (by rfl) (by first | rfl | go_simp) ?_
        intro K hK
        unfold effAt2
        go_simp
        refine ⟨rfl, (HPA _).out.mono ?_⟩; rintro e5 x5 ⟨rfl, rfl⟩
        refine ⟨_, rfl, ⟨⟨_, grown_dr (grown_same _ _)⟩, rfl⟩, hK _ _ ?_⟩
        clear hK K
        repeat ((with_reducible refine seq_read ?_ ?_); (focus rfl); (intro K hK); (unfold readsAt); go_simp; first | ((with_reducible refine hK _ ?_); clear hK K) | (rw [if_neg (by intro h; cases h)]; (with_reducible refine hK _ ?_); clear hK K))
        refine seq_eff (by rfl) (by first | rfl | go_simp) ?_
        intro K hK
        unfold effAt2
        go_simp
      · refine ⟨⟨⟨_, grown_dr (grown_al (grown_same _ _) _)⟩, rfl⟩, hK _ _ ?_⟩
        clear hK K
        have hm6 := news_of W3 [cx (near k) (near a), .int .i64 ((en : Int) - (a : Int)), .bool false, .int .u64 it.seq, .int .u64 it.ver, i64 it.index, i64 it.count, cx it.a it.b, .bool it.gone, .string it.key, .string it.value] 75
        have own6 := (own_below HST.out.own (Base.al (Below.refl _ W3) (.cells #[cx (near k) (near a), .int .i64 ((en : Int) - (a : Int)), .bool false, .int .u64 it.seq, .int .u64 it.ver, i64 it.index, i64 it.count, cx it.a it.b, .bool it.gone, .string it.key, .string it.value] 75)))
        have hgr6 : W3.grownBy ((W3.alloc (.cells #[cx (near k) (near a), .int .i64 ((en : Int) - (a : Int)), .bool false, .int .u64 it.seq, .int .u64 it.ver, i64 it.index, i64 it.count, cx it.a it.b, .bool it.gone, .string it.key, .string it.value] 75)).drew) (Value.slice A3 n3 m3).ownBlock := grown_dr (grown_al (grown_same _ _) _)
        have hle6 : po + 1 ≤ W3.heap.size + 1 := by omega
        refine seq_eff (by rfl) (by first | rfl | go_simp) ?_
        intro K hK
        refine eff_append _ _ _ 60 rfl (po + 1) 75 i0 _ 11 120 Tryz.underlying60 hi hz0 hz1 hz2 rfl (by decide) (.slice A3 n3 m3) fs.length _ rfl (own_below own6 (Base.dr (Below.refl _ _))) ⟨W3.heap.size, 0, none⟩ 1 1 [cx (near k) (near a), .int .i64 ((en : Int) - (a : Int)), .bool false, .int .u64 it.seq, .int .u64 it.ver, i64 it.index, i64 it.count, cx it.a it.b, .bool it.gone, .string it.key, .string it.value] rfl rfl hm6 (by simp [Value.oneCell']) (by unfold maxLen; omega) (by omega) (by simp; omega) ?_
        intro v' x7 hown7 hgr7 halt7
        obtain ⟨A', n', c', rfl⟩ : ∃ A n c, v' = .slice A n c := by
          rcases hown7.2 with ⟨h1, _⟩ | ⟨g', c', _, h1, _⟩
          · exact ⟨_, _, _, h1⟩
          · exact ⟨_, _, _, h1⟩
        refine ⟨⟨⟨_, grown_trans hgr6 hgr7⟩, rfl⟩, hK _ _ ?_⟩
        clear hK K halt7
        clear on0 on1 on2 on3 on4 on5
        with_reducible refine seq_nil ?_
        have hst7 := Lib.hid (HST.out.step (f := ⟨near k, near a, (en : Int) - (a : Int), decide (4 = 5), it⟩) (grown_trans hgr6 hgr7) hown7)
        have hpo7 := ((grown_trans hgr6 hgr7).block po hNP nP).trans HST.out.out
        have c7 : x7.cell? ⟨po, 3, none⟩ = some (.slice A3 n3 m3) := cell_blk hpo7 3
        have f7 := frozen_blk hpo7 3
        clear hgr6 hgr7 hown7 own6 hm6 HST k0 k1 k2 k3 k4 k5 k6 k7 kv i0' i1' i2' i3' i4' i5' i6' i7' o3' hbI hpo7
        go_wp2_with fail
        refine ⟨⟨en, kk', _, _, rfl, hen2, by simp; omega, hs2, hst7⟩, ?_⟩
        simp [intOf]
        omega
      · refine ⟨⟨⟨_, grown_dr (grown_al (grown_same _ _) _)⟩, rfl⟩, hK _ _ ?_⟩
        clear hK K
        have hm6 := news_of W3 [cx (near k) (near a), .int .i64 ((en : Int) - (a : Int)), .bool true, .int .u64 it.seq, .int .u64 it.ver, i64 it.index, i64 it.count, cx it.a it.b, .bool it.gone, .string it.key, .string it.value] 75
        have own6 := (own_below HST.out.own (Base.al (Below.refl _ W3) (.cells #[cx (near k) (near a), .int .i64 ((en : Int) - (a : Int)), .bool true, .int .u64 it.seq, .int .u64 it.ver, i64 it.index, i64 it.count, cx it.a it.b, .bool it.gone, .string it.key, .string it.value] 75)))
        have hgr6 : W3.grownBy ((W3.alloc (.cells #[cx (near k) (near a), .int .i64 ((en : Int) - (a : Int)), .bool true, .int .u64 it.seq, .int .u64 it.ver, i64 it.index, i64 it.count, cx it.a it.b, .bool it.gone, .string it.key, .string it.value] 75)).drew) (Value.slice A3 n3 m3).ownBlock := grown_dr (grown_al (grown_same _ _) _)
        have hle6 : po + 1 ≤ W3.heap.size + 1 := by omega
        refine seq_eff (by rfl) (by first | rfl | go_simp) ?_
        intro K hK
        refine eff_append _ _ _ 60 rfl (po + 1) 75 i0 _ 11 120 Tryz.underlying60 hi hz0 hz1 hz2 rfl (by decide) (.slice A3 n3 m3) fs.length _ rfl (own_below own6 (Base.dr (Below.refl _ _))) ⟨W3.heap.size, 0, none⟩ 1 1 [cx (near k) (near a), .int .i64 ((en : Int) - (a : Int)), .bool true, .int .u64 it.seq, .int .u64 it.ver, i64 it.index, i64 it.count, cx it.a it.b, .bool it.gone, .string it.key, .string it.value] rfl rfl hm6 (by simp [Value.oneCell']) (by unfold maxLen; omega) (by omega) (by simp; omega) ?_
        intro v' x7 hown7 hgr7 halt7
        obtain ⟨A', n', c', rfl⟩ : ∃ A n c, v' = .slice A n c := by
          rcases hown7.2 with ⟨h1, _⟩ | ⟨g', c', _, h1, _⟩
          · exact ⟨_, _, _, h1⟩
          · exact ⟨_, _, _, h1⟩
        refine ⟨⟨⟨_, grown_trans hgr6 hgr7⟩, rfl⟩, hK _ _ ?_⟩
        clear hK K halt7
        clear on0 on1 on2 on3 on4 on5
        with_reducible refine seq_nil ?_
        have hst7 := Lib.hid (HST.out.step (f := ⟨near k, near a, (en : Int) - (a : Int), decide (5 = 5), it⟩) (grown_trans hgr6 hgr7) hown7)
        have hpo7 := ((grown_trans hgr6 hgr7).block po hNP nP).trans HST.out.out
        have c7 : x7.cell? ⟨po, 3, none⟩ = some (.slice A3 n3 m3) := cell_blk hpo7 3
        have f7 := frozen_blk hpo7 3
        clear hgr6 hgr7 hown7 own6 hm6 HST k0 k1 k2 k3 k4 k5 k6 k7 kv i0' i1' i2' i3' i4' i5' i6' i7' o3' hbI hpo7
        go_wp2_with fail
        refine ⟨⟨en, kk', _, _, rfl, hen2, by simp; omega, hs2, hst7⟩, ?_⟩
        simp [intOf]
        omega
    · have hst1 := hst.out.below' hb3
      have hst2 := hst1.below' (Base.al (Below.refl _ _) (.cells #[.int .u64 it.seq, .int .u64 it.ver, i64 it.index, i64 it.count, cx it.a it.b, .bool it.gone, .string it.key, .string it.value] 73))
      have hst6 : ¬ (recClass l a).1 = 6 := by rw [hq.out]; show ¬ st = 6; omega
      have hstn : ¬ (((recClass l a).1 = 4 ∨ (recClass l a).1 = 5) ∧ gotE (recClass l a).2.1 = 0) := by rw [hq.out]; show ¬ ((st = 4 ∨ st = 5) ∧ gotE rc = 0); rw [hee.out]; omega
      have hRR : R = (a, fs) := by rw [← hs.out.2]; exact scanN_stop hst6 hstn
      have hq1 : (recClass l a).1 = st := by rw [hq.out]
      have HRR := Lib.hid hRR
      have HQ1 := Lib.hid hq1
      clear hRR
      obtain ⟨A3, n3, m3, rfl⟩ := hst2.slice
      obtain ⟨W3, hW3⟩ : ∃ W3, w2.alloc (.cells #[.int .u64 it.seq, .int .u64 it.ver, i64 it.index, i64 it.count, cx it.a it.b, .bool it.gone, .string it.key, .string it.value] 73) = W3 := ⟨_, rfl⟩
      rw [hW3] at hst2
      have p0 := cell_blk hst2.res 0
      have p1 := cell_blk hst2.res 1
      have p2 := cell_blk hst2.res 2
      have p3 := cell_blk hst2.res 3
      have q0 := cell_blk hst2.out 0
      have q1 := cell_blk hst2.out 1
      have q2 := cell_blk hst2.out 2
      have q3 := cell_blk hst2.out 3
      have fp := fun o => frozen_blk hst2.res o
      have fq := fun o => frozen_blk hst2.out o
      have hne : w.heap.size + 1 ≠ po := Nat.ne_of_lt hst2.l2
      have hne' : po ≠ w.heap.size + 1 := Ne.symm hne
      have HST := Lib.hid hst2
      have hne1 := Lib.hid hne
      clear hst hst1 hst2 hb3 hb0 hst5 hen hs hit hee hq hq1 hst6 hstn HR HG HL HT HN HS HK HP
      rcases h0 with rfl | rfl | ⟨rfl | rfl, h0⟩
      · cases hta : ((a : Int) == (l.length : Int))
        · have hd : decide (l.length ≤ a) = false := by rw [decide_eq_false_iff_not]; have := beq_eq_false_iff_ne.1 hta; omega
          have HDD := Lib.hid hd
          clear hd
          have e1 := HST.out.fin (.int .i64 a) (.bool false) [.int .i64 1, .int .i64 a, .bool false, .slice A3 n3 m3] rfl
          have E1 := Lib.hid e1
          clear e1 h
          go_wp2_with fail
          change bodyPost _ _ _ _ _ (sets ((W3.setCell ⟨po, 1, none⟩ (.int .i64 a)).setCell ⟨po, 2, none⟩ (.bool false)) (w.heap.size + 1) 0 [.int .i64 1, .int .i64 a, .bool false, .slice A3 n3 m3])
          obtain ⟨z1, z2, z3⟩ := E1.out
          generalize (sets ((W3.setCell ⟨po, 1, none⟩ (.int .i64 a)).setCell ⟨po, 2, none⟩ (.bool false)) (w.heap.size + 1) 0 [.int .i64 1, .int .i64 a, .bool false, .slice A3 n3 m3]) = y at *
          have c0 := cell_blk z1 0
          have c1 := cell_blk z1 1
          have c2 := cell_blk z1 2
          have c3 := cell_blk z1 3
          refine bodyPost_ret (v := .agg #[i64 1, i64 a, .bool false, .slice A3 n3 m3]) (by simp [results, Tryz.results57, go_sem, c0, c1, c2, c3]) rfl ?_
          refine ⟨.slice A3 n3 m3, ?_, ?_, z3⟩
          · rw [HRR.out]
            show Ending.returned (.agg #[i64 1, i64 a, .bool false, .slice A3 n3 m3]) = Ending.returned (.agg #[i64 (1 : Nat), i64 a, .bool (!decide ((recClass l a).1 = 0) || decide (l.length ≤ a)), .slice A3 n3 m3])
            rw [HQ1.out]
            rw [HDD.out]; rfl
          · rw [HRR.out]; exact z2
        · have hd : decide (l.length ≤ a) = true := by rw [decide_eq_true_iff]; have := beq_iff_eq.1 hta; omega
          have HDD := Lib.hid hd
          clear hd
          have e1 := HST.out.fin (.int .i64 a) (.bool true) [.int .i64 1, .int .i64 a, .bool true, .slice A3 n3 m3] rfl
          have E1 := Lib.hid e1
          clear e1 h
          go_wp2_with fail
          change bodyPost _ _ _ _ _ (sets ((W3.setCell ⟨po, 1, none⟩ (.int .i64 a)).setCell ⟨po, 2, none⟩ (.bool true)) (w.heap.size + 1) 0 [.int .i64 1, .int .i64 a, .bool true, .slice A3 n3 m3])
          obtain ⟨z1, z2, z3⟩ := E1.out
          generalize (sets ((W3.setCell ⟨po, 1, none⟩ (.int .i64 a)).setCell ⟨po, 2, none⟩ (.bool true)) (w.heap.size + 1) 0 [.int .i64 1, .int .i64 a, .bool true, .slice A3 n3 m3]) = y at *
          have c0 := cell_blk z1 0
          have c1 := cell_blk z1 1
          have c2 := cell_blk z1 2
          have c3 := cell_blk z1 3
          refine bodyPost_ret (v := .agg #[i64 1, i64 a, .bool true, .slice A3 n3 m3]) (by simp [results, Tryz.results57, go_sem, c0, c1, c2, c3]) rfl ?_
          refine ⟨.slice A3 n3 m3, ?_, ?_, z3⟩
          · rw [HRR.out]
            show Ending.returned (.agg #[i64 1, i64 a, .bool true, .slice A3 n3 m3]) = Ending.returned (.agg #[i64 (1 : Nat), i64 a, .bool (!decide ((recClass l a).1 = 0) || decide (l.length ≤ a)), .slice A3 n3 m3])
            rw [HQ1.out]
            rw [HDD.out]; rfl
          · rw [HRR.out]; exact z2
      · cases hta : ((a : Int) == (l.length : Int))
        all_goals
          have e1 := HST.out.fin (.int .i64 a) (.bool true) [.int .i64 1, .int .i64 a, .bool true, .slice A3 n3 m3] rfl
          have E1 := Lib.hid e1
          clear e1 h
          go_wp2_with fail
          change bodyPost _ _ _ _ _ (sets ((W3.setCell ⟨po, 1, none⟩ (.int .i64 a)).setCell ⟨po, 2, none⟩ (.bool true)) (w.heap.size + 1) 0 [.int .i64 1, .int .i64 a, .bool true, .slice A3 n3 m3])
          obtain ⟨z1, z2, z3⟩ := E1.out
          generalize (sets ((W3.setCell ⟨po, 1, none⟩ (.int .i64 a)).setCell ⟨po, 2, none⟩ (.bool true)) (w.heap.size + 1) 0 [.int .i64 1, .int .i64 a, .bool true, .slice A3 n3 m3]) = y at *
          have c0 := cell_blk z1 0
          have c1 := cell_blk z1 1
          have c2 := cell_blk z1 2
          have c3 := cell_blk z1 3
          refine bodyPost_ret (v := .agg #[i64 1, i64 a, .bool true, .slice A3 n3 m3]) (by simp [results, Tryz.results57, go_sem, c0, c1, c2, c3]) rfl ?_
          refine ⟨.slice A3 n3 m3, ?_, ?_, z3⟩
          · rw [HRR.out]
            show Ending.returned (.agg #[i64 1, i64 a, .bool true, .slice A3 n3 m3]) = Ending.returned (.agg #[i64 (1 : Nat), i64 a, .bool (!decide ((recClass l a).1 = 0) || decide (l.length ≤ a)), .slice A3 n3 m3])
            rw [HQ1.out]
            simp
          · rw [HRR.out]; exact z2
      · cases hta : ((a : Int) == (l.length : Int))
        all_goals
          have e1 := HST.out.fin (.int .i64 a) (.bool true) [.int .i64 1, .int .i64 a, .bool true, .slice A3 n3 m3] rfl
          have E1 := Lib.hid e1
          have te : ((ee : Int) == 0) = false := by rw [beq_eq_false_iff_ne]; omega
          clear e1 h
          go_wp2_with fail
          change bodyPost _ _ _ _ _ (sets ((W3.setCell ⟨po, 1, none⟩ (.int .i64 a)).setCell ⟨po, 2, none⟩ (.bool true)) (w.heap.size + 1) 0 [.int .i64 1, .int .i64 a, .bool true, .slice A3 n3 m3])
          obtain ⟨z1, z2, z3⟩ := E1.out
          generalize (sets ((W3.setCell ⟨po, 1, none⟩ (.int .i64 a)).setCell ⟨po, 2, none⟩ (.bool true)) (w.heap.size + 1) 0 [.int .i64 1, .int .i64 a, .bool true, .slice A3 n3 m3]) = y at *
          have c0 := cell_blk z1 0
          have c1 := cell_blk z1 1
          have c2 := cell_blk z1 2
          have c3 := cell_blk z1 3
          refine bodyPost_ret (v := .agg #[i64 1, i64 a, .bool true, .slice A3 n3 m3]) (by simp [results, Tryz.results57, go_sem, c0, c1, c2, c3]) rfl ?_
          refine ⟨.slice A3 n3 m3, ?_, ?_, z3⟩
          · rw [HRR.out]
            show Ending.returned (.agg #[i64 1, i64 a, .bool true, .slice A3 n3 m3]) = Ending.returned (.agg #[i64 (1 : Nat), i64 a, .bool (!decide ((recClass l a).1 = 0) || decide (l.length ≤ a)), .slice A3 n3 m3])
            rw [HQ1.out]
            simp
          · rw [HRR.out]; exact z2
      · cases hta : ((a : Int) == (l.length : Int))
        all_goals
          have e1 := HST.out.fin (.int .i64 a) (.bool true) [.int .i64 1, .int .i64 a, .bool true, .slice A3 n3 m3] rfl
          have E1 := Lib.hid e1
          have te : ((ee : Int) == 0) = false := by rw [beq_eq_false_iff_ne]; omega
          clear e1 h
          go_wp2_with fail
          change bodyPost _ _ _ _ _ (sets ((W3.setCell ⟨po, 1, none⟩ (.int .i64 a)).setCell ⟨po, 2, none⟩ (.bool true)) (w.heap.size + 1) 0 [.int .i64 1, .int .i64 a, .bool true, .slice A3 n3 m3])
          obtain ⟨z1, z2, z3⟩ := E1.out
          generalize (sets ((W3.setCell ⟨po, 1, none⟩ (.int .i64 a)).setCell ⟨po, 2, none⟩ (.bool true)) (w.heap.size + 1) 0 [.int .i64 1, .int .i64 a, .bool true, .slice A3 n3 m3]) = y at *
          have c0 := cell_blk z1 0
          have c1 := cell_blk z1 1
          have c2 := cell_blk z1 2
          have c3 := cell_blk z1 3
          refine bodyPost_ret (v := .agg #[i64 1, i64 a, .bool true, .slice A3 n3 m3]) (by simp [results, Tryz.results57, go_sem, c0, c1, c2, c3]) rfl ?_
          refine ⟨.slice A3 n3 m3, ?_, ?_, z3⟩
          · rw [HRR.out]
            show Ending.returned (.agg #[i64 1, i64 a, .bool true, .slice A3 n3 m3]) = Ending.returned (.agg #[i64 (1 : Nat), i64 a, .bool (!decide ((recClass l a).1 = 0) || decide (l.length ≤ a)), .slice A3 n3 m3])
            rw [HQ1.out]
            simp
          · rw [HRR.out]; exact z2
end Go.Proofs.YtnmeaminfoopmaaGreatDoor
