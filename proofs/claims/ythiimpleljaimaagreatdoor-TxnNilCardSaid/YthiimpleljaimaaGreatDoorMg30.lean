/- (*Store).adds of what does not count yet; Gone. -/
import Derived.Test.YthiimpleljaimaaGreatDoorMg21
import Derived.Test.YthiimpleljaimaaGreatDoorMg10
import Derived.Test.YthiimpleljaimaaGreatDoorRingC
namespace Go.Proofs.YthiimpleljaimaaGreatDoor
open Go Go.RowKit Flo
attribute [local go_sem] run_store_complex

theorem info_pnote : (Tryz.prog.info? 188).map (fun i => (i.zero, i.size, i.bytes)) = some (some nilP, 1, 8) := by kernel_rfl

set_option maxHeartbeats 8000000 in
set_option maxRecDepth 100000 in
theorem adds_no {O : Nat → Prop} {B : Nat} {w : World} {T : StV} (h : StR O B w T) (f : Found) (s o : Nat) (ha : part? f.at0 = some s) (hb : part? f.at1 = some o) (hlen : T.nts.length ≤ 100000) :
    Calls Tryz.prog 59 #[T.ptr, .agg f.row.toArray, .bool false] w fun e w' => e = .returned (.tuple #[]) ∧ ∃ nb v, StR O B w' { T with nv := v, nts := T.nts ++ [⟨nb, f, s, false⟩] } ∧ w.heap.size ≤ nb ∧ (v.ownBlock = T.nv.ownBlock ∨ ∃ g, v.ownBlock = some g ∧ w.heap.size ≤ g) ∧ Out T.own w w' := by
  obtain ⟨i0, hi, hz0, hz1, hz2⟩ := info_parts info_pnote
  have g0 : ∀ W, Hid (Gives 85 #[cx f.at0 f.at1] W (.tuple #[i64 s, i64 o, .bool true])) := fun W => Lib.hid (parts_yes W ha hb)
  obtain ⟨a0, a1, sz, st, ⟨sq, vr, ix, ct, pa, pb, gn, ky, vl⟩⟩ := f
  simp only at g0
  obtain ⟨X, hX⟩ : ∃ X : Obj, X = .cells #[cx a0 a1, i64 sz, .bool st, .int .u64 sq, .int .u64 vr, i64 ix, i64 ct, cx pa pb, .bool gn, .string ky, .string vl] 131 := ⟨_, rfl⟩
  obtain ⟨Y, hY⟩ : ∃ Y : Obj, Y = .cells #[cx a0 a1, i64 sz, .bool st, .int .u64 sq, .int .u64 vr, i64 ix, i64 ct, cx pa pb, .bool gn, .string ky, .string vl, i64 s, .bool false] 190 := ⟨_, rfl⟩
  have HH := Lib.hid h
  have HY := Lib.hid hY
  have c3 : w.cell? ⟨T.TB, 4, none⟩ = some T.nv := cell_blk h.box 4
  have hbs := h.base
  have hlt := h.lt
  clear h ha hb hX hY
  go_enter Tryz.func59, Tryz.ntmps59
  go_wp2_with fail
  refine (g0 _).out.mono ?_; rintro e x1 ⟨rfl, rfl⟩
  obtain ⟨W2, hW2⟩ : ∃ W, W = (w.alloc (Obj.cells #[cx a0 a1, i64 sz, .bool st, .int .u64 sq, .int .u64 vr, i64 ix, i64 ct, cx pa pb, .bool gn, .string ky, .string vl] 131)).alloc (Obj.cells #[cx a0 a1, i64 sz, .bool st, .int .u64 sq, .int .u64 vr, i64 ix, i64 ct, cx pa pb, .bool gn, .string ky, .string vl, i64 s, .bool false] 190) := ⟨_, rfl⟩
  have hS2 : StR O B W2 T := by rw [hW2]; exact HH.out.below (Base.al (Base.al (Below.refl _ _) _) _)
  have hb2 : Below w.heap.size w W2 := by rw [hW2]; exact Base.al (Base.al (Below.refl _ _) _) _
  have hnt : W2.heap[w.heap.size + 1]? = some (.cells (Nt.row ⟨w.heap.size + 1, ⟨a0, a1, sz, st, ⟨sq, vr, ix, ct, pa, pb, gn, ky, vl⟩⟩, s, false⟩).toArray 190 (0, 0)) := by rw [hW2]; exact blk_new1 w _ _
  have hz2' : W2.heap.size = w.heap.size + 1 + 1 := by rw [hW2]; simp
  have hnew : ∀ y ∈ T.nts, y.b ≠ w.heap.size + 1 := fun y hy e => by
    have := (Array.getElem?_eq_some_iff.1 (HH.out.nt y hy).1).1
    omega
  have HS2 := Lib.hid hS2
  have HB2 := Lib.hid hb2
  have HNT := Lib.hid hnt
  have HNW := Lib.hid hnew
  have HW2 := Lib.hid hW2
  clear hS2 hb2 hnt hnew hW2
  go_wp2_with (at_builtin; rw [← HW2.out]; refine wpList_append_apart _ rfl _ _ 122 rfl B 188 i0 _ 1 8 Tryz.underlying122 hi hz0 hz1 hz2 rfl (by decide) _ _ _ rfl (HS2.out.own.alloc _) ⟨w.heap.size + 1 + 1, 0, none⟩ 1 1 [.pointer (some ⟨w.heap.size + 1, 0, none⟩)] rfl rfl ?c1 ?c2 ?c3 ?c4 ?c5 ?_)
  case c1 => exact news_at hz2' _ _
  case c2 => simp [Value.oneCell']
  case c3 => unfold maxLen; omega
  case c4 => omega
  case c5 => simp; omega
  intro v w3 hown hgr hblk
  obtain ⟨A3, n3, k3, rfl⟩ : ∃ A n c, v = .slice A n c := by
    rcases hown.2 with ⟨h1, _⟩ | ⟨g', c', _, h1, _⟩
    · exact ⟨_, _, _, h1⟩
    · exact ⟨_, _, _, h1⟩
  have hA := HS2.out.below (Base.al (Below.refl _ W2) (.cells #[.pointer (some ⟨w.heap.size + 1, 0, none⟩)] 188))
  have hS3 := hA.noted (x := ⟨w.heap.size + 1, ⟨a0, a1, sz, st, ⟨sq, vr, ix, ct, pa, pb, gn, ky, vl⟩⟩, s, false⟩) hgr hown (blk_old HNT.out) (by show B ≤ w.heap.size + 1; omega) HNW.out
  have hb3 : Out T.own w (w3.setCell ⟨T.TB, 4, none⟩ (.slice A3 n3 k3)) := (((Out.of_below (HB2.out)).trans (Out.of_below (Base.al (Below.refl _ _) _))).trans (outGr hgr (fun g e => .inr (.inr (.inl e))))).set (.inl rfl) _ _
  have hblk3 : Hid ((Value.slice A3 n3 k3).ownBlock = T.nv.ownBlock ∨ ∃ g, (Value.slice A3 n3 k3).ownBlock = some g ∧ w.heap.size ≤ g) := Lib.hid (by
    rcases hblk with e | e
    · exact .inl e
    · refine .inr ⟨_, e, ?_⟩
      have := HB2.out.size
      simp
      omega)
  have k4 : w3.cell? ⟨T.TB, 4, none⟩ = some T.nv := cell_blk (keepNS hA.own hgr hA.box (by decide)) 4
  have f1 := fun o => frozen_blk (keepNS hA.own hgr hA.box (by decide)) o
  have HS3 := Lib.hid hS3
  have HB3 := Lib.hid hb3
  clear hA hS3 hb3 hown hgr hblk HS2 HB2 HNT HNW HW2
  go_wp2_with fail
  first | go_end0 | refine bodyPost_ret (results_none rfl _ _ _) rfl ?_
  exact ⟨rfl, _, _, HS3.out, by omega, hblk3.out, HB3.out⟩

set_option maxHeartbeats 4000000 in
set_option maxRecDepth 100000 in
theorem stGone_nil (w : World) : Makes 41 #[nilP] w (.bool true) := by
  go_enter Tryz.func41, Tryz.ntmps41
  go_wp2_with fail
  refine wp_region_quiet_on (by kernel_rfl) (by kernel_rfl) ?_
  repeat ((with_reducible refine wpQuiet_step (fun K hK => ?_)); go_simp; first | ((with_reducible refine hK _ ?_); clear hK K) | (rw [if_neg (by intro h; cases h)]; (with_reducible refine hK _ ?_); clear hK K) | (apply Exists.intro; refine ⟨fun _ => ?_, hK _ ?_⟩; (fail); clear hK K))
  with_reducible refine wpQuiet_nil ?_
  intro _ hw'
  obtain ⟨pq, hw''⟩ := hw'
  subst hw''
  go_wp2_with fail
  go_ret
  exact ⟨rfl, pq.h⟩
set_option maxHeartbeats 4000000 in
set_option maxRecDepth 100000 in
theorem stGone_any {O : Nat → Prop} {B : Nat} {w : World} {T : StV} (h : StR O B w T) (hon : T.N.off = false) (hof : T.offs = T.N.offs) : Makes 41 #[T.ptr] w (.bool false) := by
  have g1 := fun p : OnOf w => isOn_any (h.sh.dev.below p.h)
  rw [hon] at g1
  have G1 := fun p : OnOf w => Lib.hid (g1 p)
  have G2 := fun p : OnOf w => Lib.hid (offs_any (h.sh.dev.below p.h))
  have hbs := h.lt
  have c0 : w.cell? ⟨T.TB, 0, none⟩ = some (ptrD T.N) := cell_blk h.box 0
  have c8 : w.cell? ⟨T.TB, 8, none⟩ = some (i64 T.N.offs) := by rw [← hof]; exact cell_blk h.box 8
  have q0 := fun p : OnOf w => on_cell hbs c0 p
  have q8 := fun p : OnOf w => on_cell hbs c8 p
  clear g1 h hof hon c0 c8
  go_enter Tryz.func41, Tryz.ntmps41
  go_wp2_with fail
  refine wp_region_quiet_on (by kernel_rfl) (by kernel_rfl) ?_
  repeat ((with_reducible refine wpQuiet_step (fun K hK => ?_)); go_simp; first | ((with_reducible refine hK _ ?_); clear hK K) | (rw [if_neg (by intro h; cases h)]; (with_reducible refine hK _ ?_); clear hK K) | (apply Exists.intro; refine ⟨fun _ => ?_, hK _ ?_⟩; (first | (with_reducible exact on_of_same (G1 _).out) | (with_reducible exact on_of_same (G2 _).out)); clear hK K))
  with_reducible refine wpQuiet_nil ?_
  intro _ hw'
  obtain ⟨pq, hw''⟩ := hw'
  subst hw''
  go_wp2_with fail
  go_ret
  exact ⟨rfl, pq.h⟩
end Go.Proofs.YthiimpleljaimaaGreatDoor

/- store.Open on a device where nothing is found. -/
namespace Go.Proofs.YthiimpleljaimaaGreatDoor
open Go Go.RowKit Flo
attribute [local go_sem] run_store_complex

set_option maxHeartbeats 4000000 in
set_option maxRecDepth 100000 in
theorem open_nil (w : World) : Makes 26 #[nilD] w (.tuple #[nilP, i64 7]) := by
  have G := fun W => Lib.hid (shelfNew_nil W)
  go_enter Tryz.func26, Tryz.ntmps26
  go_wp2_with fail
  refine (G _).out.mono ?_; rintro e x1 ⟨rfl, hb1⟩
  go_wp2_with fail
  go_ret2
  exact ⟨rfl, hb1⟩

/-- What Open comes back with, where nothing is found. -/
def OpenPost (O : Nat → Prop) (w : World) (N : Nor) (e : Ending) (w' : World) : Prop :=
  ∃ (B : Nat) (T : StV), e = .returned (.tuple #[T.ptr, i64 0]) ∧ StR O B w' T ∧ T.N = N ∧ T.nts = [] ∧ T.nm = [] ∧ T.t = .nil ∧ T.seq = 1 ∧ T.offs = N.offs ∧ T.H.S = N.S ∧ T.H.Z = N.Z ∧ T.H.il = shInfos N N.S ∧ T.H.el = shEnds N N.S ∧ T.H.op = -1 ∧ (∀ k, T.H.own k → w.heap.size ≤ k) ∧ (∀ k, T.own k → w.heap.size ≤ k) ∧ w.heap.size ≤ B ∧ Below w.heap.size w w'

set_option maxHeartbeats 16000000 in
set_option maxRecDepth 100000 in
theorem open_any {O : Nat → Prop} {w : World} {N : Nor} (hd : DevR O w N) (hon : N.off = false) (hfr : shFound N N.S = []) : Calls Tryz.prog 26 #[ptrD N] w (OpenPost O w N) := by
  have hgeo := hd.geoI
  have hmm := fun W => @run_makeMap Tryz.prog 121 W
  have G1 := Lib.hid (shelfNew_any hd hon)
  have GG := fun W (h : DevR O W N) => Lib.hid (geom_any h)
  have GO := fun W (h : DevR O W N) => Lib.hid (offs_any h)
  have GT := fun W => Lib.hid (treeNew_any W)
  have GC := fun W A n c (h : Founds W (.slice A n c) []) => Lib.hid (count_any A n c [] W h (by simp))
  have GA : ∀ W, Hid (Gives 60 #[.int .u64 0] W (.int .u64 1)) := fun W => Lib.hid (above_any 0 W (by decide))
  have HD := Lib.hid hd
  have HF := Lib.hid hfr
  clear hd hfr
  go_enter Tryz.func26, Tryz.ntmps26
  go_wp2_with fail
  unfold ShPost at G1
  refine G1.out.mono ?_; rintro e w1 ⟨x1, SB, fv, lv, ev, rfl, hsn, hb1⟩
  obtain ⟨H, hSB, hil, hel, hop, hHD, hHS, hHZ, hsr, hl1, hl2⟩ := hsn.shelf (shInfos_len N N.S) (shEnds_len N N.S) (by omega) (by omega) (by omega)
  have hbw := ShPost.below hsn hb1
  have hxs := hb1.size
  have hsl := hsn.lt
  have hfar : ∀ k, H.own k → w.heap.size ≤ k := by
    intro k hk
    rcases hk with hk | hk | hk <;> omega
  have hsd : ShD O w1 N H := ⟨HD.out.below hbw, hsr, hHD, hHS, hHZ, fun k hk ho => by
    have := hfar k hk
    have := HD.out.lim k ho
    omega⟩
  have hlim : ∀ k, shO O H k → k < w1.heap.size := by
    intro k hk
    rcases hk with hk | hk | hk | hk
    · exact (HD.out.below hbw).lim k hk
    · rw [hk]; exact (Array.getElem?_eq_some_iff.1 hsr.hS).1
    · rw [hk]; obtain ⟨_, h⟩ := hsr.hL; exact (Array.getElem?_eq_some_iff.1 h).1
    · rw [hk]; obtain ⟨_, h⟩ := hsr.hE; exact (Array.getElem?_eq_some_iff.1 h).1
  have hfo := hsn.ownF
  rw [HF.out] at hfo
  obtain ⟨A9, c9, rfl⟩ : ∃ A c, fv = .slice A 0 c := by
    rcases hfo.2 with ⟨h1, _⟩ | ⟨g', c', _, h1, _⟩
    · exact ⟨_, _, h1⟩
    · exact ⟨_, _, h1⟩
  have HFO : Hid (Founds w1 (.slice A9 0 c9) []) := Lib.hid (Sl.own [] (by simp) hfo)
  rw [← hSB]
  have HSD := Lib.hid hsd
  have HLM := Lib.hid hlim
  have HFAR := Lib.hid hfar
  have HBW := Lib.hid hbw
  have HIL := Lib.hid hil
  have HEL := Lib.hid hel
  have HOP := Lib.hid hop
  have HHS := Lib.hid hHS
  have HHZ := Lib.hid hHZ
  have hd1 := HD.out.below hbw
  clear G1 hsn hsr hsd hlim hfar hbw hil hel hop hHD hHS hHZ hl1 hl2 hSB hb1 hxs hsl hfo
  go_wp2_with fail
  refine (GG _ hd1).out.mono ?_; rintro e w2 ⟨rfl, hb2⟩
  have hd2 := (hd1.below hb2).below (Base.al (Below.refl _ w2) (.map #[] 0))
  go_wp2_with fail
  refine (GT _).out.mono ?_; rintro e w3 ⟨rfl, rfl⟩
  go_wp2_with fail
  refine (GO _ hd2).out.mono ?_; rintro e w4 ⟨rfl, rfl⟩
  go_wp2_with fail
  have hz2 := hb2.size
  obtain ⟨w5, hw5⟩ : ∃ W, W = (w2.alloc (.map #[] 0)).alloc (.cells #[ptrD N, i64 N.S, i64 N.Z, .pointer (some ⟨H.SB, 0, none⟩), .slice none 0 0, .map (some w2.heap.size), nilP, .int .u64 0, i64 N.offs] 124) := ⟨_, rfl⟩
  rw [← hw5]
  have hb5 : Below w1.heap.size w1 w5 := by rw [hw5]; exact Base.al (Base.al hb2 _) _
  have hS5 : StR O w1.heap.size w5 ⟨w2.heap.size + 1, w2.heap.size, N, H, .slice none 0 0, [], [], .pointer none, .nil, 0, N.offs⟩ :=
    { sh := HSD.out.below hb5, lim := HLM.out, box := by rw [hw5]; exact blk_new1 w2 _ _, tb := by show w1.heap.size ≤ w2.heap.size + 1; omega, own := World.ownsRow_nil _ _ _ _, nt := fun x hx => (by cases hx), nd := List.nodup_nil,
      map := by rw [hw5]; exact (MapR.made _ w2).below (Base.al (Below.refl _ _) _), mb := hz2, tree := rfl }
  have HS5 := Lib.hid hS5
  have HF5 := Sl.below HFO.out hb5
  have HB5 := Lib.hid (Base.tr HBW.out hb5)
  have HZ1 := HBW.out.size
  have HOWN : Hid (∀ k, StV.own ⟨w2.heap.size + 1, w2.heap.size, N, H, .slice none 0 0, [], [], .pointer none, .nil, 1, N.offs⟩ k → w.heap.size ≤ k) := Lib.hid (fun k hk => by
    rcases hk with hk | hk | hk | ⟨y, hy, _⟩
    · have hk' : k = w2.heap.size + 1 := hk
      omega
    · have hk' : k = w2.heap.size := hk
      omega
    · cases hk
    · cases hy)
  clear hw5 hb5 hS5 hd1 hd2 hb2 HD HFO HBW hmm
  go_wp2_with fail
  refine (GC _ A9 0 c9 HF5).out.mono ?_; rintro e w6 ⟨v6, rfl, -, hb6⟩
  have HS6 := Lib.hid (HS5.out.below hb6)
  have HB6 := Lib.hid (Base.tr HB5.out hb6)
  clear HS5 HB5 HF5 hb6
  go_wp2_with fail
  go_loopw [34] (fun iv wr => iv = i64 0 ∧ wr = w6) (fun _ _ => 0)
  case atStart => exact ⟨rfl, rfl⟩
  case round =>
    obtain ⟨rfl, rfl⟩ := hrel
    have c7 : wr.cell? ⟨w2.heap.size + 1, 7, none⟩ = some (.int .u64 0) := cell_blk HS6.out.box 7
    have fz := fun o => frozen_blk HS6.out.box o
    have hlt := HS6.out.lt
    have hlt' : w2.heap.size + 1 < wr.heap.size := hlt
    clear hlt
    go_wp2_with fail
    refine (GA _).out.mono ?_; rintro e x1 ⟨rfl, rfl⟩
    have hS7 := HS6.out.setBox (T' := ⟨w2.heap.size + 1, w2.heap.size, N, H, .slice none 0 0, [], [], .pointer none, .nil, 1, N.offs⟩) 7 (.int .u64 1) rfl rfl rfl
    have HS7 := Lib.hid hS7
    have HB7 := Lib.hid (Base.st HB6.out (g := w2.heap.size + 1) (by omega) 7 (.int .u64 1))
    clear hS7 HS6
    go_wp2_with fail
    go_ret2
    exact ⟨_, _, rfl, HS7.out, rfl, rfl, rfl, rfl, rfl, rfl, HHS.out, HHZ.out, HIL.out, HEL.out, HOP.out, HFAR.out, HOWN.out, HZ1, HB7.out⟩
end Go.Proofs.YthiimpleljaimaaGreatDoor

/- A nil store; a store's tree. -/
namespace Go.Proofs.YthiimpleljaimaaGreatDoor
open Go Go.RowKit Flo
attribute [local go_sem] run_store_complex

set_option maxHeartbeats 4000000 in
set_option maxRecDepth 100000 in
theorem stPut_nil (v : Value) (w : World) : Makes 67 #[nilP, v] w (i64 7) := by
  have G := fun W => Lib.hid (stGone_nil W)
  go_enter Tryz.func67, Tryz.ntmps67
  go_wp2_with fail
  refine (G _).out.mono ?_; rintro e x1 ⟨rfl, hb1⟩
  go_wp2_with fail
  go_ret
  exact ⟨rfl, hb1⟩
set_option maxHeartbeats 4000000 in
set_option maxRecDepth 100000 in
theorem stTree_nil (w : World) : Gives 27 #[nilP] w nilP := by
  go_enter Tryz.func27, Tryz.ntmps27
  go_wp2_with fail
  go_ret
  exact ⟨rfl, rfl⟩
set_option maxHeartbeats 4000000 in
set_option maxRecDepth 100000 in
theorem stTree_any {O : Nat → Prop} {B : Nat} {w : World} {T : StV} (h : StR O B w T) : Gives 27 #[T.ptr] w T.trv := by
  have c6 : w.cell? ⟨T.TB, 6, none⟩ = some T.trv := cell_blk h.box 6
  obtain ⟨q, hq⟩ := h.tree.ptr
  rw [hq] at c6
  rw [hq]
  clear h hq
  go_enter Tryz.func27, Tryz.ntmps27
  go_wp2_with fail
  go_ret
  exact ⟨rfl, rfl⟩
end Go.Proofs.YthiimpleljaimaaGreatDoor

