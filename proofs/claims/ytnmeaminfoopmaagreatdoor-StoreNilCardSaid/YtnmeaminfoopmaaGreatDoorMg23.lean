/- (*Store).adds of what does not count yet; Gone. -/
import Derived.Test.YtnmeaminfoopmaaGreatDoorMg20
import Derived.Test.YtnmeaminfoopmaaGreatDoorRingC
namespace Go.Proofs.YtnmeaminfoopmaaGreatDoor
open Go Go.RowKit Flo
attribute [local go_sem] run_store_complex

theorem info_pnote : (Tryz.prog.info? 90).map (fun i => (i.zero, i.size, i.bytes)) = some (some nilP, 1, 8) := by kernel_rfl

set_option maxHeartbeats 8000000 in
set_option maxRecDepth 100000 in
theorem adds_no {O : Nat → Prop} {B : Nat} {w : World} {T : StV} (h : StR O B w T) (f : Found) (s o : Nat) (ha : part? f.at0 = some s) (hb : part? f.at1 = some o) (hlen : T.nts.length ≤ 100000) :
    Calls Tryz.prog 40 #[T.ptr, .agg f.row.toArray, .bool false] w fun e w' => e = .returned (.tuple #[]) ∧ ∃ nb v, StR O B w' { T with nv := v, nts := T.nts ++ [⟨nb, f, s, false⟩] } ∧ w.heap.size ≤ nb ∧ Below B w w' := by
  obtain ⟨i0, hi, hz0, hz1, hz2⟩ := info_parts info_pnote
  have g0 : ∀ W, Hid (Gives 66 #[cx f.at0 f.at1] W (.tuple #[i64 s, i64 o, .bool true])) := fun W => Lib.hid (parts_yes W ha hb)
  obtain ⟨a0, a1, sz, st, ⟨sq, vr, ix, ct, pa, pb, gn, ky, vl⟩⟩ := f
  simp only at g0
  obtain ⟨X, hX⟩ : ∃ X : Obj, X = .cells #[cx a0 a1, i64 sz, .bool st, .int .u64 sq, .int .u64 vr, i64 ix, i64 ct, cx pa pb, .bool gn, .string ky, .string vl] 75 := ⟨_, rfl⟩
  obtain ⟨Y, hY⟩ : ∃ Y : Obj, Y = .cells #[cx a0 a1, i64 sz, .bool st, .int .u64 sq, .int .u64 vr, i64 ix, i64 ct, cx pa pb, .bool gn, .string ky, .string vl, i64 s, .bool false] 92 := ⟨_, rfl⟩
  have HH := Lib.hid h
  have HY := Lib.hid hY
  have c3 : w.cell? ⟨T.TB, 4, none⟩ = some T.nv := cell_blk h.box 4
  have hbs := h.base
  have hlt := h.lt
  clear h ha hb hX hY
  go_enter Tryz.func40, Tryz.ntmps40
  go_wp2_with fail
  refine (g0 _).out.mono ?_; rintro e x1 ⟨rfl, rfl⟩
  obtain ⟨W2, hW2⟩ : ∃ W, W = (w.alloc (Obj.cells #[cx a0 a1, i64 sz, .bool st, .int .u64 sq, .int .u64 vr, i64 ix, i64 ct, cx pa pb, .bool gn, .string ky, .string vl] 75)).alloc (Obj.cells #[cx a0 a1, i64 sz, .bool st, .int .u64 sq, .int .u64 vr, i64 ix, i64 ct, cx pa pb, .bool gn, .string ky, .string vl, i64 s, .bool false] 92) := ⟨_, rfl⟩
  have hS2 : StR O B W2 T := by rw [hW2]; exact HH.out.below (Base.al (Base.al (Below.refl _ _) _) _)
  have hb2 : Below w.heap.size w W2 := by rw [hW2]; exact Base.al (Base.al (Below.refl _ _) _) _
  have hnt : W2.heap[w.heap.size + 1]? = some (.cells (Nt.row ⟨w.heap.size + 1, ⟨a0, a1, sz, st, ⟨sq, vr, ix, ct, pa, pb, gn, ky, vl⟩⟩, s, false⟩).toArray 92 (0, 0)) := by rw [hW2]; exact blk_new1 w _ _
  have hz2' : W2.heap.size = w.heap.size + 1 + 1 := by rw [hW2]; simp
  have hnew : ∀ y ∈ T.nts, y.b ≠ w.heap.size + 1 := fun y hy e => by
    have := (Array.getElem?_eq_some_iff.1 (HH.out.nt y hy).1).1
    omega
  have HS2 := Lib.hid hS2
  have HB2 := Lib.hid hb2
  have HNT := Lib.hid hnt
  have HNW := Lib.hid hnew
  have HW2 := Lib.hid hW2
  clear hS2 hb2 hnt hnew hW2
  go_wp2_with (at_builtin; rw [← HW2.out]; refine wpList_append_own _ rfl _ _ 65 rfl B 90 i0 _ 1 8 Tryz.underlying65 hi hz0 hz1 hz2 rfl (by decide) _ _ _ rfl (HS2.out.own.alloc _) ⟨w.heap.size + 1 + 1, 0, none⟩ 1 1 [.pointer (some ⟨w.heap.size + 1, 0, none⟩)] rfl rfl ?c1 ?c2 ?c3 ?c4 ?c5 ?_)
  case c1 => exact news_at hz2' _ _
  case c2 => simp [Value.oneCell']
  case c3 => unfold maxLen; omega
  case c4 => omega
  case c5 => simp; omega
  intro v w3 hown hgr _
  obtain ⟨A3, n3, k3, rfl⟩ : ∃ A n c, v = .slice A n c := by
    rcases hown.2 with ⟨h1, _⟩ | ⟨g', c', _, h1, _⟩
    · exact ⟨_, _, _, h1⟩
    · exact ⟨_, _, _, h1⟩
  have hA := HS2.out.below (Base.al (Below.refl _ W2) (.cells #[.pointer (some ⟨w.heap.size + 1, 0, none⟩)] 90))
  have hS3 := hA.noted (x := ⟨w.heap.size + 1, ⟨a0, a1, sz, st, ⟨sq, vr, ix, ct, pa, pb, gn, ky, vl⟩⟩, s, false⟩) hgr hown (blk_old HNT.out) (by show B ≤ w.heap.size + 1; omega) HNW.out
  have hb3 : Below B w (w3.setCell ⟨T.TB, 4, none⟩ (.slice A3 n3 k3)) := lowTr (lowTr (Below.low (Base.al HB2.out _) hbs) (lowGr hA.base hgr (fun g hg => (hA.own.lt g hg).1))) (lowSt _ hA.tb _ _)
  have k4 : w3.cell? ⟨T.TB, 4, none⟩ = some T.nv := cell_blk (keepNS hA.own hgr hA.box (by decide)) 4
  have f1 := fun o => frozen_blk (keepNS hA.own hgr hA.box (by decide)) o
  have HS3 := Lib.hid hS3
  have HB3 := Lib.hid hb3
  clear hA hS3 hb3 hown hgr HS2 HB2 HNT HNW HW2
  go_wp2_with fail
  first | go_end0 | refine bodyPost_ret (results_none rfl _ _ _) rfl ?_
  exact ⟨rfl, _, _, HS3.out, by omega, HB3.out⟩

set_option maxHeartbeats 4000000 in
set_option maxRecDepth 100000 in
theorem stGone_nil (w : World) : Makes 16 #[nilP] w (.bool true) := by
  go_enter Tryz.func16, Tryz.ntmps16
  go_wp2_with fail
  refine wp_region_quiet_on (by kernel_rfl) (by kernel_rfl) ?_
  repeat ((with_reducible refine wpQuiet_step (fun K hK => ?_)); go_simp; first | ((with_reducible refine hK _ ?_); clear hK K) | (rw [if_neg (by intro h; cases h)]; (with_reducible refine hK _ ?_); clear hK K) | (apply Exists.intro; refine ⟨fun _ => ?_, hK _ ?_⟩; (fail); clear hK K))
  with_reducible refine wpQuiet_nil ?_
  intro _ hw'
  obtain ⟨pq, hw''⟩ := hw'
  subst hw''
  go_wp2_with fail
  go_ret
  exact ⟨rfl, pq.h⟩
set_option maxHeartbeats 4000000 in
set_option maxRecDepth 100000 in
theorem stGone_any {O : Nat → Prop} {B : Nat} {w : World} {T : StV} (h : StR O B w T) (hon : T.N.off = false) (hof : T.offs = T.N.offs) : Makes 16 #[T.ptr] w (.bool false) := by
  have g1 := fun p : OnOf w => isOn_any (h.sh.dev.below p.h)
  rw [hon] at g1
  have G1 := fun p : OnOf w => Lib.hid (g1 p)
  have G2 := fun p : OnOf w => Lib.hid (offs_any (h.sh.dev.below p.h))
  have hbs := h.lt
  have c0 : w.cell? ⟨T.TB, 0, none⟩ = some (ptrD T.N) := cell_blk h.box 0
  have c8 : w.cell? ⟨T.TB, 8, none⟩ = some (i64 T.N.offs) := by rw [← hof]; exact cell_blk h.box 8
  have q0 := fun p : OnOf w => on_cell hbs c0 p
  have q8 := fun p : OnOf w => on_cell hbs c8 p
  clear g1 h hof hon c0 c8
  go_enter Tryz.func16, Tryz.ntmps16
  go_wp2_with fail
  refine wp_region_quiet_on (by kernel_rfl) (by kernel_rfl) ?_
  repeat ((with_reducible refine wpQuiet_step (fun K hK => ?_)); go_simp; first | ((with_reducible refine hK _ ?_); clear hK K) | (rw [if_neg (by intro h; cases h)]; (with_reducible refine hK _ ?_); clear hK K) | (apply Exists.intro; refine ⟨fun _ => ?_, hK _ ?_⟩; (first | (with_reducible exact on_of_same (G1 _).out) | (with_reducible exact on_of_same (G2 _).out)); clear hK K))
  with_reducible refine wpQuiet_nil ?_
  intro _ hw'
  obtain ⟨pq, hw''⟩ := hw'
  subst hw''
  go_wp2_with fail
  go_ret
  exact ⟨rfl, pq.h⟩
end Go.Proofs.YtnmeaminfoopmaaGreatDoor

/- store.Open on a device where nothing is found. -/
namespace Go.Proofs.YtnmeaminfoopmaaGreatDoor
open Go Go.RowKit Flo
attribute [local go_sem] run_store_complex

set_option maxHeartbeats 4000000 in
set_option maxRecDepth 100000 in
theorem open_nil (w : World) : Makes 10 #[nilD] w (.tuple #[nilP, i64 7]) := by
  have G := fun W => Lib.hid (shelfNew_nil W)
  go_enter Tryz.func10, Tryz.ntmps10
  go_wp2_with fail
  refine (G _).out.mono ?_; rintro e x1 ⟨rfl, hb1⟩
  go_wp2_with fail
  go_ret2
  exact ⟨rfl, hb1⟩

/-- What Open comes back with, where nothing is found. -/
def OpenPost (O : Nat → Prop) (w : World) (N : Nor) (e : Ending) (w' : World) : Prop :=
  ∃ (B : Nat) (T : StV), e = .returned (.tuple #[T.ptr, i64 0]) ∧ StR O B w' T ∧ T.N = N ∧ T.nts = [] ∧ T.nm = [] ∧ T.tr = none ∧ T.seq = 1 ∧ T.offs = N.offs ∧ T.H.S = N.S ∧ T.H.Z = N.Z ∧ T.H.il = shInfos N N.S ∧ T.H.el = shEnds N N.S ∧ T.H.op = -1 ∧ (∀ k, T.H.own k → w.heap.size ≤ k) ∧ w.heap.size ≤ B ∧ Below w.heap.size w w'

set_option maxHeartbeats 16000000 in
set_option maxRecDepth 100000 in
theorem open_any {O : Nat → Prop} {w : World} {N : Nor} (hd : DevR O w N) (hon : N.off = false) (hfr : shFound N N.S = []) : Calls Tryz.prog 10 #[ptrD N] w (OpenPost O w N) := by
  have hgeo := hd.geoI
  have hmm := fun W => @run_makeMap Tryz.prog 64 W
  have G1 := Lib.hid (shelfNew_any hd hon)
  have GG := fun W (h : DevR O W N) => Lib.hid (geom_any h)
  have GO := fun W (h : DevR O W N) => Lib.hid (offs_any h)
  have GT := fun W => Lib.hid (treeNew_any W)
  have GC := fun W A n c (h : Founds W (.slice A n c) []) => Lib.hid (count_any A n c [] W h (by simp))
  have GA : ∀ W, Hid (Gives 41 #[.int .u64 0] W (.int .u64 1)) := fun W => Lib.hid (above_any 0 W (by decide))
  have HD := Lib.hid hd
  have HF := Lib.hid hfr
  clear hd hfr
  go_enter Tryz.func10, Tryz.ntmps10
  go_wp2_with fail
  unfold ShPost at G1
  refine G1.out.mono ?_; rintro e w1 ⟨x1, SB, fv, lv, ev, rfl, hsn, hb1⟩
  obtain ⟨H, hSB, hil, hel, hop, hHD, hHS, hHZ, hsr, hl1, hl2⟩ := hsn.shelf (shInfos_len N N.S) (shEnds_len N N.S) (by omega) (by omega) (by omega)
  have hbw := ShPost.below hsn hb1
  have hxs := hb1.size
  have hsl := hsn.lt
  have hfar : ∀ k, H.own k → w.heap.size ≤ k := by
    intro k hk
    rcases hk with hk | hk | hk <;> omega
  have hsd : ShD O w1 N H := ⟨HD.out.below hbw, hsr, hHD, hHS, hHZ, fun k hk ho => by
    have := hfar k hk
    have := HD.out.lim k ho
    omega⟩
  have hlim : ∀ k, shO O H k → k < w1.heap.size := by
    intro k hk
    rcases hk with hk | hk | hk | hk
    · exact (HD.out.below hbw).lim k hk
    · rw [hk]; exact (Array.getElem?_eq_some_iff.1 hsr.hS).1
    · rw [hk]; obtain ⟨_, h⟩ := hsr.hL; exact (Array.getElem?_eq_some_iff.1 h).1
    · rw [hk]; obtain ⟨_, h⟩ := hsr.hE; exact (Array.getElem?_eq_some_iff.1 h).1
  have hfo := hsn.ownF
  rw [HF.out] at hfo
  obtain ⟨A9, c9, rfl⟩ : ∃ A c, fv = .slice A 0 c := by
    rcases hfo.2 with ⟨h1, _⟩ | ⟨g', c', _, h1, _⟩
    · exact ⟨_, _, h1⟩
    · exact ⟨_, _, h1⟩
  have HFO : Hid (Founds w1 (.slice A9 0 c9) []) := Lib.hid (Sl.own [] (by simp) hfo)
  rw [← hSB]
  have HSD := Lib.hid hsd
  have HLM := Lib.hid hlim
  have HFAR := Lib.hid hfar
  have HBW := Lib.hid hbw
  have HIL := Lib.hid hil
  have HEL := Lib.hid hel
  have HOP := Lib.hid hop
  have HHS := Lib.hid hHS
  have HHZ := Lib.hid hHZ
  have hd1 := HD.out.below hbw
  clear G1 hsn hsr hsd hlim hfar hbw hil hel hop hHD hHS hHZ hl1 hl2 hSB hb1 hxs hsl hfo
  go_wp2_with fail
  refine (GG _ hd1).out.mono ?_; rintro e w2 ⟨rfl, hb2⟩
  have hd2 := (hd1.below hb2).below (Base.al (Below.refl _ w2) (.map #[] 0))
  go_wp2_with fail
  refine (GT _).out.mono ?_; rintro e w3 ⟨rfl, rfl⟩
  go_wp2_with fail
  refine (GO _ hd2).out.mono ?_; rintro e w4 ⟨rfl, rfl⟩
  go_wp2_with fail
  have hz2 := hb2.size
  obtain ⟨w5, hw5⟩ : ∃ W, W = (w2.alloc (.map #[] 0)).alloc (.cells #[ptrD N, i64 N.S, i64 N.Z, .pointer (some ⟨H.SB, 0, none⟩), .slice none 0 0, .map (some w2.heap.size), nilP, .int .u64 0, i64 N.offs] 68) := ⟨_, rfl⟩
  rw [← hw5]
  have hb5 : Below w1.heap.size w1 w5 := by rw [hw5]; exact Base.al (Base.al hb2 _) _
  have hS5 : StR O w1.heap.size w5 ⟨w2.heap.size + 1, w2.heap.size, N, H, .slice none 0 0, [], [], none, 0, N.offs⟩ :=
    { sh := HSD.out.below hb5, lim := HLM.out, box := by rw [hw5]; exact blk_new1 w2 _ _, tb := by show w1.heap.size ≤ w2.heap.size + 1; omega, own := World.ownsRow_nil _ _ _ _, nt := fun x hx => (by cases hx), nd := List.nodup_nil,
      map := by rw [hw5]; exact (MapR.made _ w2).below (Base.al (Below.refl _ _) _), mb := hz2, leaf := fun b k v e => (by cases e) }
  have HS5 := Lib.hid hS5
  have HF5 := Sl.below HFO.out hb5
  have HB5 := Lib.hid (Base.tr HBW.out hb5)
  have HZ1 := HBW.out.size
  clear hw5 hb5 hS5 hd1 hd2 hb2 HD HFO HBW hmm
  go_wp2_with fail
  refine (GC _ A9 0 c9 HF5).out.mono ?_; rintro e w6 ⟨v6, rfl, -, hb6⟩
  have HS6 := Lib.hid (HS5.out.below hb6)
  have HB6 := Lib.hid (Base.tr HB5.out hb6)
  clear HS5 HB5 HF5 hb6
  go_wp2_with fail
  go_loopw [34] (fun iv wr => iv = i64 0 ∧ wr = w6) (fun _ _ => 0)
  case atStart => exact ⟨rfl, rfl⟩
  case round =>
    obtain ⟨rfl, rfl⟩ := hrel
    have c7 : wr.cell? ⟨w2.heap.size + 1, 7, none⟩ = some (.int .u64 0) := cell_blk HS6.out.box 7
    have fz := fun o => frozen_blk HS6.out.box o
    have hlt := HS6.out.lt
    have hlt' : w2.heap.size + 1 < wr.heap.size := hlt
    clear hlt
    go_wp2_with fail
    refine (GA _).out.mono ?_; rintro e x1 ⟨rfl, rfl⟩
    have hS7 := HS6.out.setBox (T' := ⟨w2.heap.size + 1, w2.heap.size, N, H, .slice none 0 0, [], [], none, 1, N.offs⟩) 7 (.int .u64 1) rfl rfl (fun b k v e => (by cases e))
    have HS7 := Lib.hid hS7
    have HB7 := Lib.hid (Base.st HB6.out (g := w2.heap.size + 1) (by omega) 7 (.int .u64 1))
    clear hS7 HS6
    go_wp2_with fail
    go_ret2
    exact ⟨_, _, rfl, HS7.out, rfl, rfl, rfl, rfl, rfl, rfl, HHS.out, HHZ.out, HIL.out, HEL.out, HOP.out, HFAR.out, HZ1, HB7.out⟩
end Go.Proofs.YtnmeaminfoopmaaGreatDoor

/- A nil store; flintlaw13.Great. -/
namespace Go.Proofs.YtnmeaminfoopmaaGreatDoor
open Go Go.RowKit Flo
attribute [local go_sem] run_store_complex

set_option maxHeartbeats 4000000 in
set_option maxRecDepth 100000 in
theorem stPut_nil (v : Value) (w : World) : Makes 11 #[nilP, v] w (i64 7) := by
  have G := fun W => Lib.hid (stGone_nil W)
  go_enter Tryz.func11, Tryz.ntmps11
  go_wp2_with fail
  refine (G _).out.mono ?_; rintro e x1 ⟨rfl, hb1⟩
  go_wp2_with fail
  go_ret
  exact ⟨rfl, hb1⟩
set_option maxHeartbeats 4000000 in
set_option maxRecDepth 100000 in
theorem stCollect_nil (w : World) : Makes 12 #[nilP] w (i64 7) := by
  have G := fun W => Lib.hid (stGone_nil W)
  go_enter Tryz.func12, Tryz.ntmps12
  go_wp2_with fail
  refine (G _).out.mono ?_; rintro e x1 ⟨rfl, hb1⟩
  go_wp2_with fail
  go_ret
  exact ⟨rfl, hb1⟩
set_option maxHeartbeats 4000000 in
set_option maxRecDepth 100000 in
theorem stTree_nil (w : World) : Gives 13 #[nilP] w nilP := by
  go_enter Tryz.func13, Tryz.ntmps13
  go_wp2_with fail
  go_ret
  exact ⟨rfl, rfl⟩
set_option maxHeartbeats 4000000 in
set_option maxRecDepth 100000 in
theorem stTree_any {O : Nat → Prop} {B : Nat} {w : World} {T : StV} (h : StR O B w T) : Gives 13 #[T.ptr] w (trV T.tr) := by
  have c6 : w.cell? ⟨T.TB, 6, none⟩ = some (trV T.tr) := cell_blk h.box 6
  obtain ⟨q, hq⟩ : ∃ q, trV T.tr = .pointer q := by
    unfold trV
    split
    · exact ⟨_, rfl⟩
    · exact ⟨_, rfl⟩
  rw [hq] at c6
  rw [hq]
  clear h hq
  go_enter Tryz.func13, Tryz.ntmps13
  go_wp2_with fail
  go_ret
  exact ⟨rfl, rfl⟩
set_option maxHeartbeats 4000000 in
set_option maxRecDepth 100000 in
theorem stNeeded_nil (w : World) : Gives 15 #[nilP] w (i64 0) := by
  go_enter Tryz.func15, Tryz.ntmps15
  go_wp2_with fail
  go_ret
  exact ⟨rfl, rfl⟩

def greatB (l : List Pair) : Bool := l.any fun p => decide (100 < p.key.size) || decide (100 < p.value.size)
set_option maxHeartbeats 8000000 in
set_option maxRecDepth 100000 in
theorem great13_any (A : Option Addr) (n c1 : Nat) (l : List Pair) (w : World) (h1 : Pairs w (.slice A n c1) l) (hbig : l.length * 40 ≤ 140737488351232) : Calls Tryz.prog 8 #[.slice A n c1] w fun e w' => ∃ b, e = .returned (.bool b) ∧ Below w.heap.size w w' := by
  have hn := h1.len
  rw [List.length_map] at hn
  subst hn
  go_enter Tryz.func8, Tryz.ntmps8
  go_wp2_with fail
  go_loopw [7] (fun i wr => ∃ k : Nat, k ≤ l.length ∧ i = .int .i64 k ∧ Below w.heap.size w wr) (fun i _ => l.length - (intOf i).toNat)
  case atStart => exact ⟨0, Nat.zero_le _, rfl, Below.refl _ _⟩
  case round =>
    obtain ⟨k, hk, rfl, hb⟩ := hrel
    by_cases hlt : k < l.length
    · obtain ⟨a1, o1, rfl, b1, p1⟩ := Pairs.cell (Sl.below h1 hb) (by omega)
      obtain ⟨q0, q1, q2⟩ := p1 k hlt
      have hw1 : IntKind.i64.wrap ((k : Int) + 1) = (k : Int) + 1 := by rw [IntKind.wrap_i64]; omega
      have hk1 : (k : Int) < (l.length : Int) := by omega
      clear p1
      generalize l.getD k default = pk at *
      obtain ⟨pk, vv, gg⟩ := pk
      simp only at q0 q1 q2
      have hb2 := Base.al hb (.cells #[.string pk, .string vv, .bool gg] 56)
      by_cases t1 : 100 < pk.size
      · have d1 : decide ((100 : Int) < (pk.size : Int)) = true := decide_eq_true (by omega)
        go_wp2_with fail
        go_ret
        exact ⟨_, rfl, hb2⟩
      · have d1 : decide ((100 : Int) < (pk.size : Int)) = false := decide_eq_false (by omega)
        by_cases t2 : 100 < vv.size
        · have d2 : decide ((100 : Int) < (vv.size : Int)) = true := decide_eq_true (by omega)
          go_wp2_with fail
          go_ret
          exact ⟨_, rfl, hb2⟩
        · have d2 : decide ((100 : Int) < (vv.size : Int)) = false := decide_eq_false (by omega)
          go_wp2_with fail
          exact ⟨⟨k + 1, by omega, by go_num, hb2⟩, by simp [intOf]; omega⟩
    · obtain rfl : k = l.length := by omega
      go_wp2_with fail
      go_ret
      exact ⟨_, rfl, hb⟩
end Go.Proofs.YtnmeaminfoopmaaGreatDoor

