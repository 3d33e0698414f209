/- pick.Lead. -/
import Derived.Test.YtbbiohgillhmnaaPick3
namespace Go.Proofs.Ytbbiohgillhmnaa
open Go.RowKit

theorem gi_cells {w : World} {A : Option Addr} {n cap : Nat} {l : List Info} (h : Infos w (.slice A n cap) l) {k : Nat} (hk : k < l.length) :
    ∃ b off, A = some ⟨b, off, none⟩ ∧ b < w.heap.size ∧ ∀ j : Nat, j < l.length → ∀ q u, (gi l j).row[q]? = some u → w.cell? ⟨b, off + j * 6 + q, none⟩ = some u := by
  have hn := h.len
  rw [List.length_map] at hn
  obtain ⟨b, off, hA, hb, hx⟩ := h.at (by omega)
  refine ⟨b, off, hA, hb, fun j hj q u hq => ?_⟩
  rw [gi_of hj] at hq
  exact (hx j l[j].row (by simp [hj])).2 q u hq

/-- The number of the first one that none is before. -/
def bestBy (c : Info → Info → Bool) (l : List Info) : Nat → Nat
  | 0 => 0
  | k + 1 => if c (gi l (k + 1 : Nat)) (gi l (bestBy c l k)) then k + 1 else bestBy c l k
theorem bestBy_step (c : Info → Info → Bool) (l : List Info) {k : Nat} (h : 1 ≤ k) : bestBy c l k = if c (gi l k) (gi l (bestBy c l (k - 1))) then k else bestBy c l (k - 1) := by
  cases k with
  | zero => omega
  | succ k => rfl
theorem bestBy_le (c : Info → Info → Bool) (l : List Info) : ∀ k, bestBy c l k ≤ k
  | 0 => Nat.le_refl _
  | k + 1 => by unfold bestBy; have := bestBy_le c l k; split <;> omega

theorem Base.st {a w : World} (h : Below a.heap.size a w) {g : Nat} (hg : a.heap.size ≤ g) (o : Nat) (u : Value) : Below a.heap.size a (w.setCell ⟨g, o, none⟩ u) :=
  Base.gr h (grown_setCell (grown_refl _ _) o u) (fun k hk => by injection hk with hk; omega)
/-- A block of one's own that holds one such. -/
def OneInfo (W : World) (g : Nat) (x : Info) : Prop := W.heap[g]? = some (.cells x.row.toArray 53 (0, 0))
theorem OneInfo.cells {W : World} {g : Nat} {x : Info} (h : OneInfo W g x) : g < W.heap.size ∧ W.cell? ⟨g, 0, none⟩ = some (i64 x.cls) ∧ W.cell? ⟨g, 1, none⟩ = some (.bool x.isOpen) ∧ W.cell? ⟨g, 2, none⟩ = some (i64 x.wear) ∧
    W.cell? ⟨g, 3, none⟩ = some (.int .u64 x.age) ∧ W.cell? ⟨g, 4, none⟩ = some (i64 x.need) ∧ W.cell? ⟨g, 5, none⟩ = some (.bool x.held) ∧ (∀ o, W.frozen? ⟨g, o, none⟩ = false) :=
  ⟨(Array.getElem?_eq_some_iff.1 h).1, cell_blk h 0, cell_blk h 1, cell_blk h 2, cell_blk h 3, cell_blk h 4, cell_blk h 5, fun o => frozen_blk h o⟩
theorem OneInfo.set {W : World} {g : Nat} {x : Info} (h : OneInfo W g x) (y : Info) :
    OneInfo ((((((W.setCell ⟨g, 0, none⟩ (i64 y.cls)).setCell ⟨g, 1, none⟩ (.bool y.isOpen)).setCell ⟨g, 2, none⟩ (i64 y.wear)).setCell ⟨g, 3, none⟩ (.int .u64 y.age)).setCell ⟨g, 4, none⟩ (i64 y.need)).setCell ⟨g, 5, none⟩ (.bool y.held)) g y :=
  heap_setCell (heap_setCell (heap_setCell (heap_setCell (heap_setCell (heap_setCell h _ _) _ _) _ _) _ _) _ _) _ _
theorem OneInfo.fresh (W : World) (x : Info) : OneInfo (W.alloc (.cells x.row.toArray 53 (0, 0))) W.heap.size x := by unfold OneInfo World.alloc; exact Array.getElem?_push_size
theorem OneInfo.keep {W : World} {g g' : Nat} {x : Info} (h : OneInfo W g x) (hne : g ≠ g') (o : Nat) (u : Value) : OneInfo (W.setCell ⟨g', o, none⟩ u) g x := by
  unfold OneInfo
  rw [(grown_setCell (grown_refl W (some g')) o u).block g (Array.getElem?_eq_some_iff.1 h).1 (fun he => hne (by injection he))]
  exact h
theorem OneInfo.below {W V : World} {g : Nat} {x : Info} (h : OneInfo W g x) (hb : Below W.heap.size W V) : OneInfo V g x := by
  unfold OneInfo
  rw [hb.block g (Array.getElem?_eq_some_iff.1 h).1]; exact h

set_option maxHeartbeats 1000000 in
set_option maxRecDepth 100000 in
theorem maxf_any (f : FuncId) (c : Info → Info → Int) (A : Option Addr) (n cap : Nat) (l : List Info) (hpos : 0 < l.length) (w : World) (h : Infos w (.slice A n cap) l)
    (hp : ∀ x y W, Makes f (#[x.val, y.val]) W (i64 (c x y))) (hf : Enters f) :
    Makes 72 #[.slice A n cap, .func (.func f) #[] #[]] w (gi l (bestBy (fun x y => decide (c x y > 0)) l (l.length - 1))).val := by
  have hn := h.len
  rw [List.length_map] at hn
  subst hn
  have hm := h.max
  rw [List.length_map] at hm
  unfold maxLen at hm
  obtain ⟨b, off, rfl, hbs, hc⟩ := gi_cells h hpos
  have a0 := hc 0 hpos 0 _ rfl
  have a1 := hc 0 hpos 1 _ rfl
  have a2 := hc 0 hpos 2 _ rfl
  have a3 := hc 0 hpos 3 _ rfl
  have a4 := hc 0 hpos 4 _ rfl
  have a5 := hc 0 hpos 5 _ rfl
  simp only [Nat.zero_mul, Nat.add_zero] at a0 a1 a2 a3 a4 a5
  have hge : ¬ (l.length : Int) < 1 := by omega
  have HC := Lib.hid hc
  clear hc
  go_enter Try.func72, Try.ntmps72
  go_wp2_with fail
  go_loopw [6] (fun i wr => ∃ k : Nat, 1 ≤ k ∧ k ≤ l.length ∧ i = i64 (k : Int) ∧ OneInfo wr (w.heap.size + 1) (gi l (bestBy (fun x y => decide (c x y > 0)) l (k - 1) : Nat)) ∧ OneInfo wr w.heap.size ⟨0, false, 0, 0, 0, false⟩ ∧ Below w.heap.size w wr) (fun i _ => l.length - (intOf i).toNat)
  case atStart => exact ⟨1, by omega, by omega, rfl, by have := OneInfo.fresh (w.alloc (.cells #[.int .i64 0, .bool false, .int .i64 0, .int .u64 0, .int .i64 0, .bool false] 53 (0, 0))) (gi l 0); simpa [bestBy] using this, (OneInfo.fresh w ⟨0, false, 0, 0, 0, false⟩).below (Base.al (Below.refl _ _) _), Base.al (Base.al (Below.refl _ _) _) _⟩
  case round =>
    obtain ⟨k, hkp, hk, rfl, hg, hz, hb⟩ := hrel
    by_cases hlt : k < l.length
    · have hsnoc := bestBy_step (fun x y => decide (c x y > 0)) l hkp
      generalize bestBy (fun x y => decide (c x y > 0)) l (k - 1) = m at *
      have hgc := HC.out k hlt
      have e0 := hgc 0 _ rfl
      have e1 := hgc 1 _ rfl
      have e2 := hgc 2 _ rfl
      have e3 := hgc 3 _ rfl
      have e4 := hgc 4 _ rfl
      have e5 := hgc 5 _ rfl
      rw [← hb.cell (p := ⟨b, _, none⟩) hbs] at e0 e1 e2 e3 e4 e5
      rw [Nat.add_zero] at e0
      have hk0 : (0 : Int) ≤ (k : Int) := by omega
      have hk1 : (k : Int) < (l.length : Int) := by omega
      obtain ⟨m0, m1, m2, m3, m4, m5, m6, m7⟩ := hg.cells
      have g := fun W => Lib.hid (hp (gi l k) (gi l m) W)
      have HG := Lib.hid hg
      have HZ := Lib.hid hz
      have HS := Lib.hid hsnoc
      clear hgc hsnoc hz hg a0 a1 a2 a3 a4 a5
      go_wp2_with fail
      go_still_tail 6, (by kernel_rfl)
      change wpList _ _ _ _ _ wr.drew
      go_wp2_with fail
      refine (g _).out.mono ?_; rintro e w1 ⟨rfl, hb1⟩
      have hb2 : Below wr.heap.size wr w1 := Base.tr (Base.dr (Below.refl _ wr)) hb1
      have HB := Base.tr hb hb2
      have hg1 := HG.out.below hb2
      have hz1 := HZ.out.below hb2
      rw [← hb2.cell (p := ⟨b, _, none⟩) (Nat.lt_of_lt_of_le hbs hb.size)] at e0 e1 e2 e3 e4 e5
      clear m0 m1 m2 m3 m4 m5 m6 m7
      obtain ⟨m0, m1, m2, m3, m4, m5, m6, m7⟩ := hg1.cells
      have HG1 := Lib.hid hg1
      have HZ1 := Lib.hid hz1
      clear hg1 hz1 HG HZ hb1 hb2
      by_cases hD : c (gi l k) (gi l m) > 0
      · go_wp2_with fail
        refine ⟨⟨k + 1, by omega, by omega, by go_num, ?_, ?_, ?_⟩, by simp [intOf]; omega⟩
        · rw [Nat.add_sub_cancel, HS.out, if_pos (decide_eq_true hD)]
          exact HG1.out.set _
        · exact (((((HZ1.out.keep (by omega) _ _).keep (by omega) _ _).keep (by omega) _ _).keep (by omega) _ _).keep (by omega) _ _).keep (by omega) _ _
        · exact Base.st (Base.st (Base.st (Base.st (Base.st (Base.st HB (by omega) _ _) (by omega) _ _) (by omega) _ _) (by omega) _ _) (by omega) _ _) (by omega) _ _
      · go_wp2_with fail
        exact ⟨⟨k + 1, by omega, by omega, by go_num, by rw [Nat.add_sub_cancel, HS.out, if_neg (by simpa using hD)]; exact HG1.out, HZ1.out, HB⟩, by simp [intOf]; omega⟩
    · have hke : k = l.length := by omega
      subst hke
      obtain ⟨m0, m1, m2, m3, m4, m5, m6, m7⟩ := hg.cells
      obtain ⟨n0, n1, n2, n3, n4, n5, n6, n7⟩ := hz.cells
      have HZ := Lib.hid hz
      clear hg hz a0 a1 a2 a3 a4 a5
      generalize hx : gi l (bestBy (fun x y => decide (c x y > 0)) l (l.length - 1) : Nat) = x at *
      have HX := Lib.hid hx
      clear hx
      go_wp2_with fail
      have HW := HZ.out.set x
      have HB : Below w.heap.size w _ := Base.st (Base.st (Base.st (Base.st (Base.st (Base.st hb (Nat.le_refl _) 0 (i64 x.cls)) (Nat.le_refl _) 1 (.bool x.isOpen)) (Nat.le_refl _) 2 (i64 x.wear)) (Nat.le_refl _) 3 (.int .u64 x.age)) (Nat.le_refl _) 4 (i64 x.need)) (Nat.le_refl _) 5 (.bool x.held)
      refine bodyPost_ret (v := x.val) ?_ rfl ⟨congrArg (fun z : Info => Ending.returned z.val) HX.out.symm, HB⟩
      generalize (((((wr.setCell _ _).setCell _ _).setCell _ _).setCell _ _).setCell _ _).setCell _ _ = W2 at *
      obtain ⟨r0, r1, r2, r3, r4, r5, r6, r7⟩ := HW.cells
      simp [results, Try.results72, go_sem, r1, r2, r3, r4, r5, r6]
set_option maxHeartbeats 1000000 in
set_option maxRecDepth 100000 in
theorem minf_any (f : FuncId) (c : Info → Info → Int) (A : Option Addr) (n cap : Nat) (l : List Info) (hpos : 0 < l.length) (w : World) (h : Infos w (.slice A n cap) l)
    (hp : ∀ x y W, Makes f (#[x.val, y.val]) W (i64 (c x y))) (hf : Enters f) :
    Makes 73 #[.slice A n cap, .func (.func f) #[] #[]] w (gi l (bestBy (fun x y => decide (c x y < 0)) l (l.length - 1))).val := by
  have hn := h.len
  rw [List.length_map] at hn
  subst hn
  have hm := h.max
  rw [List.length_map] at hm
  unfold maxLen at hm
  obtain ⟨b, off, rfl, hbs, hc⟩ := gi_cells h hpos
  have a0 := hc 0 hpos 0 _ rfl
  have a1 := hc 0 hpos 1 _ rfl
  have a2 := hc 0 hpos 2 _ rfl
  have a3 := hc 0 hpos 3 _ rfl
  have a4 := hc 0 hpos 4 _ rfl
  have a5 := hc 0 hpos 5 _ rfl
  simp only [Nat.zero_mul, Nat.add_zero] at a0 a1 a2 a3 a4 a5
  have hge : ¬ (l.length : Int) < 1 := by omega
  have HC := Lib.hid hc
  clear hc
  go_enter Try.func73, Try.ntmps73
  go_wp2_with fail
  go_loopw [6] (fun i wr => ∃ k : Nat, 1 ≤ k ∧ k ≤ l.length ∧ i = i64 (k : Int) ∧ OneInfo wr (w.heap.size + 1) (gi l (bestBy (fun x y => decide (c x y < 0)) l (k - 1) : Nat)) ∧ OneInfo wr w.heap.size ⟨0, false, 0, 0, 0, false⟩ ∧ Below w.heap.size w wr) (fun i _ => l.length - (intOf i).toNat)
  case atStart => exact ⟨1, by omega, by omega, rfl, by have := OneInfo.fresh (w.alloc (.cells #[.int .i64 0, .bool false, .int .i64 0, .int .u64 0, .int .i64 0, .bool false] 53 (0, 0))) (gi l 0); simpa [bestBy] using this, (OneInfo.fresh w ⟨0, false, 0, 0, 0, false⟩).below (Base.al (Below.refl _ _) _), Base.al (Base.al (Below.refl _ _) _) _⟩
  case round =>
    obtain ⟨k, hkp, hk, rfl, hg, hz, hb⟩ := hrel
    by_cases hlt : k < l.length
    · have hsnoc := bestBy_step (fun x y => decide (c x y < 0)) l hkp
      generalize bestBy (fun x y => decide (c x y < 0)) l (k - 1) = m at *
      have hgc := HC.out k hlt
      have e0 := hgc 0 _ rfl
      have e1 := hgc 1 _ rfl
      have e2 := hgc 2 _ rfl
      have e3 := hgc 3 _ rfl
      have e4 := hgc 4 _ rfl
      have e5 := hgc 5 _ rfl
      rw [← hb.cell (p := ⟨b, _, none⟩) hbs] at e0 e1 e2 e3 e4 e5
      rw [Nat.add_zero] at e0
      have hk0 : (0 : Int) ≤ (k : Int) := by omega
      have hk1 : (k : Int) < (l.length : Int) := by omega
      obtain ⟨m0, m1, m2, m3, m4, m5, m6, m7⟩ := hg.cells
      have g := fun W => Lib.hid (hp (gi l k) (gi l m) W)
      have HG := Lib.hid hg
      have HZ := Lib.hid hz
      have HS := Lib.hid hsnoc
      clear hgc hsnoc hz hg a0 a1 a2 a3 a4 a5
      go_wp2_with fail
      go_still_tail 6, (by kernel_rfl)
      change wpList _ _ _ _ _ wr.drew
      go_wp2_with fail
      refine (g _).out.mono ?_; rintro e w1 ⟨rfl, hb1⟩
      have hb2 : Below wr.heap.size wr w1 := Base.tr (Base.dr (Below.refl _ wr)) hb1
      have HB := Base.tr hb hb2
      have hg1 := HG.out.below hb2
      have hz1 := HZ.out.below hb2
      rw [← hb2.cell (p := ⟨b, _, none⟩) (Nat.lt_of_lt_of_le hbs hb.size)] at e0 e1 e2 e3 e4 e5
      clear m0 m1 m2 m3 m4 m5 m6 m7
      obtain ⟨m0, m1, m2, m3, m4, m5, m6, m7⟩ := hg1.cells
      have HG1 := Lib.hid hg1
      have HZ1 := Lib.hid hz1
      clear hg1 hz1 HG HZ hb1 hb2
      by_cases hD : c (gi l k) (gi l m) < 0
      · go_wp2_with fail
        refine ⟨⟨k + 1, by omega, by omega, by go_num, ?_, ?_, ?_⟩, by simp [intOf]; omega⟩
        · rw [Nat.add_sub_cancel, HS.out, if_pos (decide_eq_true hD)]
          exact HG1.out.set _
        · exact (((((HZ1.out.keep (by omega) _ _).keep (by omega) _ _).keep (by omega) _ _).keep (by omega) _ _).keep (by omega) _ _).keep (by omega) _ _
        · exact Base.st (Base.st (Base.st (Base.st (Base.st (Base.st HB (by omega) _ _) (by omega) _ _) (by omega) _ _) (by omega) _ _) (by omega) _ _) (by omega) _ _
      · go_wp2_with fail
        exact ⟨⟨k + 1, by omega, by omega, by go_num, by rw [Nat.add_sub_cancel, HS.out, if_neg (by simpa using hD)]; exact HG1.out, HZ1.out, HB⟩, by simp [intOf]; omega⟩
    · have hke : k = l.length := by omega
      subst hke
      obtain ⟨m0, m1, m2, m3, m4, m5, m6, m7⟩ := hg.cells
      obtain ⟨n0, n1, n2, n3, n4, n5, n6, n7⟩ := hz.cells
      have HZ := Lib.hid hz
      clear hg hz a0 a1 a2 a3 a4 a5
      generalize hx : gi l (bestBy (fun x y => decide (c x y < 0)) l (l.length - 1) : Nat) = x at *
      have HX := Lib.hid hx
      clear hx
      go_wp2_with fail
      have HW := HZ.out.set x
      have HB : Below w.heap.size w _ := Base.st (Base.st (Base.st (Base.st (Base.st (Base.st hb (Nat.le_refl _) 0 (i64 x.cls)) (Nat.le_refl _) 1 (.bool x.isOpen)) (Nat.le_refl _) 2 (i64 x.wear)) (Nat.le_refl _) 3 (.int .u64 x.age)) (Nat.le_refl _) 4 (i64 x.need)) (Nat.le_refl _) 5 (.bool x.held)
      refine bodyPost_ret (v := x.val) ?_ rfl ⟨congrArg (fun z : Info => Ending.returned z.val) HX.out.symm, HB⟩
      generalize (((((wr.setCell _ _).setCell _ _).setCell _ _).setCell _ _).setCell _ _).setCell _ _ = W2 at *
      obtain ⟨r0, r1, r2, r3, r4, r5, r6, r7⟩ := HW.cells
      simp [results, Try.results73, go_sem, r1, r2, r3, r4, r5, r6]
end Go.Proofs.Ytbbiohgillhmnaa
