/- ring.Get. -/
import Derived.Test.YthiimpleljaimaaGreatDoorMg12
namespace Go.Proofs.YthiimpleljaimaaGreatDoor
open Go.RowKit Flo
attribute [local go_sem] run_store_complex

theorem pNum_le {l : List Nat} {k a e : Nat} (h : a ≤ l.length) : (pNum l k a e).2.1 ≤ l.length := by
  unfold pNum
  split
  · unfold pGet; split
    · exact Nat.zero_le _
    · show a + k ≤ l.length; omega
  · exact h
theorem pTxt_le {l : List Nat} {m a e : Nat} (h : a ≤ l.length) : (pTxt l m a e).2.1 ≤ l.length := by
  unfold pTxt
  split
  · unfold pText
    repeat' split
    all_goals first | exact Nat.zero_le _ | (show a + 1 + l.getD a 0 ≤ l.length; omega)
  · exact h
theorem pNum_lt {l : List Nat} {k a e : Nat} (hl : ∀ b ∈ l, b < 256) : (pNum l k a e).1 < 256 ^ k := by
  have hp : 0 < 256 ^ k := Nat.pow_pos (by decide)
  unfold pNum
  split
  · unfold pGet; split
    · exact hp
    · show beVal _ < _
      refine Nat.lt_of_lt_of_le (beVal_lt _ (fun b hb => hl b (List.mem_of_mem_drop (List.mem_of_mem_take hb)))) ?_
      exact Nat.pow_le_pow_right (by decide) (by rw [List.length_take]; omega)
  · exact hp

/-- The place that three bytes are, as one number. -/
noncomputable def plc (n : Nat) : Nat × Nat := if n = 16777215 then (13830554455654793216, 0) else (near (n / 65536 : Nat), near (n % 65536 : Nat))
theorem plc_val (n : Nat) (h : n < 256 ^ 3) : placeOf3 ((n : Int) / 65536) ((n : Int) / 256 % 256) ((n : Int) % 256) = cx (plc n).1 (plc n).2 := by
  unfold placeOf3 plc
  by_cases h1 : n = 16777215
  · subst h1
    rw [if_pos (by decide), if_pos rfl]
  · rw [if_neg (by omega), if_neg h1]
    have e2 : ((n : Int) / 256 % 256) * 256 + (n : Int) % 256 = ((n % 65536 : Nat) : Int) := by omega
    rw [e2]
    rfl

def zeroIt : Item := ⟨0, 0, 0, 0, 0, 0, false, ByteArray.empty, ByteArray.empty⟩
/-- What is read, one behind the other. -/
structure Read where
  n1 : Nat × Nat × Nat
  n2 : Nat × Nat × Nat
  n3 : Nat × Nat × Nat
  n4 : Nat × Nat × Nat
  n5 : Nat × Nat × Nat
  n6 : Nat × Nat × Nat
  n7 : List Nat × Nat × Nat
  n8 : List Nat × Nat × Nat
structure Read.of (R : Read) (l : List Nat) : Prop where
  h1 : pNum l 8 0 0 = R.n1
  h2 : pNum l 8 R.n1.2.1 R.n1.2.2 = R.n2
  h3 : pNum l 1 R.n2.2.1 R.n2.2.2 = R.n3
  h4 : pNum l 1 R.n3.2.1 R.n3.2.2 = R.n4
  h5 : pNum l 3 R.n4.2.1 R.n4.2.2 = R.n5
  h6 : pNum l 1 R.n5.2.1 R.n5.2.2 = R.n6
  h7 : pTxt l 48 R.n6.2.1 R.n6.2.2 = R.n7
  h8 : pTxt l 64 R.n7.2.1 R.n7.2.2 = R.n8
noncomputable def Read.item (R : Read) : Item := ⟨R.n1.1, R.n2.1, R.n3.1, R.n4.1, (plc R.n5.1).1, (plc R.n5.1).2, ((R.n6.1 : Int) == 1), toB R.n7.1, toB R.n8.1⟩
noncomputable def Read.err (R : Read) (n : Nat) : Nat := if 1 < R.n6.1 then 2 else if R.n8.2.2 ≠ 0 then R.n8.2.2 else if R.n8.2.1 < n then 2 else if mayB R.item = false then 1 else 0

theorem zeroIt_val : zeroIt.val = .agg #[.int .u64 0, .int .u64 0, i64 0, i64 0, cx 0 0, .bool false, .string { data := #[] }, .string { data := #[] }] := rfl
noncomputable def Read.res (R : Read) (n : Nat) : Value := (if R.err n = 0 then R.item else zeroIt).val
theorem res_no {R : Read} {n : Nat} (h : R.err n ≠ 0) : R.res n = zeroIt.val := by unfold Read.res; rw [if_neg h]
theorem res_yes {R : Read} {n : Nat} (h : R.err n = 0) : R.res n = R.item.val := by unfold Read.res; rw [if_pos h]
theorem below_set {B g : Nat} {a w : World} (h : Below B a w) (hg : B ≤ g) (o : Nat) (v : Value) : Below B a (w.setCell ⟨g, o, none⟩ v) :=
  h.trans ⟨rfl, rfl, rfl, by simp [World.setCell], fun q hq => Below.heap_setCell _ _ _ _ (by show q ≠ g; omega)⟩

/-- Where ring.Get stands: its reader, its item, its result. -/
structure St (w : World) (v : Value) (W : World) (a e : Nat) (C : List Value) : Prop where
  rd : RdAt W (w.heap.size + 1) v a e
  it : W.heap[w.heap.size + 1 + 1]? = some (.cells C.toArray 129 (0, 0))
  res : W.heap[w.heap.size]? = some (.cells #[.int .u64 0, .int .u64 0, i64 0, i64 0, cx 0 0, .bool false, .string { data := #[] }, .string { data := #[] }] 129 (0, 0))
  below : Below w.heap.size w W
theorem St.call {w : World} {v : Value} {W W' : World} {a e a' e' : Nat} {C : List Value} (h : St w v W a e C) (hr : RdAt W' (w.heap.size + 1) v a' e') (hg : W.grownBy W' (some (w.heap.size + 1))) : St w v W' a' e' C := by
  have h1 := (Array.getElem?_eq_some_iff.1 h.it).1
  have h2 := (Array.getElem?_eq_some_iff.1 h.res).1
  refine ⟨hr, ?_, ?_, Base.gr h.below hg (fun g hq => by injection hq with hq; omega)⟩
  · rw [hg.block _ h1 (by intro e; injection e with e; omega)]; exact h.it
  · rw [hg.block _ h2 (by intro e; injection e with e; omega)]; exact h.res
theorem St.set {w : World} {v : Value} {W : World} {a e : Nat} {C : List Value} (h : St w v W a e C) (i : Nat) (x : Value) : St w v (W.setCell ⟨w.heap.size + 1 + 1, i, none⟩ x) a e (C.set i x) := by
  refine ⟨?_, ?_, ?_, ?_⟩
  · rw [RdAt, Below.heap_setCell _ _ _ _ (by show w.heap.size + 1 ≠ w.heap.size + 1 + 1; omega)]; exact h.rd
  · have := heap_setCell h.it i x
    simpa using this
  · rw [Below.heap_setCell _ _ _ _ (by show w.heap.size ≠ w.heap.size + 1 + 1; omega)]; exact h.res
  · exact h.below.trans ⟨rfl, rfl, rfl, by simp [World.setCell], fun q hq => Below.heap_setCell _ _ _ _ (by show q ≠ w.heap.size + 1 + 1; omega)⟩

theorem St.al {w : World} {v : Value} {W : World} {a e : Nat} {C : List Value} (h : St w v W a e C) (o : Obj) : St w v (W.alloc o) a e C :=
  ⟨blk_old h.rd, blk_old h.it, blk_old h.res, Base.al h.below o⟩

theorem St.later {w : World} {v : Value} {W W' : World} {a e : Nat} {C : List Value} (h : St w v W a e C) (hb : Below W.heap.size W W') : St w v W' a e C :=
  ⟨blk_below h.rd hb, blk_below h.it hb, blk_below h.res hb, Base.tr h.below hb⟩

set_option maxHeartbeats 8000000 in
set_option maxRecDepth 100000 in
theorem ringGet_any (A : Option Addr) (n cap : Nat) (l : List Nat) (w : World) (h : Byt w (.slice A n cap) l) (hl : ∀ b ∈ l, b < 256) (hm : l.length ≤ 100000) (R : Read) (hR : R.of l) :
    Makes 172 #[.slice A n cap] w (.tuple #[R.res l.length, i64 (R.err l.length)]) := by
  obtain ⟨h1, h2, h3, h4, h5, h6, h7, h8⟩ := hR
  have hn := h.len
  rw [List.length_map] at hn
  subst hn
  have N := fun r k a e W (hr : RdAt W r (.slice A l.length cap) a e) (hB : Below w.heap.size w W) ha hk hk2 => Lib.hid (number_any r A l.length cap l k a e W hr (Sl.below h hB) hl ha hk hk2 hm)
  have T := fun r k a e W (hr : RdAt W r (.slice A l.length cap) a e) (hB : Below w.heap.size w W) ha => Lib.hid (text_any r A l.length cap l k a e W hr (Sl.below h hB) hl ha hm)
  have s0 : St w (.slice A l.length cap) (((w.alloc (.cells #[.int .u64 0, .int .u64 0, i64 0, i64 0, cx 0 0, .bool false, .string { data := #[] }, .string { data := #[] }] 129)).alloc (.cells #[.slice A l.length cap, i64 0, i64 0] 333)).alloc (.cells #[.int .u64 0, .int .u64 0, i64 0, i64 0, cx 0 0, .bool false, .string { data := #[] }, .string { data := #[] }] 129)) 0 0 [.int .u64 0, .int .u64 0, i64 0, i64 0, cx 0 0, .bool false, .string { data := #[] }, .string { data := #[] }] := by
    refine ⟨blk_old (blk_new1 w _ _), blk_new2 w _ _ _, blk_old (blk_old (blk_new w _)), Base.al (Base.al (Base.al (Below.refl _ _) _) _) _⟩
  go_enter Tryz.func172, Tryz.ntmps172
  go_wp2_with fail
  refine (N _ 8 0 0 _ s0.rd s0.below (Nat.zero_le _) (by decide) (by decide)).out.mono ?_; rintro e w1 ⟨rfl, hrd1, hg1⟩
  rw [h1] at hrd1
  try rw [h1]
  have u1 := s0.call hrd1 hg1
  have f1 := fun o => frozen_blk u1.it o
  have x1 : w1.cell? ⟨w.heap.size + 1 + 1, 0, none⟩ = some (.int .u64 0) := cell_blk u1.it 0
  have hv1 : R.n1.1 < 18446744073709551616 := by have := pNum_lt (l := l) (k := 8) (a := 0) (e := 0) hl; rw [h1] at this; exact this
  have le1 : R.n1.2.1 ≤ l.length := by have := pNum_le (l := l) (k := 8) (a := 0) (e := 0) (Nat.zero_le _); rw [h1] at this; exact this
  have s1 : St w (.slice A l.length cap) (w1.setCell ⟨w.heap.size + 1 + 1, 0, none⟩ (.int .u64 (R.n1.1 : Int))) R.n1.2.1 R.n1.2.2 [.int .u64 (R.n1.1 : Int), .int .u64 0, i64 0, i64 0, cx 0 0, .bool false, .string { data := #[] }, .string { data := #[] }] := u1.set 0 (.int .u64 (R.n1.1 : Int))
  clear s0
  go_wp2_with fail
  refine (N _ 8 R.n1.2.1 R.n1.2.2 _ s1.rd s1.below le1 (by decide) (by decide)).out.mono ?_; rintro e w2 ⟨rfl, hrd2, hg2⟩
  rw [h2] at hrd2
  try rw [h2]
  have u2 := s1.call hrd2 hg2
  have f2 := fun o => frozen_blk u2.it o
  have x2 : w2.cell? ⟨w.heap.size + 1 + 1, 1, none⟩ = some (.int .u64 0) := cell_blk u2.it 1
  have hv2 : R.n2.1 < 18446744073709551616 := by have := pNum_lt (l := l) (k := 8) (a := R.n1.2.1) (e := R.n1.2.2) hl; rw [h2] at this; exact this
  have le2 : R.n2.2.1 ≤ l.length := by have := pNum_le (l := l) (k := 8) (a := R.n1.2.1) (e := R.n1.2.2) le1; rw [h2] at this; exact this
  have s2 : St w (.slice A l.length cap) (w2.setCell ⟨w.heap.size + 1 + 1, 1, none⟩ (.int .u64 (R.n2.1 : Int))) R.n2.2.1 R.n2.2.2 [.int .u64 (R.n1.1 : Int), .int .u64 (R.n2.1 : Int), i64 0, i64 0, cx 0 0, .bool false, .string { data := #[] }, .string { data := #[] }] := u2.set 1 (.int .u64 (R.n2.1 : Int))
  clear s1
  go_wp2_with fail
  refine (N _ 1 R.n2.2.1 R.n2.2.2 _ s2.rd s2.below le2 (by decide) (by decide)).out.mono ?_; rintro e w3 ⟨rfl, hrd3, hg3⟩
  rw [h3] at hrd3
  try rw [h3]
  have u3 := s2.call hrd3 hg3
  have f3 := fun o => frozen_blk u3.it o
  have x3 : w3.cell? ⟨w.heap.size + 1 + 1, 2, none⟩ = some (i64 0) := cell_blk u3.it 2
  have hv3 : R.n3.1 < 256 := by have := pNum_lt (l := l) (k := 1) (a := R.n2.2.1) (e := R.n2.2.2) hl; rw [h3] at this; exact this
  have le3 : R.n3.2.1 ≤ l.length := by have := pNum_le (l := l) (k := 1) (a := R.n2.2.1) (e := R.n2.2.2) le2; rw [h3] at this; exact this
  have s3 : St w (.slice A l.length cap) (w3.setCell ⟨w.heap.size + 1 + 1, 2, none⟩ (i64 (R.n3.1 : Int))) R.n3.2.1 R.n3.2.2 [.int .u64 (R.n1.1 : Int), .int .u64 (R.n2.1 : Int), i64 (R.n3.1 : Int), i64 0, cx 0 0, .bool false, .string { data := #[] }, .string { data := #[] }] := u3.set 2 (i64 (R.n3.1 : Int))
  clear s2
  go_wp2_with fail
  refine (N _ 1 R.n3.2.1 R.n3.2.2 _ s3.rd s3.below le3 (by decide) (by decide)).out.mono ?_; rintro e w4 ⟨rfl, hrd4, hg4⟩
  rw [h4] at hrd4
  try rw [h4]
  have u4 := s3.call hrd4 hg4
  have f4 := fun o => frozen_blk u4.it o
  have x4 : w4.cell? ⟨w.heap.size + 1 + 1, 3, none⟩ = some (i64 0) := cell_blk u4.it 3
  have hv4 : R.n4.1 < 256 := by have := pNum_lt (l := l) (k := 1) (a := R.n3.2.1) (e := R.n3.2.2) hl; rw [h4] at this; exact this
  have le4 : R.n4.2.1 ≤ l.length := by have := pNum_le (l := l) (k := 1) (a := R.n3.2.1) (e := R.n3.2.2) le3; rw [h4] at this; exact this
  have s4 : St w (.slice A l.length cap) (w4.setCell ⟨w.heap.size + 1 + 1, 3, none⟩ (i64 (R.n4.1 : Int))) R.n4.2.1 R.n4.2.2 [.int .u64 (R.n1.1 : Int), .int .u64 (R.n2.1 : Int), i64 (R.n3.1 : Int), i64 (R.n4.1 : Int), cx 0 0, .bool false, .string { data := #[] }, .string { data := #[] }] := u4.set 3 (i64 (R.n4.1 : Int))
  clear s3
  go_wp2_with fail
  refine (N _ 3 R.n4.2.1 R.n4.2.2 _ s4.rd s4.below le4 (by decide) (by decide)).out.mono ?_; rintro e w5 ⟨rfl, hrd5, hg5⟩
  rw [h5] at hrd5
  try rw [h5]
  have u5 := s4.call hrd5 hg5
  have f5 := fun o => frozen_blk u5.it o
  have x5 : w5.cell? ⟨w.heap.size + 1 + 1, 4, none⟩ = some (cx 0 0) := cell_blk u5.it 4
  have hv5 : R.n5.1 < 16777216 := by have := pNum_lt (l := l) (k := 3) (a := R.n4.2.1) (e := R.n4.2.2) hl; rw [h5] at this; exact this
  have le5 : R.n5.2.1 ≤ l.length := by have := pNum_le (l := l) (k := 3) (a := R.n4.2.1) (e := R.n4.2.2) le4; rw [h5] at this; exact this
  clear s4
  have G5 := get_any ((R.n5.1 : Int) / 65536) ((R.n5.1 : Int) / 256 % 256) ((R.n5.1 : Int) % 256) w5 (by omega) (by omega) (by omega) (by omega) (by omega) (by omega)
  rw [plc_val _ hv5] at G5
  have HG5 := Lib.hid G5
  clear G5
  have y5 := u5.al (bytes3 ((R.n5.1 : Int) / 65536) ((R.n5.1 : Int) / 256 % 256) ((R.n5.1 : Int) % 256))
  have z5 : w.heap.size + 1 + 1 < w5.heap.size := (Array.getElem?_eq_some_iff.1 u5.it).1
  go_wp2_with fail
  refine HG5.out.mono ?_; rintro e W5 ⟨rfl, rfl⟩
  have f5 := fun o => frozen_blk y5.it o
  have x5 := cell_blk y5.it 4
  have s5 : St w (.slice A l.length cap) ((w5.setCell ⟨w.heap.size + 1 + 1, 4, none⟩ (cx (plc R.n5.1).1 (plc R.n5.1).2)).alloc (bytes3 ((R.n5.1 : Int) / 65536) ((R.n5.1 : Int) / 256 % 256) ((R.n5.1 : Int) % 256))) R.n5.2.1 R.n5.2.2 [.int .u64 (R.n1.1 : Int), .int .u64 (R.n2.1 : Int), i64 (R.n3.1 : Int), i64 (R.n4.1 : Int), cx (plc R.n5.1).1 (plc R.n5.1).2, .bool false, .string { data := #[] }, .string { data := #[] }] := (u5.set 4 (cx (plc R.n5.1).1 (plc R.n5.1).2)).al _
  clear y5 u5
  go_wp2_with fail
  refine (N _ 1 R.n5.2.1 R.n5.2.2 _ s5.rd s5.below le5 (by decide) (by decide)).out.mono ?_; rintro e w6 ⟨rfl, hrd6, hg6⟩
  rw [h6] at hrd6
  try rw [h6]
  have u6 := s5.call hrd6 hg6
  have f6 := fun o => frozen_blk u6.it o
  have x6 : w6.cell? ⟨w.heap.size + 1 + 1, 5, none⟩ = some (.bool false) := cell_blk u6.it 5
  have hv6 : R.n6.1 < 256 := by have := pNum_lt (l := l) (k := 1) (a := R.n5.2.1) (e := R.n5.2.2) hl; rw [h6] at this; exact this
  have le6 : R.n6.2.1 ≤ l.length := by have := pNum_le (l := l) (k := 1) (a := R.n5.2.1) (e := R.n5.2.2) le5; rw [h6] at this; exact this
  have s6 : St w (.slice A l.length cap) (w6.setCell ⟨w.heap.size + 1 + 1, 5, none⟩ (.bool ((R.n6.1 : Int) == 1))) R.n6.2.1 R.n6.2.2 [.int .u64 (R.n1.1 : Int), .int .u64 (R.n2.1 : Int), i64 (R.n3.1 : Int), i64 (R.n4.1 : Int), cx (plc R.n5.1).1 (plc R.n5.1).2, .bool ((R.n6.1 : Int) == 1), .string { data := #[] }, .string { data := #[] }] := u6.set 5 (.bool ((R.n6.1 : Int) == 1))
  by_cases hg1 : 1 < R.n6.1
  · have hv : R.err l.length = 2 := if_pos hg1
    have r0 := fun i => cell_blk u6.res i
    have rf := fun o => frozen_blk u6.res o
    have HV := Lib.hid hv
    clear hv
    have q0 : w6.cell? ⟨w.heap.size, 0, none⟩ = some (.int .u64 0) := r0 0
    have q1 : w6.cell? ⟨w.heap.size, 1, none⟩ = some (.int .u64 0) := r0 1
    have q2 : w6.cell? ⟨w.heap.size, 2, none⟩ = some (i64 0) := r0 2
    have q3 : w6.cell? ⟨w.heap.size, 3, none⟩ = some (i64 0) := r0 3
    have q4 : w6.cell? ⟨w.heap.size, 4, none⟩ = some (cx 0 0) := r0 4
    have q5 : w6.cell? ⟨w.heap.size, 5, none⟩ = some (.bool false) := r0 5
    have q6 : w6.cell? ⟨w.heap.size, 6, none⟩ = some (.string { data := #[] }) := r0 6
    have q7 : w6.cell? ⟨w.heap.size, 7, none⟩ = some (.string { data := #[] }) := r0 7
    clear r0
    go_wp2_with fail
    exact bodyPost_ret (v := .tuple #[.agg #[.int .u64 0, .int .u64 0, i64 0, i64 0, cx 0 0, .bool false, .string { data := #[] }, .string { data := #[] }], i64 2]) (by simp [results, Tryz.results172, go_sem, q0, q1, q2, q3, q4, q5, q6, q7]) rfl ⟨by rw [res_no (by rw [HV.out]; decide), HV.out, zeroIt_val]; rfl, below_set (below_set (below_set (below_set (below_set (below_set (below_set (below_set u6.below (Nat.le_refl _) _ _) (Nat.le_refl _) _ _) (Nat.le_refl _) _ _) (Nat.le_refl _) _ _) (Nat.le_refl _) _ _) (Nat.le_refl _) _ _) (Nat.le_refl _) _ _) (Nat.le_refl _) _ _⟩
  clear s5
  go_wp2_with fail
  refine (T _ 48 R.n6.2.1 R.n6.2.2 _ s6.rd s6.below le6).out.mono ?_; rintro e w7 ⟨rfl, hrd7, hg7⟩
  rw [h7] at hrd7
  try rw [h7]
  have u7 := s6.call hrd7 hg7
  have f7 := fun o => frozen_blk u7.it o
  have x7 : w7.cell? ⟨w.heap.size + 1 + 1, 6, none⟩ = some (.string { data := #[] }) := cell_blk u7.it 6
  have le7 : R.n7.2.1 ≤ l.length := by have := pTxt_le (l := l) (m := 48) (a := R.n6.2.1) (e := R.n6.2.2) le6; rw [h7] at this; exact this
  have s7 : St w (.slice A l.length cap) (w7.setCell ⟨w.heap.size + 1 + 1, 6, none⟩ (.string (toB R.n7.1))) R.n7.2.1 R.n7.2.2 [.int .u64 (R.n1.1 : Int), .int .u64 (R.n2.1 : Int), i64 (R.n3.1 : Int), i64 (R.n4.1 : Int), cx (plc R.n5.1).1 (plc R.n5.1).2, .bool ((R.n6.1 : Int) == 1), .string (toB R.n7.1), .string { data := #[] }] := u7.set 6 (.string (toB R.n7.1))
  clear s6
  go_wp2_with fail
  refine (T _ 64 R.n7.2.1 R.n7.2.2 _ s7.rd s7.below le7).out.mono ?_; rintro e w8 ⟨rfl, hrd8, hg8⟩
  rw [h8] at hrd8
  try rw [h8]
  have u8 := s7.call hrd8 hg8
  have f8 := fun o => frozen_blk u8.it o
  have x8 : w8.cell? ⟨w.heap.size + 1 + 1, 7, none⟩ = some (.string { data := #[] }) := cell_blk u8.it 7
  have le8 : R.n8.2.1 ≤ l.length := by have := pTxt_le (l := l) (m := 64) (a := R.n7.2.1) (e := R.n7.2.2) le7; rw [h8] at this; exact this
  have s8 : St w (.slice A l.length cap) (w8.setCell ⟨w.heap.size + 1 + 1, 7, none⟩ (.string (toB R.n8.1))) R.n8.2.1 R.n8.2.2 [.int .u64 (R.n1.1 : Int), .int .u64 (R.n2.1 : Int), i64 (R.n3.1 : Int), i64 (R.n4.1 : Int), cx (plc R.n5.1).1 (plc R.n5.1).2, .bool ((R.n6.1 : Int) == 1), .string (toB R.n7.1), .string (toB R.n8.1)] := u8.set 7 (.string (toB R.n8.1))
  clear u1 u2 u3 u4 u6 u7 hrd1 hrd2 hrd3 hrd4 hrd5 hrd6 hrd7 hg2 hg3 hg4 hg5 hg6 hg7 f1 f2 f3 f4 f5 f6 f7 x1 x2 x3 x4 x5 x6 x7 z5 HG5 N T
  have hfz := fun o => frozen_blk u8.res o
  have c0 : w8.cell? ⟨w.heap.size + 1, 0, none⟩ = some (.slice A l.length cap) := cell_blk u8.rd 0
  have c1 : w8.cell? ⟨w.heap.size + 1, 1, none⟩ = some (i64 R.n8.2.1) := cell_blk u8.rd 1
  have c2 : w8.cell? ⟨w.heap.size + 1, 2, none⟩ = some (i64 R.n8.2.2) := cell_blk u8.rd 2
  have i0 : w8.cell? ⟨w.heap.size + 1 + 1, 0, none⟩ = some (.int .u64 (R.n1.1 : Int)) := cell_blk u8.it 0
  have q0 : w8.cell? ⟨w.heap.size, 0, none⟩ = some (.int .u64 0) := cell_blk u8.res 0
  have i1 : w8.cell? ⟨w.heap.size + 1 + 1, 1, none⟩ = some (.int .u64 (R.n2.1 : Int)) := cell_blk u8.it 1
  have q1 : w8.cell? ⟨w.heap.size, 1, none⟩ = some (.int .u64 0) := cell_blk u8.res 1
  have i2 : w8.cell? ⟨w.heap.size + 1 + 1, 2, none⟩ = some (i64 (R.n3.1 : Int)) := cell_blk u8.it 2
  have q2 : w8.cell? ⟨w.heap.size, 2, none⟩ = some (i64 0) := cell_blk u8.res 2
  have i3 : w8.cell? ⟨w.heap.size + 1 + 1, 3, none⟩ = some (i64 (R.n4.1 : Int)) := cell_blk u8.it 3
  have q3 : w8.cell? ⟨w.heap.size, 3, none⟩ = some (i64 0) := cell_blk u8.res 3
  have i4 : w8.cell? ⟨w.heap.size + 1 + 1, 4, none⟩ = some (cx (plc R.n5.1).1 (plc R.n5.1).2) := cell_blk u8.it 4
  have q4 : w8.cell? ⟨w.heap.size, 4, none⟩ = some (cx 0 0) := cell_blk u8.res 4
  have i5 : w8.cell? ⟨w.heap.size + 1 + 1, 5, none⟩ = some (.bool ((R.n6.1 : Int) == 1)) := cell_blk u8.it 5
  have q5 : w8.cell? ⟨w.heap.size, 5, none⟩ = some (.bool false) := cell_blk u8.res 5
  have i6 : w8.cell? ⟨w.heap.size + 1 + 1, 6, none⟩ = some (.string (toB R.n7.1)) := cell_blk u8.it 6
  have q6 : w8.cell? ⟨w.heap.size, 6, none⟩ = some (.string { data := #[] }) := cell_blk u8.res 6
  have i7 : w8.cell? ⟨w.heap.size + 1 + 1, 7, none⟩ = some (.string { data := #[] }) := cell_blk u8.it 7
  have q7 : w8.cell? ⟨w.heap.size, 7, none⟩ = some (.string { data := #[] }) := cell_blk u8.res 7
  by_cases he : R.n8.2.2 = 0
  · have t1 : ((R.n8.2.2 : Int) != 0) = false := by rw [bne_eq_false_iff_eq]; omega
    by_cases hat : R.n8.2.1 < l.length
    · have hv : R.err l.length = 2 := by unfold Read.err; rw [if_neg hg1, if_neg (by simp [he]), if_pos hat]
      have HV := Lib.hid hv
      clear hv
      go_wp2_with fail
      exact bodyPost_ret (v := .tuple #[.agg #[.int .u64 0, .int .u64 0, i64 0, i64 0, cx 0 0, .bool false, .string { data := #[] }, .string { data := #[] }], i64 (2 : Nat)]) (by simp [results, Tryz.results172, go_sem, q0, q1, q2, q3, q4, q5, q6, q7]) rfl ⟨by rw [res_no (by rw [HV.out]; decide), HV.out, zeroIt_val]; first | done | rfl, below_set (below_set (below_set (below_set (below_set (below_set (below_set (below_set (s8.below) (Nat.le_refl _) _ _) (Nat.le_refl _) _ _) (Nat.le_refl _) _ _) (Nat.le_refl _) _ _) (Nat.le_refl _) _ _) (Nat.le_refl _) _ _) (Nat.le_refl _) _ _) (Nat.le_refl _) _ _⟩
    · have M := fun W => Lib.hid (may_any R.item W)
      have hv : R.err l.length = if mayB R.item = false then 1 else 0 := by unfold Read.err; rw [if_neg hg1, if_neg (by simp [he]), if_neg hat]
      cases hmay : mayB R.item
      all_goals
        rw [hmay] at M hv
        simp only [if_true, if_false, Bool.true_eq_false, Bool.false_eq_true] at hv
        have HV := Lib.hid hv
        clear hv hmay
        go_wp2_with fail
        refine (M _).out.mono ?_; rintro e w9 ⟨rfl, hb9⟩
        have s9 := s8.later hb9
        have z9 := (Array.getElem?_eq_some_iff.1 s9.it).1
        clear hb9 c0 c1 c2 i0 i1 i2 i3 i4 i5 i6 i7 q0 q1 q2 q3 q4 q5 q6 q7 hfz s8 u8 f8 hrd8 hg8 x8
        have hfz := fun o => frozen_blk s9.res o
        have i0 : w9.cell? ⟨w.heap.size + 1 + 1, 0, none⟩ = some (.int .u64 (R.n1.1 : Int)) := cell_blk s9.it 0
        have q0 : w9.cell? ⟨w.heap.size, 0, none⟩ = some (.int .u64 0) := cell_blk s9.res 0
        have i1 : w9.cell? ⟨w.heap.size + 1 + 1, 1, none⟩ = some (.int .u64 (R.n2.1 : Int)) := cell_blk s9.it 1
        have q1 : w9.cell? ⟨w.heap.size, 1, none⟩ = some (.int .u64 0) := cell_blk s9.res 1
        have i2 : w9.cell? ⟨w.heap.size + 1 + 1, 2, none⟩ = some (i64 (R.n3.1 : Int)) := cell_blk s9.it 2
        have q2 : w9.cell? ⟨w.heap.size, 2, none⟩ = some (i64 0) := cell_blk s9.res 2
        have i3 : w9.cell? ⟨w.heap.size + 1 + 1, 3, none⟩ = some (i64 (R.n4.1 : Int)) := cell_blk s9.it 3
        have q3 : w9.cell? ⟨w.heap.size, 3, none⟩ = some (i64 0) := cell_blk s9.res 3
        have i4 : w9.cell? ⟨w.heap.size + 1 + 1, 4, none⟩ = some (cx (plc R.n5.1).1 (plc R.n5.1).2) := cell_blk s9.it 4
        have q4 : w9.cell? ⟨w.heap.size, 4, none⟩ = some (cx 0 0) := cell_blk s9.res 4
        have i5 : w9.cell? ⟨w.heap.size + 1 + 1, 5, none⟩ = some (.bool ((R.n6.1 : Int) == 1)) := cell_blk s9.it 5
        have q5 : w9.cell? ⟨w.heap.size, 5, none⟩ = some (.bool false) := cell_blk s9.res 5
        have i6 : w9.cell? ⟨w.heap.size + 1 + 1, 6, none⟩ = some (.string (toB R.n7.1)) := cell_blk s9.it 6
        have q6 : w9.cell? ⟨w.heap.size, 6, none⟩ = some (.string { data := #[] }) := cell_blk s9.res 6
        have i7 : w9.cell? ⟨w.heap.size + 1 + 1, 7, none⟩ = some (.string (toB R.n8.1)) := cell_blk s9.it 7
        have q7 : w9.cell? ⟨w.heap.size, 7, none⟩ = some (.string { data := #[] }) := cell_blk s9.res 7
        go_wp2_with fail
      · exact bodyPost_ret (v := .tuple #[.agg #[.int .u64 0, .int .u64 0, i64 0, i64 0, cx 0 0, .bool false, .string { data := #[] }, .string { data := #[] }], i64 (1 : Nat)]) (by simp [results, Tryz.results172, go_sem, q0, q1, q2, q3, q4, q5, q6, q7]) rfl ⟨by rw [res_no (by rw [HV.out]; decide), HV.out, zeroIt_val]; first | done | rfl, below_set (below_set (below_set (below_set (below_set (below_set (below_set (below_set (s9.below) (Nat.le_refl _) _ _) (Nat.le_refl _) _ _) (Nat.le_refl _) _ _) (Nat.le_refl _) _ _) (Nat.le_refl _) _ _) (Nat.le_refl _) _ _) (Nat.le_refl _) _ _) (Nat.le_refl _) _ _⟩
      · exact bodyPost_ret (v := .tuple #[.agg #[.int .u64 (R.n1.1 : Int), .int .u64 (R.n2.1 : Int), i64 (R.n3.1 : Int), i64 (R.n4.1 : Int), cx (plc R.n5.1).1 (plc R.n5.1).2, .bool ((R.n6.1 : Int) == 1), .string (toB R.n7.1), .string (toB R.n8.1)], i64 (0 : Nat)]) (by simp [results, Tryz.results172, go_sem, q0, q1, q2, q3, q4, q5, q6, q7]) rfl ⟨by rw [res_yes HV.out, HV.out]; rfl, below_set (below_set (below_set (below_set (below_set (below_set (below_set (below_set (s9.below) (Nat.le_refl _) _ _) (Nat.le_refl _) _ _) (Nat.le_refl _) _ _) (Nat.le_refl _) _ _) (Nat.le_refl _) _ _) (Nat.le_refl _) _ _) (Nat.le_refl _) _ _) (Nat.le_refl _) _ _⟩
  · have t1 : ((R.n8.2.2 : Int) != 0) = true := by rw [bne_iff_ne]; omega
    have hv : R.err l.length = R.n8.2.2 := by unfold Read.err; rw [if_neg hg1, if_pos he]
    have HV := Lib.hid hv
    clear hv
    go_wp2_with fail
    obtain ⟨W8, hW8⟩ : ∃ W, W = w8.setCell ⟨w.heap.size + 1 + 1, 7, none⟩ (.string (toB R.n8.1)) := ⟨_, rfl⟩
    rw [← hW8] at s8 ⊢
    clear hW8 c0 c1 c2 i0 i1 i2 i3 i4 i5 i6 i7 q0 q1 q2 q3 q4 q5 q6 q7 hfz u8 f8 hrd8 hg8 x8
    have hfz := fun o => frozen_blk s8.res o
    have hr1 := (Array.getElem?_eq_some_iff.1 s8.rd).1
    have hne : some (w.heap.size + 1) ≠ some w.heap.size := by intro e; injection e with e; omega
    have c2 : W8.cell? ⟨w.heap.size + 1, 2, none⟩ = some (i64 R.n8.2.2) := cell_blk s8.rd 2
    have q0 : W8.cell? ⟨w.heap.size, 0, none⟩ = some (.int .u64 0) := cell_blk s8.res 0
    have q1 : W8.cell? ⟨w.heap.size, 1, none⟩ = some (.int .u64 0) := cell_blk s8.res 1
    have q2 : W8.cell? ⟨w.heap.size, 2, none⟩ = some (i64 0) := cell_blk s8.res 2
    have q3 : W8.cell? ⟨w.heap.size, 3, none⟩ = some (i64 0) := cell_blk s8.res 3
    have q4 : W8.cell? ⟨w.heap.size, 4, none⟩ = some (cx 0 0) := cell_blk s8.res 4
    have q5 : W8.cell? ⟨w.heap.size, 5, none⟩ = some (.bool false) := cell_blk s8.res 5
    have q6 : W8.cell? ⟨w.heap.size, 6, none⟩ = some (.string { data := #[] }) := cell_blk s8.res 6
    have q7 : W8.cell? ⟨w.heap.size, 7, none⟩ = some (.string { data := #[] }) := cell_blk s8.res 7
    refine wp_region_ph (D := fun w' => ∃ p : GrOf W8 (some w.heap.size), w' = p.v) 7 [5] (by kernel_rfl) (by kernel_rfl) ⟨⟨_, grown_dr (grown_same _ _)⟩, rfl⟩ ?_
    simp only [List.take_succ_cons, List.take_zero, List.drop_succ_cons, List.drop_zero]
    have on0 := @on_rd0; have on1 := @on_rd1; have on2 := @on_rd2; have on3 := @on_new1; have on4 := @on_new2; have on5 := @gr_rd0
    repeat ((with_reducible refine head_quiet ?_ ?_); (focus rfl); (intro K hK); go_simp; first | ((with_reducible refine hK _ ?_); clear hK K) | (rw [if_neg (by intro h; cases h)]; (with_reducible refine hK _ ?_); clear hK K) | (apply Exists.intro; refine ⟨fun _ => ?_, hK _ ?_⟩; (fail); clear hK K))
    refine head_store (by rfl) rfl (((((((((W8.drew).setCell ⟨w.heap.size, 0, none⟩ (.int .u64 0)).setCell ⟨w.heap.size, 1, none⟩ (.int .u64 0)).setCell ⟨w.heap.size, 2, none⟩ (i64 0)).setCell ⟨w.heap.size, 3, none⟩ (i64 0)).setCell ⟨w.heap.size, 4, none⟩ (cx 0 0)).setCell ⟨w.heap.size, 5, none⟩ (.bool false)).setCell ⟨w.heap.size, 6, none⟩ (.string { data := #[] })).setCell ⟨w.heap.size, 7, none⟩ (.string { data := #[] })) ?_ ⟨⟨_, grown_setCell (grown_setCell (grown_setCell (grown_setCell (grown_setCell (grown_setCell (grown_setCell (grown_setCell (grown_dr (grown_same _ _)) _ _) _ _) _ _) _ _) _ _) _ _) _ _) _ _⟩, rfl⟩ ?_
    · go_simp
    repeat ((with_reducible refine head_quiet ?_ ?_); (focus rfl); (intro K hK); go_simp; first | ((with_reducible refine hK _ ?_); clear hK K) | (rw [if_neg (by intro h; cases h)]; (with_reducible refine hK _ ?_); clear hK K) | (apply Exists.intro; refine ⟨fun _ => ?_, hK _ ?_⟩; (fail); clear hK K))
    clear on0 on1 on2 on3 on4 on5
    with_reducible refine head_nil ?_
    with_reducible refine eq_intro ?_
    go_wp2_with fail
    exact bodyPost_ret (v := .tuple #[.agg #[.int .u64 0, .int .u64 0, i64 0, i64 0, cx 0 0, .bool false, .string { data := #[] }, .string { data := #[] }], i64 (R.n8.2.2 : Nat)]) (by simp [results, Tryz.results172, go_sem, q0, q1, q2, q3, q4, q5, q6, q7]) rfl ⟨by rw [res_no (by rw [HV.out]; exact he), HV.out, zeroIt_val], below_set (below_set (below_set (below_set (below_set (below_set (below_set (below_set (Base.dr s8.below) (Nat.le_refl _) _ _) (Nat.le_refl _) _ _) (Nat.le_refl _) _ _) (Nat.le_refl _) _ _) (Nat.le_refl _) _ _) (Nat.le_refl _) _ _) (Nat.le_refl _) _ _) (Nat.le_refl _) _ _⟩
end Go.Proofs.YthiimpleljaimaaGreatDoor
