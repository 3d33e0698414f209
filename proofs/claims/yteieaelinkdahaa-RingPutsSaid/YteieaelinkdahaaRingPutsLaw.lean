/- Any item is written as the reference says, or refused; and it is got as it was: for any item, with no condition. -/
import Derived.Test.YteieaelinkdahaaRingRT
import Derived.Test.YteieaelinkdahaaPh2
import Derived.Test.YteieaelinkdahaaRingRPut
import Derived.Test.YteieaelinkdahaaRingF
import Derived.Test.YteieaelinkdahaaRingM
import Derived.Test.YteieaelinkdahaaRingD
import Derived.Test.YteieaelinkdahaaOpen
import Derived.Test.YteieaelinkdahaaFlat
import Derived.Test.YteieaelinkdahaaRow
import Derived.ChangeMaps5
namespace Go.Proofs.Yteieaelinkdahaa
open Go.ChangeShapes Go.WideShapes Go.ChangeAt Go.RowKit Go.ChangeMaps Flo
attribute [local go_sem] run_store_complex

section
variable {H : Type} {enc : TypeId × Value → H} {P : Program} {w : World} {base : Nat} {spare : Nat → Bool} {held : Bool}
/-- A struct that came in. -/
theorem open_flat_struct {r : Reach} {b0 : Nat} {t : TypeId} {n : Nat} {fs : Array Field} {ls : List Leaf} {v : Value} {d : DataW H} {ps : List MemPlace} (ht : P.underlying t = some (.struct fs)) (hfl : flat P n t = some ls)
    (hval : Value.okWide P w r b0 t v) (hd : DataW.Trod enc P w base spare held t v d ps) : ∃ cs : Array Value, v = .agg cs ∧ leaves enc P w base spare held ls cs.toList := by
  unfold Value.okWide at hval
  rw [ht] at hval
  obtain ⟨cs, rfl, _, _⟩ := hval
  obtain ⟨fuel, h⟩ := hd
  exact ⟨cs, rfl, trod_flat n t ls _ _ _ hfl h⟩
end

set_option maxHeartbeats 8000000 in
set_option maxRecDepth 100000 in
theorem ringPuts_no (r : Raw) (w : World) (h : mayB r.item = false) : Makes 4 #[r.val] w (.bool true) := by
  have G0 := fun W => Lib.hid (fixed7 W)
  have G1 := fun W => Lib.hid (rawItem_any r W)
  have G2 := fun W => Lib.hid (ringPut_no r.item W h)
  have g3 := fun W => refMay_any r.item W
  have g4 := fun W => may_any r.item W
  rw [h] at g3 g4
  have G3 := fun W => Lib.hid (g3 W)
  have G4 := fun W => Lib.hid (g4 W)
  clear g3 g4 h
  generalize r.item = x at *
  go_enter Try.func4, Try.ntmps4
  go_wp2_with fail
  refine (G1 _).out.mono ?_; rintro e x1 ⟨rfl, hb1⟩
  have hB1 := Base.tr (Base.al (Below.refl _ w) _) hb1
  go_wp2_with fail
  refine (G2 _).out.mono ?_; rintro e x2 ⟨rfl, hb2⟩
  obtain ⟨q2, -⟩ := rd hb2
  have hs2 : x1.heap.size < x2.heap.size := by have := hb2.size; simp at this; omega
  have hB2 := Base.tr (Base.al hB1 _) hb2
  go_wp2_with fail
  refine (G3 _).out.mono ?_; rintro e x3 ⟨rfl, hb3⟩
  obtain ⟨q3, -⟩ := rd hb3
  have hs3 : x1.heap.size < x3.heap.size := Nat.lt_of_lt_of_le hs2 hb3.size
  have hB3 := Base.tr hB2 hb3
  go_wp2_with fail
  refine (G0 _).out.mono ?_; rintro e x4 ⟨rfl, hb4⟩
  obtain ⟨q4, -⟩ := rd hb4
  have hs4 : x1.heap.size < x4.heap.size := Nat.lt_of_lt_of_le hs3 hb4.size
  have hB4 := Base.tr hB3 hb4
  go_wp2_with fail
  refine (G4 _).out.mono ?_; rintro e x5 ⟨rfl, hb5⟩
  have hB5 := Base.tr hB4 hb5
  go_wp2_with fail
  go_ret
  exact ⟨rfl, hB5⟩

set_option maxHeartbeats 8000000 in
set_option maxRecDepth 100000 in
theorem ringPuts_yes (r : Raw) (w : World) (h : mayB r.item = true) (h1 : 0 ≤ r.seq) (h2 : r.seq < 2 ^ 64) (h3 : 0 ≤ r.ver) (h4 : r.ver < 2 ^ 64) : Makes 4 #[r.val] w (.bool true) := by
  obtain ⟨seq, ver, idx, cnt, s, o, hP⟩ := plain_of h h1 h2 h3 h4
  have G0 := fun W => Lib.hid (fixed7 W)
  have G1 := fun W => Lib.hid (rawItem_any r W)
  have G2 := fun W => Lib.hid (ringPut_yes r.item seq ver idx cnt s o W h hP)
  have G5 := fun W => Lib.hid (rPutIt_any r.item seq ver idx cnt s o W hP)
  have g3 := fun W => refMay_any r.item W
  have g4 := fun W => may_any r.item W
  rw [h] at g3 g4
  have G3 := fun W => Lib.hid (g3 W)
  have G4 := fun W => Lib.hid (g4 W)
  obtain ⟨R, hR⟩ := read_ex (itemB seq ver idx cnt s o r.item.gone r.item.key r.item.value)
  obtain ⟨herr, heq⟩ := put_get hP h hR
  have hbl : ∀ b ∈ itemB seq ver idx cnt s o r.item.gone r.item.key r.item.value, b < 256 := itemB_lt hP
  have hll : (itemB seq ver idx cnt s o r.item.gone r.item.key r.item.value).length ≤ 1000 := itemB_short hP
  have G6 := fun A n cap W hB => ringGet_any A n cap (itemB seq ver idx cnt s o r.item.gone r.item.key r.item.value) W hB hbl (by omega) R hR
  rw [herr, res_yes herr] at G6
  have G7 := fun W => Lib.hid (ringSize_any r.item.key r.item.value W)
  have G8 := fun W => Lib.hid (refSize_any r.item.key r.item.value W)
  have heqq := fun W => run_eq_item R.item r.item W 9998
  rw [heq] at heqq
  clear g3 g4 h hP herr heq hR hbl hll
  generalize itemB seq ver idx cnt s o r.item.gone r.item.key r.item.value = l at *
  generalize r.item = x at *
  generalize R.item = y at *
  generalize sizeB x.key x.value = sz at *
  have HG6 := fun A n cap W hB => Lib.hid (G6 A n cap W hB)
  clear G6
  go_enter Try.func4, Try.ntmps4
  go_wp2_with fail
  refine (G1 _).out.mono ?_; rintro e x1 ⟨rfl, hb1⟩
  have hB1 := Base.tr (Base.al (Below.refl _ w) _) hb1
  go_wp2_with fail
  refine (G2 _).out.mono ?_; rintro e x2 ⟨ad, nn, cc, rfl, hy2, hb2⟩
  obtain ⟨q2, -⟩ := rd hb2
  have hs2 : x1.heap.size < x2.heap.size := by have := hb2.size; simp at this; omega
  have hB2 := Base.tr (Base.al hB1 _) hb2
  go_wp2_with fail
  refine (G3 _).out.mono ?_; rintro e x3 ⟨rfl, hb3⟩
  obtain ⟨q3, -⟩ := rd hb3
  have hs3 : x1.heap.size < x3.heap.size := Nat.lt_of_lt_of_le hs2 hb3.size
  have hB3 := Base.tr hB2 hb3
  have hy3 := Sl.below hy2 hb3
  go_wp2_with fail
  refine (HG6 _ _ _ _ hy3).out.mono ?_; rintro e x4 ⟨rfl, hb4⟩
  obtain ⟨q4, -⟩ := rd hb4
  have hs4 : x1.heap.size < x4.heap.size := Nat.lt_of_lt_of_le hs3 hb4.size
  have hB4 := Base.tr hB3 hb4
  have hy4 := Sl.below hy3 hb4
  go_wp2_with fail
  have hB4' := Base.al hB4 (.cells #[.int .u64 y.seq, .int .u64 y.ver, i64 y.index, i64 y.count, cx y.a y.b, .bool y.gone, .string y.key, .string y.value] 49)
  have hy5 := Sl.below hy4 (Base.al (Below.refl _ _) (.cells #[.int .u64 y.seq, .int .u64 y.ver, i64 y.index, i64 y.count, cx y.a y.b, .bool y.gone, .string y.key, .string y.value] 49))
  have hs5 : x1.heap.size < (x4.alloc (.cells #[.int .u64 y.seq, .int .u64 y.ver, i64 y.index, i64 y.count, cx y.a y.b, .bool y.gone, .string y.key, .string y.value] 49)).heap.size := by simp; omega
  have kb := fun p : OnOf (x4.alloc (.cells #[.int .u64 y.seq, .int .u64 y.ver, i64 y.index, i64 y.count, cx y.a y.b, .bool y.gone, .string y.key, .string y.value] 49)) => conv_any (Sl.below hy5 p.h)
  refine wp_region_po (fun w' => ∃ p : OnOf (x4.alloc (.cells #[.int .u64 y.seq, .int .u64 y.ver, i64 y.index, i64 y.count, cx y.a y.b, .bool y.gone, .string y.key, .string y.value] 49)), w' = p.v) 40 [0, 3, 13, 14, 31, 36] (by kernel_rfl) (by kernel_rfl) ⟨⟨_, Base.dr (Below.refl _ _)⟩, rfl⟩ ?_
  simp only [List.take_succ_cons, List.take_zero, List.drop_succ_cons, List.drop_zero]
  have on0 := @on_rd0; have on1 := @on_rd1; have on2 := @on_rd2; have on3 := @on_new1; have on4 := @on_new2; have on5 := @gr_rd0
  refine seq_eff (by rfl) (by first | rfl | go_simp) ?_
  intro K hK
  unfold effAt2
  go_simp
  refine ⟨rfl, (G0 _).out.mono ?_⟩; rintro e x5 ⟨rfl, hb5⟩
  have hc5 := Base.tr (Base.dr (Below.refl _ _)) hb5
  refine ⟨_, rfl, ⟨⟨_, hc5⟩, rfl⟩, hK _ _ ?_⟩
  clear hK K
  repeat ((with_reducible refine seq_read ?_ ?_); (focus rfl); (intro K hK); (unfold readsAt); go_simp; first | ((with_reducible refine hK _ ?_); clear hK K) | (rw [if_neg (by intro h; cases h)]; (with_reducible refine hK _ ?_); clear hK K))
  refine seq_eff (by rfl) (by first | rfl | go_simp) ?_
  intro K hK
  unfold effAt2
  go_simp
  refine ⟨rfl, (G4 _).out.mono ?_⟩; rintro e x6 ⟨rfl, hb6⟩
  have hc6 := Base.tr hc5 hb6
  refine ⟨_, rfl, ⟨⟨_, hc6⟩, rfl⟩, hK _ _ ?_⟩
  clear hK K
  repeat ((with_reducible refine seq_read ?_ ?_); (focus rfl); (intro K hK); (unfold readsAt); go_simp; first | ((with_reducible refine hK _ ?_); clear hK K) | (rw [if_neg (by intro h; cases h)]; (with_reducible refine hK _ ?_); clear hK K))
  refine seq_eff (by rfl) (by first | rfl | go_simp) ?_
  intro K hK
  unfold effAt2
  go_simp
  refine ⟨rfl, (G5 _).out.mono ?_⟩; rintro e x7 ⟨ad7, n7, c7, rfl, hy7, hb7⟩
  have hc7 := Base.tr hc6 hb7
  have k14 := conv_any hy7
  refine ⟨_, rfl, ⟨⟨_, hc7⟩, rfl⟩, hK _ _ ?_⟩
  clear hK K
  refine seq_eff (by rfl) (by first | rfl | go_simp) ?_
  intro K hK
  unfold effAt2
  go_simp
  refine ⟨⟨⟨_, hc7⟩, rfl⟩, hK _ _ ?_⟩
  clear hK K
  repeat ((with_reducible refine seq_read ?_ ?_); (focus rfl); (intro K hK); (unfold readsAt); go_simp; first | ((with_reducible refine hK _ ?_); clear hK K) | (rw [if_neg (by intro h; cases h)]; (with_reducible refine hK _ ?_); clear hK K))
  refine seq_eff (by rfl) (by first | rfl | go_simp) ?_
  intro K hK
  unfold effAt2
  go_simp
  refine ⟨rfl, (G7 _).out.mono ?_⟩; rintro e x8 hx8
  obtain ⟨rfl, hx8⟩ := hx8
  subst hx8
  refine ⟨_, rfl, ⟨⟨_, hc7⟩, rfl⟩, hK _ _ ?_⟩
  clear hK K
  repeat ((with_reducible refine seq_read ?_ ?_); (focus rfl); (intro K hK); (unfold readsAt); go_simp; first | ((with_reducible refine hK _ ?_); clear hK K) | (rw [if_neg (by intro h; cases h)]; (with_reducible refine hK _ ?_); clear hK K))
  refine seq_eff (by rfl) (by first | rfl | go_simp) ?_
  intro K hK
  unfold effAt2
  go_simp
  refine ⟨rfl, (G8 _).out.mono ?_⟩; rintro e x9 hx9
  obtain ⟨rfl, hx9⟩ := hx9
  subst hx9
  refine ⟨_, rfl, ⟨⟨_, hc7⟩, rfl⟩, hK _ _ ?_⟩
  clear hK K
  repeat ((with_reducible refine seq_read ?_ ?_); (focus rfl); (intro K hK); (unfold readsAt); go_simp; first | ((with_reducible refine hK _ ?_); clear hK K) | (rw [if_neg (by intro h; cases h)]; (with_reducible refine hK _ ?_); clear hK K))
  clear on0 on1 on2 on3 on4 on5
  with_reducible refine seq_nil ?_
  go_wp2_with fail
  go_ret
  exact ⟨rfl, Base.tr hB4' hc7⟩

section
variable {H : Type} {enc : TypeId × Value → H} {w : World} {spare : Nat → Bool} {held : Bool}
set_option maxRecDepth 100000 in
theorem wf64 {x : Int} (h : (Lit.int .u64 x).wf = true) : 0 ≤ x ∧ x < 2 ^ 64 := by
  simp [Lit.wf] at h
  have h1 : x ≤ 18446744073709551615 := h.2
  exact ⟨h.1, Int.lt_of_le_of_lt h1 (by decide)⟩
set_option maxRecDepth 100000 in
theorem leaf_raw {r : List Value} (h : leaves enc Try.prog w 0 spare held [.int .u64, .int .u64, .int .i64, .int .i64, .int .u64, .int .u64, .bool, .str, .str] r) :
    ∃ x : Raw, r = [.int .u64 x.seq, .int .u64 x.ver, i64 x.index, i64 x.count, .int .u64 x.n0, .int .u64 x.n1, .bool x.gone, .string x.key, .string x.value] ∧ (0 ≤ x.seq ∧ x.seq < 2 ^ 64) ∧ 0 ≤ x.ver ∧ x.ver < 2 ^ 64 := by
  obtain ⟨_, r1, rfl, ⟨a, rfl, ha⟩, q1⟩ := leaves_cons h
  obtain ⟨_, r2, rfl, ⟨b, rfl, hb⟩, q2⟩ := leaves_cons q1
  obtain ⟨_, r3, rfl, ⟨c, rfl, _⟩, q3⟩ := leaves_cons q2
  obtain ⟨_, r4, rfl, ⟨d, rfl, _⟩, q4⟩ := leaves_cons q3
  obtain ⟨_, r5, rfl, ⟨e, rfl, _⟩, q5⟩ := leaves_cons q4
  obtain ⟨_, r6, rfl, ⟨f, rfl, _⟩, q6⟩ := leaves_cons q5
  obtain ⟨_, r7, rfl, ⟨g, rfl⟩, q7⟩ := leaves_cons q6
  obtain ⟨_, r8, rfl, ⟨k, rfl, _⟩, q8⟩ := leaves_cons q7
  obtain ⟨_, r9, rfl, ⟨v, rfl, _⟩, q9⟩ := leaves_cons q8
  obtain rfl := leaves_nil q9
  exact ⟨⟨a, b, c, d, e, f, g, k, v⟩, rfl, wf64 ha, wf64 hb⟩
end
theorem ringPuts_makes (r : Raw) (w : World) (h1 : 0 ≤ r.seq) (h2 : r.seq < 2 ^ 64) (h3 : 0 ≤ r.ver) (h4 : r.ver < 2 ^ 64) : Makes 4 #[r.val] w (.bool true) := by
  cases h : mayB r.item
  · exact ringPuts_no r w h
  · exact ringPuts_yes r w h h1 h2 h3 h4

set_option maxRecDepth 100000 in
theorem ringPuts_law : LawCalls 4 Try.f4 := by
  intro H enc W base args ds p hval hA hsz hfz
  rw [Try.params4] at hA hval hsz
  obtain ⟨v0, vs0, d0, ds0, p0, q0, hargs, rfl, rfl, h0, r0⟩ := trodAll_cons hA
  obtain ⟨rfl, rfl, rfl⟩ := trodAll_nil r0
  obtain rfl : args = #[v0] := by cases args; simp_all
  obtain ⟨cs, rfl, hlv⟩ := open_flat_struct (n := 4) (ls := [.int .u64, .int .u64, .int .i64, .int .i64, .int .u64, .int .u64, .bool, .str, .str]) Try.underlying47 (by kernel_rfl) (hval 0 47 v0 rfl rfl) h0
  obtain ⟨x, hx, ⟨b1, b2⟩, b3, b4⟩ := leaf_raw hlv
  have hcs : cs = #[.int .u64 x.seq, .int .u64 x.ver, i64 x.index, i64 x.count, .int .u64 x.n0, .int .u64 x.n1, .bool x.gone, .string x.key, .string x.value] := Array.toList_inj.1 hx
  subst hcs
  exact ringPuts_makes x W b1 b2 b3 b4

set_option maxRecDepth 100000 in
theorem RingPuts_holds : Rows.RingPutsSaid :=
  OpenClaim.holds_of_wide 4 Try.f4 rfl rfl rfl rfl rfl rfl rfl ⟨rfl, rfl, rfl, rfl, rfl⟩ rfl rfl rfl rfl rfl (by kernel_rfl) Try.func4 (by kernel_rfl)
    (of_decide_eq_true (by kernel_rfl)) (by unfold Func.isWrapper; first | (rw [if_pos (by decide +kernel)]; kernel_rfl) | (rw [if_neg (by decide +kernel)]; exact ⟨rfl, rfl⟩))
    (fun os started H enc _ => law_lifted (fn := Try.f4) (spec := Rows.ringPutsSpec) Try.func4 (by kernel_rfl) rfl rfl Try.underlying4 (of_decide_eq_true (by kernel_rfl))
      (k := 1) (by kernel_rfl) (fun H ds h => by match ds, h with | [_], _ => rfl) os started H enc
      (ChangeSpec.witness6 (enc := enc) (C := Try.checked) false ⟨#[], #[.agg #[.int .u64 0, .int .u64 0, .int .i64 0, .int .i64 0, .int .u64 0, .int .u64 0, .bool false, .string ByteArray.empty, .string ByteArray.empty]], []⟩ 8 (by kernel_rfl) (by kernel_rfl) (by kernel_rfl) (by kernel_rfl)) ringPuts_law)
#print axioms RingPuts_holds
end Go.Proofs.Yteieaelinkdahaa
