/- The reference of layer 7: may an item be? -/
import Derived.Test.YtbjjpplhnibjdaaDoorRingF
namespace Go.Proofs.YtbjjpplhnibjdaaDoor
open Go.RowKit Flo
attribute [local go_sem] run_store_complex

/-- What May says of an item at a right place. -/
def restB (x : Item) : Bool := (decide (1 ≤ x.count) && decide (x.count ≤ 255) && decide (0 ≤ x.index) && decide (x.index < x.count)) && !decide (x.key.toList = []) && decide (0 < sizeB x.key x.value) && (!x.gone || decide (x.value.toList = []))

theorem restB_iff (x : Item) : restB x = true ↔ (1 ≤ x.count ∧ x.count ≤ 255 ∧ 0 ≤ x.index ∧ x.index < x.count) ∧ x.key.toList ≠ [] ∧ (x.key.size : Int) ≤ 48 ∧ (x.value.size : Int) ≤ 64 ∧ (x.gone = false ∨ x.value.toList = []) := by
  have hs : (0 < sizeB x.key x.value) ↔ ((x.key.size : Int) ≤ 48 ∧ (x.value.size : Int) ≤ 64) := by
    unfold sizeB
    split <;> omega
  unfold restB
  simp only [Bool.and_eq_true, Bool.or_eq_true, Bool.not_eq_true', decide_eq_true_eq, decide_eq_false_iff_not, hs, and_assoc]
theorem mayB_rest (x : Item) : mayB x = (placeOk x.a x.b && restB x) := by
  unfold mayB restB
  cases placeOk x.a x.b <;> simp

end Go.Proofs.YtbjjpplhnibjdaaDoor
