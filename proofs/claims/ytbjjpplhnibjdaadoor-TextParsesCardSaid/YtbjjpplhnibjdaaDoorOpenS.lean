/- A struct, as an argument. -/
import Derived.Test.YtbjjpplhnibjdaaDoorFlat
namespace Go.Proofs.YtbjjpplhnibjdaaDoor
open Go Go.ChangeShapes Go.WideShapes Go.ChangeAt Go.RowKit Go.Deep

section
variable {H : Type} {enc : TypeId × Value → H} {P : Program} {w : World} {base : Nat} {spare : Nat → Bool} {held : Bool}
/-- A struct that came in. -/
theorem open_flat_struct {r : Reach} {b0 : Nat} {t : TypeId} {n : Nat} {fs : Array Field} {ls : List Leaf} {v : Value} {d : DataW H} {ps : List MemPlace} (ht : P.underlying t = some (.struct fs)) (hfl : flat P n t = some ls)
    (hval : Value.okWide P w r b0 t v) (hd : DataW.Trod enc P w base spare held t v d ps) : ∃ cs : Array Value, v = .agg cs ∧ leaves enc P w base spare held ls cs.toList := by
  unfold Value.okWide at hval
  rw [ht] at hval
  obtain ⟨cs, rfl, _, _⟩ := hval
  obtain ⟨fuel, h⟩ := hd
  exact ⟨cs, rfl, trod_flat n t ls _ _ _ hfl h⟩
end
end Go.Proofs.YtbjjpplhnibjdaaDoor
