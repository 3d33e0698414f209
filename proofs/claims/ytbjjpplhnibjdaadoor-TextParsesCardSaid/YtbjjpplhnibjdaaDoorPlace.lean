/- What the functions of package place, of its reference and of its laws' helpers come to: contracts. -/
import Derived.Test.YtbjjpplhnibjdaaDoorRows
import Derived.Test.YtbjjpplhnibjdaaDoorFlo
import Derived.WalkKit
import Derived.WalkSpells
import Derived.Lib.Hide
import Derived.WalkLawsBesides
namespace Go.Proofs.YtbjjpplhnibjdaaDoor
open Go.RowKit Flo

/-- A call that comes back with v and leaves the world as it was. -/
abbrev Gives (f : FuncId) (args : Array Value) (w : World) (v : Value) : Prop := Calls Tryd.prog f args w fun e w' => e = .returned v ∧ w' = w

abbrev i64 (n : Int) : Value := .int .i64 n
abbrev cx (a b : Nat) : Value := .complex .f64 a b
abbrev near (n : Int) : Nat := floatOfInt .f64 n
def eqF (x y : Nat) : Bool := FloatKind.f64.format.order x y == some Ordering.eq

theorem eqF_same {x y : Nat} {v : Int} (hx : V x = some v) (hy : V y = some v) : eqF x y = true := by
  have := eqv hx hy; simp only [decide_true] at this; exact this
theorem eqF_not {x y : Nat} {v u : Int} (hx : V x = some v) (hy : V y = some u) (h : v ≠ u) : eqF x y = false := by
  have := eqv hx hy; simp only [h, decide_false] at this; exact this

/-! ### place.whole -/
/-! ### place.Parts -/
/-! ### place.Of, and the reference's -/
/-! ### place.On -/
/-! ### flintref02: Right, Sector, Offset -/
/-! ### the laws' helpers: fixed, At -/
theorem near3 : near 3 = 4613937818241073152 := by decide
theorem near40 : near 40 = 4630826316843712512 := by decide
theorem near42 : near 42 = 4631107791820423168 := by decide
theorem part3 : part? (near 3) = some 3 := part_some (nearest_Whole (n := 3) (by decide))
theorem part40 : part? (near 40) = some 40 := part_some (nearest_Whole (n := 40) (by decide))

end Go.Proofs.YtbjjpplhnibjdaaDoor
