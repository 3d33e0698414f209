/- A region that draws its order, whose operations read, whose callees may make memory of their own: walked once, in the class 'nothing below the end has changed'. -/
import Derived.Test.YtbjjpplhnibjdaaDoorBase
import Derived.Deep.QuietTactic
namespace Go.Proofs.YtbjjpplhnibjdaaDoor
open Go.RowKit

/-- A world in which nothing of w's has changed. -/
structure OnOf (w : World) where
  v : World
  h : Below w.heap.size w v

instance (w : World) : Nonempty (OnOf w) := ⟨⟨w, Below.refl _ _⟩⟩
instance (w : World) : Inhabited (OnOf w) := ⟨⟨w, Below.refl _ _⟩⟩

theorem wp_region_quiet_on {P : Program} {id : Nat} {Q : Exit → Act → World → Prop} {a : Act} {w : World} {l : List Oper} (hm : P.follows .mixedOrders = true) (hB : Region.lexB .any l.toArray = true)
    (h : wpQuiet P l.toArray (fun w' => ∃ p : OnOf w, w' = p.v) (fun a' => ∀ w', (∃ p : OnOf w, w' = p.v) → Q .normal a' w') l a) : (Code.region id l.toArray true).wp P Q a w :=
  wp_region_quiet (C := fun w' => ∃ p : OnOf w, w' = p.v) hm hB ⟨⟨_, Base.dr (Below.refl _ _)⟩, rfl⟩ (by simpa using h)

theorem on_cell {w : World} {a : Addr} {v : Value} (hb : a.block < w.heap.size) (h : w.cell? a = some v) (p : OnOf w) : p.v.cell? a = some v := by
  rw [p.h.cell hb]; exact h

/-- A callee's contract, met in a world of the class. -/
theorem on_of {P : Program} {f : FuncId} {args : Array Value} {w : World} {p : OnOf w} {v : Value}
    (h : Calls P f args p.v fun e w' => e = .returned v ∧ Below p.v.heap.size p.v w') : Calls P f args p.v fun e w'' => e = .returned v ∧ ∃ q : OnOf w, w'' = q.v :=
  h.mono fun _ _ ⟨he, hb⟩ => ⟨he, ⟨_, Base.tr p.h hb⟩, rfl⟩
/-- .. of a callee that changes nothing. -/
theorem on_of_same {P : Program} {f : FuncId} {args : Array Value} {w : World} {p : OnOf w} {v : Value}
    (h : Calls P f args p.v fun e w' => e = .returned v ∧ w' = p.v) : Calls P f args p.v fun e w'' => e = .returned v ∧ ∃ q : OnOf w, w'' = q.v :=
  h.mono fun _ _ ⟨he, hb⟩ => ⟨he, p, hb⟩

end Go.Proofs.YtbjjpplhnibjdaaDoor
