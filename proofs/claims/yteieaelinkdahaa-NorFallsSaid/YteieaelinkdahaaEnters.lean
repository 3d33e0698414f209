/- Function values. -/
import Derived.Test.YteieaelinkdahaaPlace
namespace Go.Proofs.Yteieaelinkdahaa
open Go.RowKit

/-- Function f has a body of Go's: a call enters it. -/
abbrev Enters (f : FuncId) : Prop := ∀ (args : Array Value) (W : World), (callFunc f args).run Try.prog W = .ok (.enter f args) W
end Go.Proofs.Yteieaelinkdahaa
