/- Function values. -/
import Derived.Test.YteieaelinkdahaaDoorPlace
namespace Go.Proofs.YteieaelinkdahaaDoor
open Go.RowKit

/-- Function f has a body of Go's: a call enters it. -/
abbrev Enters (f : FuncId) : Prop := ∀ (args : Array Value) (W : World), (callFunc f args).run Tryd.prog W = .ok (.enter f args) W
end Go.Proofs.YteieaelinkdahaaDoor
