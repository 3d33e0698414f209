/- TxnNil: the row's facts about the program. -/
import Derived.Test.YthiimpleljaimaaGreatDoorTie
import Derived.SevenTiedAt
import Derived.ChangeMaps5
import Derived.Lay
namespace Go.Proofs.YthiimpleljaimaaGreatDoor
open Go Go.ChangeShapes Go.WideShapes
set_option maxRecDepth 100000
theorem txc_1 : Tryz.pinned.checked.prog.funcNamed Rows.txnNilRow.func = some 3 := by kernel_rfl
theorem txc_2 : joinedFacts Tryz.pinned.checked.prog 3 Tryz.f3 Rows.txnNilSpec Rows.txnNilRow = true := by kernel_rfl
theorem txc_3 : Tryz.f3.isInstance Tryz.pinned.checked.prog Rows.txnNilRow.origin Rows.txnNilRow.targs := of_decide_eq_true (by kernel_rfl)
theorem txc_4 : Tryz.f3.isWrapper Tryz.pinned.checked.prog Rows.txnNilRow.wrapper Rows.txnNilRow.mainSum := by unfold Func.isWrapper; first | (rw [if_pos (by decide +kernel)]; kernel_rfl) | (rw [if_neg (by decide +kernel)]; exact ⟨rfl, rfl⟩)
end Go.Proofs.YthiimpleljaimaaGreatDoor
