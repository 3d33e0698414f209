/-
  DERIVED. GIVEN WITH THE SEED: THE CARDS: each row of YthiimpleljaimaaGreatDoorRows.lean that lists a variable, with what it lists TIED to the program's text (the seventh form; the later family's looks); each row that meets fmt, with fmt's text TOLD by the authors' own Lean function (tested against real Go, not proved from fmt's source: count such statements apart). THE CARD IS WHAT COUNTS. Prove the row's statement (the work); the ties are given (YthiimpleljaimaaGreatDoorTie.lean); close each card by the builder's one call (the guide's Derived/Test/ToyasCard.lean, 'card_holds'). Laid BY PROGRAM, IN A SANDBOX (cutbox-door.mjs). By AI agents, Wed Nov 11 2026. No macro, syntax, notation, axiom, sorry.
-/
import Derived.Test.YthiimpleljaimaaGreatDoorRows
import GoSem.ClaimSeven
namespace Go.Proofs.YthiimpleljaimaaGreatDoor
namespace Rows

/-- THE TIED CARD OF 'flintlaw22.TxnNil'. -/
def txnNilCard : Claim7 := { stood := { row := txnNilRow, standIns := [], harness := (true, "88f1aab6aad6d8494c419521ee89b1fa178b0dcb54db1bc1ea9c546c1260eae4"), looks := false }, kinds := [], alts := [], laidByText := true, laidKinds := [.data, .data, .pinned], laidTests := true, laidLooks := .later }
def TxnNilCardSaid : Prop := Claim7.holds Tryz.pinned (.plain (OpenSpec.ofChange txnNilSpec)) txnNilCard

/-- THE TIED CARD OF 'flintlaw24.WorldNil'. -/
def worldNilCard : Claim7 := { stood := { row := worldNilRow, standIns := [], harness := (true, "88f1aab6aad6d8494c419521ee89b1fa178b0dcb54db1bc1ea9c546c1260eae4"), looks := false }, kinds := [], alts := [], laidByText := true, laidKinds := [.data, .data, .data, .data, .data, .pinned], laidTests := true, laidLooks := .later }
def WorldNilCardSaid : Prop := Claim7.holds Tryz.pinned (.plain (OpenSpec.ofChange worldNilSpec)) worldNilCard

/-- THE SECOND FORM's CARD OF 'flintlaw22.TxnNil'. -/
def txnNilUptoCard : Claim7 := { stood := { row := txnNilUptoRow, standIns := [], harness := (true, "88f1aab6aad6d8494c419521ee89b1fa178b0dcb54db1bc1ea9c546c1260eae4"), looks := false }, kinds := [], alts := [], laidByText := true, laidKinds := [.data, .data, .pinned], laidTests := true, laidLooks := .later }
def TxnNilUptoCardSaid : Prop := Claim7.holds Tryz.pinned (.plain (OpenSpec.upto txnNilSpec)) txnNilUptoCard

/-- THE SECOND FORM's CARD OF 'flintlaw24.WorldNil'. -/
def worldNilUptoCard : Claim7 := { stood := { row := worldNilUptoRow, standIns := [], harness := (true, "88f1aab6aad6d8494c419521ee89b1fa178b0dcb54db1bc1ea9c546c1260eae4"), looks := false }, kinds := [], alts := [], laidByText := true, laidKinds := [.data, .data, .data, .data, .data, .pinned], laidTests := true, laidLooks := .later }
def WorldNilUptoCardSaid : Prop := Claim7.holds Tryz.pinned (.plain (OpenSpec.upto worldNilSpec)) worldNilUptoCard
end Rows
end Go.Proofs.YthiimpleljaimaaGreatDoor
