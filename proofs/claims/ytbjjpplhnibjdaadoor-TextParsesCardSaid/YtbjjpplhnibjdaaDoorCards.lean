/-
  DERIVED. GIVEN WITH THE SEED: THE CARDS: each row of YtbjjpplhnibjdaaDoorRows.lean that lists a variable, with what it lists TIED to the program's text (the seventh form; the later family's looks); each row that meets fmt, with fmt's text TOLD by the authors' own Lean function (tested against real Go, not proved from fmt's source: count such statements apart). THE CARD IS WHAT COUNTS. Prove the row's statement (the work); the ties are given (YtbjjpplhnibjdaaDoorTie.lean); close each card by the builder's one call (the guide's Derived/Test/ToyasCard.lean, 'card_holds'). Laid BY PROGRAM, IN A SANDBOX (cutbox-door.mjs). By AI agents, Wed Nov 11 2026. No macro, syntax, notation, axiom, sorry.
-/
import Derived.Test.YtbjjpplhnibjdaaDoorRows
import GoSem.ClaimSeven
namespace Go.Proofs.YtbjjpplhnibjdaaDoor
namespace Rows

/-- THE TIED CARD OF 'flintlaw26.TextLong'. -/
def textLongCard : Claim7 := { stood := { row := textLongRow, standIns := [], harness := (true, "650e7ae6ae80aeacd2b37c88e36e5c4ab70b54db6bace4ba39d71e4565957fae"), looks := true }, kinds := [], alts := [], laidByText := true, laidKinds := [.widerDeep], laidTests := true, laidLooks := .later }
def TextLongCardSaid : Prop := Claim7.holds Tryd.pinned (.plain (OpenSpec.ofChange textLongSpec)) textLongCard

/-- THE TIED CARD OF 'flintlaw26.TextPrints'. -/
def textPrintsCard : Claim7 := { stood := { row := textPrintsRow, standIns := [], harness := (true, "650e7ae6ae80aeacd2b37c88e36e5c4ab70b54db6bace4ba39d71e4565957fae"), looks := true }, kinds := [], alts := [], laidByText := true, laidKinds := [.data, .data, .data, .widerDeep], laidTests := true, laidLooks := .later }
def TextPrintsCardSaid : Prop := Claim7.holds Tryd.pinned (.plain (OpenSpec.ofChange textPrintsSpec)) textPrintsCard

/-- THE TIED CARD OF 'flintlaw26.TextParses'. -/
def textParsesCard : Claim7 := { stood := { row := textParsesRow, standIns := [], harness := (true, "650e7ae6ae80aeacd2b37c88e36e5c4ab70b54db6bace4ba39d71e4565957fae"), looks := true }, kinds := [], alts := [], laidByText := true, laidKinds := [.data, .data, .data, .widerDeep], laidTests := true, laidLooks := .later }
def TextParsesCardSaid : Prop := Claim7.holds Tryd.pinned (.plain (OpenSpec.ofChange textParsesSpec)) textParsesCard

/-- THE SECOND FORM's CARD OF 'flintlaw26.TextLong'. -/
def textLongUptoCard : Claim7 := { stood := { row := textLongUptoRow, standIns := [], harness := (true, "650e7ae6ae80aeacd2b37c88e36e5c4ab70b54db6bace4ba39d71e4565957fae"), looks := true }, kinds := [], alts := [], laidByText := true, laidKinds := [.widerDeep], laidTests := true, laidLooks := .later }
def TextLongUptoCardSaid : Prop := Claim7.holds Tryd.pinned (.plain (OpenSpec.upto textLongSpec)) textLongUptoCard

/-- THE SECOND FORM's CARD OF 'flintlaw26.TextPrints'. -/
def textPrintsUptoCard : Claim7 := { stood := { row := textPrintsUptoRow, standIns := [], harness := (true, "650e7ae6ae80aeacd2b37c88e36e5c4ab70b54db6bace4ba39d71e4565957fae"), looks := true }, kinds := [], alts := [], laidByText := true, laidKinds := [.data, .data, .data, .widerDeep], laidTests := true, laidLooks := .later }
def TextPrintsUptoCardSaid : Prop := Claim7.holds Tryd.pinned (.plain (OpenSpec.upto textPrintsSpec)) textPrintsUptoCard

/-- THE SECOND FORM's CARD OF 'flintlaw26.TextParses'. -/
def textParsesUptoCard : Claim7 := { stood := { row := textParsesUptoRow, standIns := [], harness := (true, "650e7ae6ae80aeacd2b37c88e36e5c4ab70b54db6bace4ba39d71e4565957fae"), looks := true }, kinds := [], alts := [], laidByText := true, laidKinds := [.data, .data, .data, .widerDeep], laidTests := true, laidLooks := .later }
def TextParsesUptoCardSaid : Prop := Claim7.holds Tryd.pinned (.plain (OpenSpec.upto textParsesSpec)) textParsesUptoCard
end Rows
end Go.Proofs.YtbjjpplhnibjdaaDoor
