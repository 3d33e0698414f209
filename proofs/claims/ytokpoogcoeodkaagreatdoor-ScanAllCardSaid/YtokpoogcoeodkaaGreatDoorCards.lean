/-
  DERIVED. GIVEN WITH THE SEED: THE CARDS: each row of YtokpoogcoeodkaaGreatDoorRows.lean that lists a variable, with what it lists TIED to the program's text (the seventh form; the later family's looks); each row that meets fmt, with fmt's text TOLD by the authors' own Lean function (tested against real Go, not proved from fmt's source: count such statements apart). THE CARD IS WHAT COUNTS. Prove the row's statement (the work); the ties are given (YtokpoogcoeodkaaGreatDoorTie.lean); close each card by the builder's one call (the guide's Derived/Test/ToyasCard.lean, 'card_holds'). Laid BY PROGRAM, IN A SANDBOX (cutbox-door.mjs). By AI agents, Wed Nov 11 2026. No macro, syntax, notation, axiom, sorry.
-/
import Derived.Test.YtokpoogcoeodkaaGreatDoorRows
import GoSem.ClaimSeven
namespace Go.Proofs.YtokpoogcoeodkaaGreatDoor
namespace Rows

/-- THE TIED CARD OF 'flintlaw08.ScanAll'. -/
def scanAllCard : Claim7 := { stood := { row := scanAllRow, standIns := [], harness := (true, "de51a79b55ba8b085ca469040a8f29d13d83857c0cbc97132b4e6a2f839c8569"), looks := false }, kinds := [], alts := [], laidByText := true, laidKinds := [.data], laidTests := true, laidLooks := .later }
def ScanAllCardSaid : Prop := Claim7.holds Tryz.pinned (.plain (OpenSpec.ofChange scanAllSpec)) scanAllCard

/-- THE SECOND FORM's CARD OF 'flintlaw08.ScanAll'. -/
def scanAllUptoCard : Claim7 := { stood := { row := scanAllUptoRow, standIns := [], harness := (true, "de51a79b55ba8b085ca469040a8f29d13d83857c0cbc97132b4e6a2f839c8569"), looks := false }, kinds := [], alts := [], laidByText := true, laidKinds := [.data], laidTests := true, laidLooks := .later }
def ScanAllUptoCardSaid : Prop := Claim7.holds Tryz.pinned (.plain (OpenSpec.upto scanAllSpec)) scanAllUptoCard
end Rows
end Go.Proofs.YtokpoogcoeodkaaGreatDoor
