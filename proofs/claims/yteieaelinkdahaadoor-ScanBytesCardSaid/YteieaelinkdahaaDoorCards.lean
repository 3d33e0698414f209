/-
  DERIVED. GIVEN WITH THE SEED: THE CARDS: each row of YteieaelinkdahaaDoorRows.lean that lists a variable, with what it lists TIED to the program's text (the seventh form; the later family's looks); each row that meets fmt, with fmt's text TOLD by the authors' own Lean function (tested against real Go, not proved from fmt's source: count such statements apart). THE CARD IS WHAT COUNTS. Prove the row's statement (the work); the ties are given (YteieaelinkdahaaDoorTie.lean); close each card by the builder's one call (the guide's Derived/Test/ToyasCard.lean, 'card_holds'). Laid BY PROGRAM, IN A SANDBOX (cutbox-door.mjs). By AI agents, Wed Nov 11 2026. No macro, syntax, notation, axiom, sorry.
-/
import Derived.Test.YteieaelinkdahaaDoorRows
import GoSem.ClaimSeven
namespace Go.Proofs.YteieaelinkdahaaDoor
namespace Rows

/-- THE TIED CARD OF 'flintlaw08.ScanBytes'. -/
def scanBytesCard : Claim7 := { stood := { row := scanBytesRow, standIns := [], harness := (true, "f321e70b1bb8f2858f7890a23caffef009021b430783e694f5a085fdad884a0d"), looks := false }, kinds := [], alts := [], laidByText := true, laidKinds := [.data], laidTests := true, laidLooks := .later }
def ScanBytesCardSaid : Prop := Claim7.holds Tryd.pinned (.plain (OpenSpec.ofChange scanBytesSpec)) scanBytesCard

/-- THE SECOND FORM's CARD OF 'flintlaw08.ScanBytes'. -/
def scanBytesUptoCard : Claim7 := { stood := { row := scanBytesUptoRow, standIns := [], harness := (true, "f321e70b1bb8f2858f7890a23caffef009021b430783e694f5a085fdad884a0d"), looks := false }, kinds := [], alts := [], laidByText := true, laidKinds := [.data], laidTests := true, laidLooks := .later }
def ScanBytesUptoCardSaid : Prop := Claim7.holds Tryd.pinned (.plain (OpenSpec.upto scanBytesSpec)) scanBytesUptoCard
end Rows
end Go.Proofs.YteieaelinkdahaaDoor
