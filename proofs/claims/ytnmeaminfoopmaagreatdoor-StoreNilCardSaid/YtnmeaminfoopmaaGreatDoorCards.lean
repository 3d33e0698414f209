/-
  DERIVED. GIVEN WITH THE SEED: THE CARDS: each row of YtnmeaminfoopmaaGreatDoorRows.lean that lists a variable, with what it lists TIED to the program's text (the seventh form; the later family's looks); each row that meets fmt, with fmt's text TOLD by the authors' own Lean function (tested against real Go, not proved from fmt's source: count such statements apart). THE CARD IS WHAT COUNTS. Prove the row's statement (the work); the ties are given (YtnmeaminfoopmaaGreatDoorTie.lean); close each card by the builder's one call (the guide's Derived/Test/ToyasCard.lean, 'card_holds'). Laid BY PROGRAM, IN A SANDBOX (cutbox-door.mjs). By AI agents, Wed Nov 11 2026. No macro, syntax, notation, axiom, sorry.
-/
import Derived.Test.YtnmeaminfoopmaaGreatDoorRows
import GoSem.ClaimSeven
namespace Go.Proofs.YtnmeaminfoopmaaGreatDoor
namespace Rows

/-- THE TIED CARD OF 'flintlaw13.StoreNil'. -/
def storeNilCard : Claim7 := { stood := { row := storeNilRow, standIns := [], harness := (true, "f6d1578d52de27ea961cb11d4df1bb736050c24399d50f474f63f7399f672313"), looks := false }, kinds := [], alts := [], laidByText := true, laidKinds := [.data], laidTests := true, laidLooks := .later }
def StoreNilCardSaid : Prop := Claim7.holds Tryz.pinned (.plain (OpenSpec.ofChange storeNilSpec)) storeNilCard

/-- THE TIED CARD OF 'flintlaw13.StoreFound'. -/
def storeFoundCard : Claim7 := { stood := { row := storeFoundRow, standIns := [], harness := (true, "f6d1578d52de27ea961cb11d4df1bb736050c24399d50f474f63f7399f672313"), looks := false }, kinds := [], alts := [], laidByText := true, laidKinds := [.data], laidTests := true, laidLooks := .later }
def StoreFoundCardSaid : Prop := Claim7.holds Tryz.pinned (.plain (OpenSpec.ofChange storeFoundSpec)) storeFoundCard

/-- THE TIED CARD OF 'flintlaw13.StoreRoom'. -/
def storeRoomCard : Claim7 := { stood := { row := storeRoomRow, standIns := [], harness := (true, "f6d1578d52de27ea961cb11d4df1bb736050c24399d50f474f63f7399f672313"), looks := false }, kinds := [], alts := [], laidByText := true, laidKinds := [.data], laidTests := true, laidLooks := .later }
def StoreRoomCardSaid : Prop := Claim7.holds Tryz.pinned (.plain (OpenSpec.ofChange storeRoomSpec)) storeRoomCard

/-- THE TIED CARD OF 'flintlaw13.StoreWear'. -/
def storeWearCard : Claim7 := { stood := { row := storeWearRow, standIns := [], harness := (true, "f6d1578d52de27ea961cb11d4df1bb736050c24399d50f474f63f7399f672313"), looks := false }, kinds := [], alts := [], laidByText := true, laidKinds := [.data], laidTests := true, laidLooks := .later }
def StoreWearCardSaid : Prop := Claim7.holds Tryz.pinned (.plain (OpenSpec.ofChange storeWearSpec)) storeWearCard

/-- THE TIED CARD OF 'flintlaw13.StoreOpens'. -/
def storeOpensCard : Claim7 := { stood := { row := storeOpensRow, standIns := [], harness := (true, "f6d1578d52de27ea961cb11d4df1bb736050c24399d50f474f63f7399f672313"), looks := false }, kinds := [], alts := [], laidByText := true, laidKinds := [.data], laidTests := true, laidLooks := .later }
def StoreOpensCardSaid : Prop := Claim7.holds Tryz.pinned (.plain (OpenSpec.ofChange storeOpensSpec)) storeOpensCard

/-- THE SECOND FORM's CARD OF 'flintlaw13.StoreNil'. -/
def storeNilUptoCard : Claim7 := { stood := { row := storeNilUptoRow, standIns := [], harness := (true, "f6d1578d52de27ea961cb11d4df1bb736050c24399d50f474f63f7399f672313"), looks := false }, kinds := [], alts := [], laidByText := true, laidKinds := [.data], laidTests := true, laidLooks := .later }
def StoreNilUptoCardSaid : Prop := Claim7.holds Tryz.pinned (.plain (OpenSpec.upto storeNilSpec)) storeNilUptoCard

/-- THE SECOND FORM's CARD OF 'flintlaw13.StoreFound'. -/
def storeFoundUptoCard : Claim7 := { stood := { row := storeFoundUptoRow, standIns := [], harness := (true, "f6d1578d52de27ea961cb11d4df1bb736050c24399d50f474f63f7399f672313"), looks := false }, kinds := [], alts := [], laidByText := true, laidKinds := [.data], laidTests := true, laidLooks := .later }
def StoreFoundUptoCardSaid : Prop := Claim7.holds Tryz.pinned (.plain (OpenSpec.upto storeFoundSpec)) storeFoundUptoCard

/-- THE SECOND FORM's CARD OF 'flintlaw13.StoreRoom'. -/
def storeRoomUptoCard : Claim7 := { stood := { row := storeRoomUptoRow, standIns := [], harness := (true, "f6d1578d52de27ea961cb11d4df1bb736050c24399d50f474f63f7399f672313"), looks := false }, kinds := [], alts := [], laidByText := true, laidKinds := [.data], laidTests := true, laidLooks := .later }
def StoreRoomUptoCardSaid : Prop := Claim7.holds Tryz.pinned (.plain (OpenSpec.upto storeRoomSpec)) storeRoomUptoCard

/-- THE SECOND FORM's CARD OF 'flintlaw13.StoreWear'. -/
def storeWearUptoCard : Claim7 := { stood := { row := storeWearUptoRow, standIns := [], harness := (true, "f6d1578d52de27ea961cb11d4df1bb736050c24399d50f474f63f7399f672313"), looks := false }, kinds := [], alts := [], laidByText := true, laidKinds := [.data], laidTests := true, laidLooks := .later }
def StoreWearUptoCardSaid : Prop := Claim7.holds Tryz.pinned (.plain (OpenSpec.upto storeWearSpec)) storeWearUptoCard

/-- THE SECOND FORM's CARD OF 'flintlaw13.StoreOpens'. -/
def storeOpensUptoCard : Claim7 := { stood := { row := storeOpensUptoRow, standIns := [], harness := (true, "f6d1578d52de27ea961cb11d4df1bb736050c24399d50f474f63f7399f672313"), looks := false }, kinds := [], alts := [], laidByText := true, laidKinds := [.data], laidTests := true, laidLooks := .later }
def StoreOpensUptoCardSaid : Prop := Claim7.holds Tryz.pinned (.plain (OpenSpec.upto storeOpensSpec)) storeOpensUptoCard
end Rows
end Go.Proofs.YtnmeaminfoopmaaGreatDoor
