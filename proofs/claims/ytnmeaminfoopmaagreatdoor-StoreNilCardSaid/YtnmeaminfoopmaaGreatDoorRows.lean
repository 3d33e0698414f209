/-
  NARROWER THAN 'FOR EVERY INPUT', by the rows' own cells (each row's printed sentence says how): StoreNil: laid · StoreFound: laid · StoreRoom: laid · StoreWear: laid · StoreOpens: laid.
  DERIVED. THE GIVEN ROWS OF THIS SEAT. 5 by the template 'for every input the law returns true; each argument reads behind the call as it read before'; 0 by the template 'total and deterministic' (their statements: YtnmeaminfoopmaaGreatDoorTotals.lean).
  GIVEN WITH THE SEED: the statements are not yours to turn. If you find one false, say at which input.
  Laid BY PROGRAM, IN A SANDBOX (cutbox-rows.mjs): the forced cells as the released guide's own fill.sh prints them over the translation 22c4f421580232ac… (all of the seat's roots in one cut). By AI agents, Wed Nov 11 2026. No macro, syntax, notation, axiom, sorry.
-/
import Derived.Test.YtnmeaminfoopmaaGreatDoorChecked
import GoSem.Claim
import GoSem.ClaimJoined
import GoSem.ClaimMapViews
import Derived.JoinedTies
import Derived.KernelRfl
namespace Go.Proofs.YtnmeaminfoopmaaGreatDoor
/- THE CELL 'sum', in the pinned program and in every row, IS THE sha256 OF THE DUMP (.gsa) THAT YtnmeaminfoopmaaGreatDoorProg.lean LOADS. Nothing in Lean hashes anything: it is a label: what it is worth is what the hold of that sum in a sandbox is worth. -/
noncomputable def Tryz.pinned : Pinned := { name := "ytnmeaminfoopmaagreatdoor", sum := "22c4f421580232acd67f5194c88d36661d3e20f4fe4a752624f9121e2887661a", checked := Tryz.checked }
namespace Rows
def none {H : Type} : Left H := { results := [], args := [] }

/- WHAT THE LISTED PACKAGE-LEVEL VARIABLES READ AS WHEN THE CALL BEGINS. Each datum BY PROGRAM (the guide's laid-datum.mjs) off the statement by which the dump's own 'gosem.cut.vars' lays the variable. In a bare row this is a premise. The card (YtnmeaminfoopmaaGreatDoorCards.lean) ties it to the program's text. -/
def laid_flint_flintlaw13_example {H : Type} : DataW H := .agg [.lit (.int .i64 6), .lit (.int .i64 512)]

/-- 'flintlaw13.StoreNil': WHATEVER THE INPUT: true; the input reads as it did. -/
def storeNilSpec : ChangeSpec := { name := "storeNil", fn := fun _ => fun
  | [d] => { results := [.lit (.bool true)], args := [d] }
  | _ => none }
def storeNilRow : OpenClaim := { program := "ytnmeaminfoopmaagreatdoor", sum := "22c4f421580232acd67f5194c88d36661d3e20f4fe4a752624f9121e2887661a", func := "flint/flintlaw13.StoreNil", spec := "storeNil", inPlace := ["internal/bytealg.MakeNoZero"], unfollowed := true, recurses := true, named := ["flint/flintlaw13.example"], apart := false, laid := [("flint/flintlaw13.example", laid_flint_flintlaw13_example)] }
def StoreNilSaid : Prop := storeNilRow.holds Tryz.pinned (OpenSpec.ofChange storeNilSpec)

/-- ITS FALSE NEIGHBOUR: 'it returns false'. Refute it at one input. -/
def storeNilWrong : ChangeSpec := { name := "storeNil", fn := fun _ => fun
  | [d] => { results := [.lit (.bool false)], args := [d] }
  | _ => none }
def StoreNilWrongFalsely : Prop := storeNilRow.holds Tryz.pinned (OpenSpec.ofChange storeNilWrong)

/-- 'flintlaw13.StoreFound': WHATEVER THE INPUT: true; the input reads as it did. -/
def storeFoundSpec : ChangeSpec := { name := "storeFound", fn := fun _ => fun
  | [d1, d2] => { results := [.lit (.bool true)], args := [d1, d2] }
  | _ => none }
def storeFoundRow : OpenClaim := { program := "ytnmeaminfoopmaagreatdoor", sum := "22c4f421580232acd67f5194c88d36661d3e20f4fe4a752624f9121e2887661a", func := "flint/flintlaw13.StoreFound", spec := "storeFound", inPlace := ["internal/bytealg.MakeNoZero", "math.archFloor", "math.Float64bits", "math.Float64frombits", "math.archTrunc"], unfollowed := true, recurses := true, named := ["flint/flintlaw13.example"], apart := false, laid := [("flint/flintlaw13.example", laid_flint_flintlaw13_example)] }
def StoreFoundSaid : Prop := storeFoundRow.holds Tryz.pinned (OpenSpec.ofChange storeFoundSpec)

/-- ITS FALSE NEIGHBOUR: 'it returns false'. Refute it at one input. -/
def storeFoundWrong : ChangeSpec := { name := "storeFound", fn := fun _ => fun
  | [d1, d2] => { results := [.lit (.bool false)], args := [d1, d2] }
  | _ => none }
def StoreFoundWrongFalsely : Prop := storeFoundRow.holds Tryz.pinned (OpenSpec.ofChange storeFoundWrong)

/-- 'flintlaw13.StoreRoom': WHATEVER THE INPUT: true; the input reads as it did. -/
def storeRoomSpec : ChangeSpec := { name := "storeRoom", fn := fun _ => fun
  | [d1, d2] => { results := [.lit (.bool true)], args := [d1, d2] }
  | _ => none }
def storeRoomRow : OpenClaim := { program := "ytnmeaminfoopmaagreatdoor", sum := "22c4f421580232acd67f5194c88d36661d3e20f4fe4a752624f9121e2887661a", func := "flint/flintlaw13.StoreRoom", spec := "storeRoom", inPlace := ["internal/bytealg.MakeNoZero", "math.archFloor", "math.Float64bits", "math.Float64frombits", "math.archTrunc"], unfollowed := true, recurses := true, named := ["flint/flintlaw13.example"], apart := false, laid := [("flint/flintlaw13.example", laid_flint_flintlaw13_example)] }
def StoreRoomSaid : Prop := storeRoomRow.holds Tryz.pinned (OpenSpec.ofChange storeRoomSpec)

/-- ITS FALSE NEIGHBOUR: 'it returns false'. Refute it at one input. -/
def storeRoomWrong : ChangeSpec := { name := "storeRoom", fn := fun _ => fun
  | [d1, d2] => { results := [.lit (.bool false)], args := [d1, d2] }
  | _ => none }
def StoreRoomWrongFalsely : Prop := storeRoomRow.holds Tryz.pinned (OpenSpec.ofChange storeRoomWrong)

/-- 'flintlaw13.StoreWear': WHATEVER THE INPUT: true; the input reads as it did. -/
def storeWearSpec : ChangeSpec := { name := "storeWear", fn := fun _ => fun
  | [d1, d2] => { results := [.lit (.bool true)], args := [d1, d2] }
  | _ => none }
def storeWearRow : OpenClaim := { program := "ytnmeaminfoopmaagreatdoor", sum := "22c4f421580232acd67f5194c88d36661d3e20f4fe4a752624f9121e2887661a", func := "flint/flintlaw13.StoreWear", spec := "storeWear", inPlace := ["internal/bytealg.MakeNoZero", "math.archFloor", "math.Float64bits", "math.Float64frombits", "math.archTrunc"], unfollowed := true, recurses := true, named := ["flint/flintlaw13.example"], apart := false, laid := [("flint/flintlaw13.example", laid_flint_flintlaw13_example)] }
def StoreWearSaid : Prop := storeWearRow.holds Tryz.pinned (OpenSpec.ofChange storeWearSpec)

/-- ITS FALSE NEIGHBOUR: 'it returns false'. Refute it at one input. -/
def storeWearWrong : ChangeSpec := { name := "storeWear", fn := fun _ => fun
  | [d1, d2] => { results := [.lit (.bool false)], args := [d1, d2] }
  | _ => none }
def StoreWearWrongFalsely : Prop := storeWearRow.holds Tryz.pinned (OpenSpec.ofChange storeWearWrong)

/-- 'flintlaw13.StoreOpens': WHATEVER THE INPUT: true; the input reads as it did. -/
def storeOpensSpec : ChangeSpec := { name := "storeOpens", fn := fun _ => fun
  | [d1, d2] => { results := [.lit (.bool true)], args := [d1, d2] }
  | _ => none }
def storeOpensRow : OpenClaim := { program := "ytnmeaminfoopmaagreatdoor", sum := "22c4f421580232acd67f5194c88d36661d3e20f4fe4a752624f9121e2887661a", func := "flint/flintlaw13.StoreOpens", spec := "storeOpens", inPlace := ["internal/bytealg.MakeNoZero", "math.archFloor", "math.Float64bits", "math.Float64frombits", "math.archTrunc"], unfollowed := true, recurses := true, named := ["flint/flintlaw13.example"], apart := false, laid := [("flint/flintlaw13.example", laid_flint_flintlaw13_example)] }
def StoreOpensSaid : Prop := storeOpensRow.holds Tryz.pinned (OpenSpec.ofChange storeOpensSpec)

/-- ITS FALSE NEIGHBOUR: 'it returns false'. Refute it at one input. -/
def storeOpensWrong : ChangeSpec := { name := "storeOpens", fn := fun _ => fun
  | [d1, d2] => { results := [.lit (.bool false)], args := [d1, d2] }
  | _ => none }
def StoreOpensWrongFalsely : Prop := storeOpensRow.holds Tryz.pinned (OpenSpec.ofChange storeOpensWrong)

/- THE SECOND FORM. 'bulk': how many values and letters a reading holds, each counted each time it is reached (what is shared counts as often as it is met; a slice's spare places count too). A statement '..UptoSaid' is the law's where the arguments, and the package variables that the reading takes, are together of bulk at most 1048576: NARROWER than '..Said'. Prove '..Said' where nothing that the law and all that it calls make is longer than what came in: it says more and counts as full. Else prove '..UptoSaid'. A law counts once. -/
mutual
def uptoBulk {H : Type} : DataW H → Nat
  | .lit (.string bytes) => bytes.length + 1
  | .lit _ => 1
  | .nil => 1
  | .ptr d => uptoBulk d + 1
  | .slice elems spare => uptoBulkAll elems + uptoBulkAll spare + 1
  | .agg parts => uptoBulkAll parts + 1
  | .iface _ d => uptoBulk d + 1
  | .map entries => uptoBulkEntries entries + 1
  | .held _ => 1
def uptoBulkAll {H : Type} : List (DataW H) → Nat
  | [] => 0
  | d :: r => uptoBulk d + uptoBulkAll r
def uptoBulkEntries {H : Type} : List (Lit × DataW H) → Nat
  | [] => 0
  | x :: r => uptoBulkEntry x + uptoBulkEntries r
def uptoBulkEntry {H : Type} : Lit × DataW H → Nat
  | (.string bytes, d) => bytes.length + uptoBulk d + 1
  | (_, d) => uptoBulk d + 1
 end
def uptoSmall : (H : Type) → List (DataW H) → Bool := fun _ ds => decide (uptoBulkAll ds ≤ 1048576)
def OpenSpec.upto (s : _root_.Go.ChangeSpec) : _root_.Go.OpenSpec := { _root_.Go.OpenSpec.ofChange s with cond := some uptoSmall }

/-- 'flintlaw13.StoreNil', WHERE WHAT IT READS IS OF BULK AT MOST 1048576: true; the input reads as it did. -/
def storeNilUptoRow : OpenClaim := { program := "ytnmeaminfoopmaagreatdoor", sum := "22c4f421580232acd67f5194c88d36661d3e20f4fe4a752624f9121e2887661a", func := "flint/flintlaw13.StoreNil", spec := "storeNil", inPlace := ["internal/bytealg.MakeNoZero"], unfollowed := true, recurses := true, named := ["flint/flintlaw13.example"], apart := false, laid := [("flint/flintlaw13.example", laid_flint_flintlaw13_example)], narrowed := true }
def StoreNilUptoSaid : Prop := storeNilUptoRow.holds Tryz.pinned (OpenSpec.upto storeNilSpec)

/-- 'flintlaw13.StoreFound', WHERE WHAT IT READS IS OF BULK AT MOST 1048576: true; the input reads as it did. -/
def storeFoundUptoRow : OpenClaim := { program := "ytnmeaminfoopmaagreatdoor", sum := "22c4f421580232acd67f5194c88d36661d3e20f4fe4a752624f9121e2887661a", func := "flint/flintlaw13.StoreFound", spec := "storeFound", inPlace := ["internal/bytealg.MakeNoZero", "math.archFloor", "math.Float64bits", "math.Float64frombits", "math.archTrunc"], unfollowed := true, recurses := true, named := ["flint/flintlaw13.example"], apart := false, laid := [("flint/flintlaw13.example", laid_flint_flintlaw13_example)], narrowed := true }
def StoreFoundUptoSaid : Prop := storeFoundUptoRow.holds Tryz.pinned (OpenSpec.upto storeFoundSpec)

/-- 'flintlaw13.StoreRoom', WHERE WHAT IT READS IS OF BULK AT MOST 1048576: true; the input reads as it did. -/
def storeRoomUptoRow : OpenClaim := { program := "ytnmeaminfoopmaagreatdoor", sum := "22c4f421580232acd67f5194c88d36661d3e20f4fe4a752624f9121e2887661a", func := "flint/flintlaw13.StoreRoom", spec := "storeRoom", inPlace := ["internal/bytealg.MakeNoZero", "math.archFloor", "math.Float64bits", "math.Float64frombits", "math.archTrunc"], unfollowed := true, recurses := true, named := ["flint/flintlaw13.example"], apart := false, laid := [("flint/flintlaw13.example", laid_flint_flintlaw13_example)], narrowed := true }
def StoreRoomUptoSaid : Prop := storeRoomUptoRow.holds Tryz.pinned (OpenSpec.upto storeRoomSpec)

/-- 'flintlaw13.StoreWear', WHERE WHAT IT READS IS OF BULK AT MOST 1048576: true; the input reads as it did. -/
def storeWearUptoRow : OpenClaim := { program := "ytnmeaminfoopmaagreatdoor", sum := "22c4f421580232acd67f5194c88d36661d3e20f4fe4a752624f9121e2887661a", func := "flint/flintlaw13.StoreWear", spec := "storeWear", inPlace := ["internal/bytealg.MakeNoZero", "math.archFloor", "math.Float64bits", "math.Float64frombits", "math.archTrunc"], unfollowed := true, recurses := true, named := ["flint/flintlaw13.example"], apart := false, laid := [("flint/flintlaw13.example", laid_flint_flintlaw13_example)], narrowed := true }
def StoreWearUptoSaid : Prop := storeWearUptoRow.holds Tryz.pinned (OpenSpec.upto storeWearSpec)

/-- 'flintlaw13.StoreOpens', WHERE WHAT IT READS IS OF BULK AT MOST 1048576: true; the input reads as it did. -/
def storeOpensUptoRow : OpenClaim := { program := "ytnmeaminfoopmaagreatdoor", sum := "22c4f421580232acd67f5194c88d36661d3e20f4fe4a752624f9121e2887661a", func := "flint/flintlaw13.StoreOpens", spec := "storeOpens", inPlace := ["internal/bytealg.MakeNoZero", "math.archFloor", "math.Float64bits", "math.Float64frombits", "math.archTrunc"], unfollowed := true, recurses := true, named := ["flint/flintlaw13.example"], apart := false, laid := [("flint/flintlaw13.example", laid_flint_flintlaw13_example)], narrowed := true }
def StoreOpensUptoSaid : Prop := storeOpensUptoRow.holds Tryz.pinned (OpenSpec.upto storeOpensSpec)

end Rows
end Go.Proofs.YtnmeaminfoopmaaGreatDoor
