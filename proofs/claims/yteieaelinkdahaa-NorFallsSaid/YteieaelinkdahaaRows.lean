/-
  No cell of these rows narrows 'for every input' (looked for: loops, veiled, ifaces, maps, wideKeys, modest, calm, conditions, laid).
  DERIVED. THE GIVEN ROWS OF THIS SEAT. 5 by the template 'for every input the law returns true; each argument reads behind the call as it read before'; 0 by the template 'total and deterministic' (their statements: YteieaelinkdahaaTotals.lean).
  GIVEN WITH THE SEED: the statements are not yours to turn. If you find one false, say at which input.
  Laid BY PROGRAM, IN A SANDBOX (cutbox-rows.mjs): the forced cells as the released guide's own fill.sh prints them over the translation 228da40a1c83bb15… (all of the seat's roots in one cut). By AI agents, Wed Nov 11 2026. No macro, syntax, notation, axiom, sorry.
-/
import Derived.Test.YteieaelinkdahaaChecked
import GoSem.Claim
import GoSem.ClaimJoined
import GoSem.ClaimMapViews
import Derived.JoinedTies
import Derived.KernelRfl
namespace Go.Proofs.Yteieaelinkdahaa
/- THE CELL 'sum', in the pinned program and in every row, IS THE sha256 OF THE DUMP (.gsa) THAT YteieaelinkdahaaProg.lean LOADS. Nothing in Lean hashes anything: it is a label: what it is worth is what the hold of that sum in a sandbox is worth. -/
noncomputable def Try.pinned : Pinned := { name := "yteieaelinkdahaa", sum := "228da40a1c83bb1505d19dc9d2801c216ddf20802dcec34ec42b31432376b2d9", checked := Try.checked }
namespace Rows
def none {H : Type} : Left H := { results := [], args := [] }

/-- 'flintlaw04.NorNil': WHATEVER THE INPUT: true; the input reads as it did. -/
def norNilSpec : ChangeSpec := { name := "norNil", fn := fun _ => fun
  | [d] => { results := [.lit (.bool true)], args := [d] }
  | _ => none }
def norNilRow : OpenClaim := { program := "yteieaelinkdahaa", sum := "228da40a1c83bb1505d19dc9d2801c216ddf20802dcec34ec42b31432376b2d9", func := "flint/flintlaw04.NorNil", spec := "norNil", inPlace := ["internal/bytealg.MakeNoZero"], unfollowed := true, recurses := true, apart := false }
def NorNilSaid : Prop := norNilRow.holds Try.pinned (OpenSpec.ofChange norNilSpec)

/-- ITS FALSE NEIGHBOUR: 'it returns false'. Refute it at one input. -/
def norNilWrong : ChangeSpec := { name := "norNil", fn := fun _ => fun
  | [d] => { results := [.lit (.bool false)], args := [d] }
  | _ => none }
def NorNilWrongFalsely : Prop := norNilRow.holds Try.pinned (OpenSpec.ofChange norNilWrong)

/-- 'flintlaw07.RingPuts': WHATEVER THE INPUT: true; the input reads as it did. -/
def ringPutsSpec : ChangeSpec := { name := "ringPuts", fn := fun _ => fun
  | [d] => { results := [.lit (.bool true)], args := [d] }
  | _ => none }
def ringPutsRow : OpenClaim := { program := "yteieaelinkdahaa", sum := "228da40a1c83bb1505d19dc9d2801c216ddf20802dcec34ec42b31432376b2d9", func := "flint/flintlaw07.RingPuts", spec := "ringPuts", inPlace := ["math.Float64frombits", "math.archFloor", "math.Float64bits", "math.archTrunc"], apart := false }
def RingPutsSaid : Prop := ringPutsRow.holds Try.pinned (OpenSpec.ofChange ringPutsSpec)

/-- ITS FALSE NEIGHBOUR: 'it returns false'. Refute it at one input. -/
def ringPutsWrong : ChangeSpec := { name := "ringPuts", fn := fun _ => fun
  | [d] => { results := [.lit (.bool false)], args := [d] }
  | _ => none }
def RingPutsWrongFalsely : Prop := ringPutsRow.holds Try.pinned (OpenSpec.ofChange ringPutsWrong)

/-- 'flintlaw07.RingGets': WHATEVER THE INPUT: true; the input reads as it did. -/
def ringGetsSpec : ChangeSpec := { name := "ringGets", fn := fun _ => fun
  | [d] => { results := [.lit (.bool true)], args := [d] }
  | _ => none }
def ringGetsRow : OpenClaim := { program := "yteieaelinkdahaa", sum := "228da40a1c83bb1505d19dc9d2801c216ddf20802dcec34ec42b31432376b2d9", func := "flint/flintlaw07.RingGets", spec := "ringGets", inPlace := ["math.archFloor", "math.Float64bits", "math.Float64frombits", "math.archTrunc"], apart := false }
def RingGetsSaid : Prop := ringGetsRow.holds Try.pinned (OpenSpec.ofChange ringGetsSpec)

/-- ITS FALSE NEIGHBOUR: 'it returns false'. Refute it at one input. -/
def ringGetsWrong : ChangeSpec := { name := "ringGets", fn := fun _ => fun
  | [d] => { results := [.lit (.bool false)], args := [d] }
  | _ => none }
def RingGetsWrongFalsely : Prop := ringGetsRow.holds Try.pinned (OpenSpec.ofChange ringGetsWrong)

/-- 'flintlaw04.NorFalls': WHATEVER THE INPUT: true; the input reads as it did. -/
def norFallsSpec : ChangeSpec := { name := "norFalls", fn := fun _ => fun
  | [d1, d2] => { results := [.lit (.bool true)], args := [d1, d2] }
  | _ => none }
def norFallsRow : OpenClaim := { program := "yteieaelinkdahaa", sum := "228da40a1c83bb1505d19dc9d2801c216ddf20802dcec34ec42b31432376b2d9", func := "flint/flintlaw04.NorFalls", spec := "norFalls", inPlace := ["internal/bytealg.MakeNoZero", "math.archFloor", "math.Float64bits", "math.Float64frombits", "math.archTrunc"], unfollowed := true, recurses := true, apart := false }
def NorFallsSaid : Prop := norFallsRow.holds Try.pinned (OpenSpec.ofChange norFallsSpec)

/-- ITS FALSE NEIGHBOUR: 'it returns false'. Refute it at one input. -/
def norFallsWrong : ChangeSpec := { name := "norFalls", fn := fun _ => fun
  | [d1, d2] => { results := [.lit (.bool false)], args := [d1, d2] }
  | _ => none }
def NorFallsWrongFalsely : Prop := norFallsRow.holds Try.pinned (OpenSpec.ofChange norFallsWrong)

/-- 'flintlaw04.NorPlays': WHATEVER THE INPUT: true; the input reads as it did. -/
def norPlaysSpec : ChangeSpec := { name := "norPlays", fn := fun _ => fun
  | [d1, d2] => { results := [.lit (.bool true)], args := [d1, d2] }
  | _ => none }
def norPlaysRow : OpenClaim := { program := "yteieaelinkdahaa", sum := "228da40a1c83bb1505d19dc9d2801c216ddf20802dcec34ec42b31432376b2d9", func := "flint/flintlaw04.NorPlays", spec := "norPlays", inPlace := ["internal/bytealg.MakeNoZero", "math.archFloor", "math.Float64bits", "math.Float64frombits", "math.archTrunc"], unfollowed := true, recurses := true, apart := false }
def NorPlaysSaid : Prop := norPlaysRow.holds Try.pinned (OpenSpec.ofChange norPlaysSpec)

/-- ITS FALSE NEIGHBOUR: 'it returns false'. Refute it at one input. -/
def norPlaysWrong : ChangeSpec := { name := "norPlays", fn := fun _ => fun
  | [d1, d2] => { results := [.lit (.bool false)], args := [d1, d2] }
  | _ => none }
def NorPlaysWrongFalsely : Prop := norPlaysRow.holds Try.pinned (OpenSpec.ofChange norPlaysWrong)

/- THE SECOND FORM. 'bulk': how many values and letters a reading holds, each counted each time it is reached (what is shared counts as often as it is met; a slice's spare places count too). A statement '..UptoSaid' is the law's where the arguments, and the package variables that the reading takes, are together of bulk at most 1048576: NARROWER than '..Said'. Prove '..Said' where nothing that the law and all that it calls make is longer than what came in: it says more and counts as full. Else prove '..UptoSaid'. A law counts once. -/
mutual
def uptoBulk {H : Type} : DataW H → Nat
  | .lit (.string bytes) => bytes.length + 1
  | .lit _ => 1
  | .nil => 1
  | .ptr d => uptoBulk d + 1
  | .slice elems spare => uptoBulkAll elems + uptoBulkAll spare + 1
  | .agg parts => uptoBulkAll parts + 1
  | .iface _ d => uptoBulk d + 1
  | .map entries => uptoBulkEntries entries + 1
  | .held _ => 1
def uptoBulkAll {H : Type} : List (DataW H) → Nat
  | [] => 0
  | d :: r => uptoBulk d + uptoBulkAll r
def uptoBulkEntries {H : Type} : List (Lit × DataW H) → Nat
  | [] => 0
  | x :: r => uptoBulkEntry x + uptoBulkEntries r
def uptoBulkEntry {H : Type} : Lit × DataW H → Nat
  | (.string bytes, d) => bytes.length + uptoBulk d + 1
  | (_, d) => uptoBulk d + 1
 end
def uptoSmall : (H : Type) → List (DataW H) → Bool := fun _ ds => decide (uptoBulkAll ds ≤ 1048576)
def OpenSpec.upto (s : _root_.Go.ChangeSpec) : _root_.Go.OpenSpec := { _root_.Go.OpenSpec.ofChange s with cond := some uptoSmall }

/-- 'flintlaw04.NorNil', WHERE WHAT IT READS IS OF BULK AT MOST 1048576: true; the input reads as it did. -/
def norNilUptoRow : OpenClaim := { program := "yteieaelinkdahaa", sum := "228da40a1c83bb1505d19dc9d2801c216ddf20802dcec34ec42b31432376b2d9", func := "flint/flintlaw04.NorNil", spec := "norNil", inPlace := ["internal/bytealg.MakeNoZero"], unfollowed := true, recurses := true, apart := false, narrowed := true }
def NorNilUptoSaid : Prop := norNilUptoRow.holds Try.pinned (OpenSpec.upto norNilSpec)

/-- 'flintlaw07.RingPuts', WHERE WHAT IT READS IS OF BULK AT MOST 1048576: true; the input reads as it did. -/
def ringPutsUptoRow : OpenClaim := { program := "yteieaelinkdahaa", sum := "228da40a1c83bb1505d19dc9d2801c216ddf20802dcec34ec42b31432376b2d9", func := "flint/flintlaw07.RingPuts", spec := "ringPuts", inPlace := ["math.Float64frombits", "math.archFloor", "math.Float64bits", "math.archTrunc"], apart := false, narrowed := true }
def RingPutsUptoSaid : Prop := ringPutsUptoRow.holds Try.pinned (OpenSpec.upto ringPutsSpec)

/-- 'flintlaw07.RingGets', WHERE WHAT IT READS IS OF BULK AT MOST 1048576: true; the input reads as it did. -/
def ringGetsUptoRow : OpenClaim := { program := "yteieaelinkdahaa", sum := "228da40a1c83bb1505d19dc9d2801c216ddf20802dcec34ec42b31432376b2d9", func := "flint/flintlaw07.RingGets", spec := "ringGets", inPlace := ["math.archFloor", "math.Float64bits", "math.Float64frombits", "math.archTrunc"], apart := false, narrowed := true }
def RingGetsUptoSaid : Prop := ringGetsUptoRow.holds Try.pinned (OpenSpec.upto ringGetsSpec)

/-- 'flintlaw04.NorFalls', WHERE WHAT IT READS IS OF BULK AT MOST 1048576: true; the input reads as it did. -/
def norFallsUptoRow : OpenClaim := { program := "yteieaelinkdahaa", sum := "228da40a1c83bb1505d19dc9d2801c216ddf20802dcec34ec42b31432376b2d9", func := "flint/flintlaw04.NorFalls", spec := "norFalls", inPlace := ["internal/bytealg.MakeNoZero", "math.archFloor", "math.Float64bits", "math.Float64frombits", "math.archTrunc"], unfollowed := true, recurses := true, apart := false, narrowed := true }
def NorFallsUptoSaid : Prop := norFallsUptoRow.holds Try.pinned (OpenSpec.upto norFallsSpec)

/-- 'flintlaw04.NorPlays', WHERE WHAT IT READS IS OF BULK AT MOST 1048576: true; the input reads as it did. -/
def norPlaysUptoRow : OpenClaim := { program := "yteieaelinkdahaa", sum := "228da40a1c83bb1505d19dc9d2801c216ddf20802dcec34ec42b31432376b2d9", func := "flint/flintlaw04.NorPlays", spec := "norPlays", inPlace := ["internal/bytealg.MakeNoZero", "math.archFloor", "math.Float64bits", "math.Float64frombits", "math.archTrunc"], unfollowed := true, recurses := true, apart := false, narrowed := true }
def NorPlaysUptoSaid : Prop := norPlaysUptoRow.holds Try.pinned (OpenSpec.upto norPlaysSpec)

end Rows
end Go.Proofs.Yteieaelinkdahaa
