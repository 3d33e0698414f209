/-
  No cell of these rows narrows 'for every input' (looked for: loops, veiled, ifaces, maps, wideKeys, modest, calm, conditions, laid).
  DERIVED. THE GIVEN ROWS OF THIS SEAT. 12 by the template 'for every input the law returns true; each argument reads behind the call as it read before'; 0 by the template 'total and deterministic' (their statements: YtbbiohgillhmnaaTotals.lean).
  GIVEN WITH THE SEED: the statements are not yours to turn. If you find one false, say at which input.
  Laid BY PROGRAM, IN A SANDBOX (cutbox-rows.mjs): the forced cells as the released guide's own fill.sh prints them over the translation cfb7908a9cab4de2… (all of the seat's roots in one cut). By AI agents, Wed Nov 11 2026. No macro, syntax, notation, axiom, sorry.
-/
import Derived.Test.YtbbiohgillhmnaaChecked
import GoSem.Claim
import GoSem.ClaimJoined
import GoSem.ClaimMapViews
import Derived.JoinedTies
import Derived.KernelRfl
namespace Go.Proofs.Ytbbiohgillhmnaa
/- THE CELL 'sum', in the pinned program and in every row, IS THE sha256 OF THE DUMP (.gsa) THAT YtbbiohgillhmnaaProg.lean LOADS. Nothing in Lean hashes anything: it is a label: what it is worth is what the hold of that sum in a sandbox is worth. -/
noncomputable def Try.pinned : Pinned := { name := "ytbbiohgillhmnaa", sum := "cfb7908a9cab4de2e1fa4dd951364e02ce5aa2f98c39b4984b0b48e890eed064", checked := Try.checked }
namespace Rows
def none {H : Type} : Left H := { results := [], args := [] }

/-- 'flintlaw02.PlaceOf': WHATEVER THE INPUT: true; the input reads as it did. -/
def placeOfSpec : ChangeSpec := { name := "placeOf", fn := fun _ => fun
  | [d1, d2] => { results := [.lit (.bool true)], args := [d1, d2] }
  | _ => none }
def placeOfRow : OpenClaim := { program := "ytbbiohgillhmnaa", sum := "cfb7908a9cab4de2e1fa4dd951364e02ce5aa2f98c39b4984b0b48e890eed064", func := "flint/flintlaw02.PlaceOf", spec := "placeOf", apart := false }
def PlaceOfSaid : Prop := placeOfRow.holds Try.pinned (OpenSpec.ofChange placeOfSpec)

/-- ITS FALSE NEIGHBOUR: 'it returns false'. Refute it at one input. -/
def placeOfWrong : ChangeSpec := { name := "placeOf", fn := fun _ => fun
  | [d1, d2] => { results := [.lit (.bool false)], args := [d1, d2] }
  | _ => none }
def PlaceOfWrongFalsely : Prop := placeOfRow.holds Try.pinned (OpenSpec.ofChange placeOfWrong)

/-- 'flintlaw07.RingSize': WHATEVER THE INPUT: true; the input reads as it did. -/
def ringSizeSpec : ChangeSpec := { name := "ringSize", fn := fun _ => fun
  | [d1, d2] => { results := [.lit (.bool true)], args := [d1, d2] }
  | _ => none }
def ringSizeRow : OpenClaim := { program := "ytbbiohgillhmnaa", sum := "cfb7908a9cab4de2e1fa4dd951364e02ce5aa2f98c39b4984b0b48e890eed064", func := "flint/flintlaw07.RingSize", spec := "ringSize", apart := false }
def RingSizeSaid : Prop := ringSizeRow.holds Try.pinned (OpenSpec.ofChange ringSizeSpec)

/-- ITS FALSE NEIGHBOUR: 'it returns false'. Refute it at one input. -/
def ringSizeWrong : ChangeSpec := { name := "ringSize", fn := fun _ => fun
  | [d1, d2] => { results := [.lit (.bool false)], args := [d1, d2] }
  | _ => none }
def RingSizeWrongFalsely : Prop := ringSizeRow.holds Try.pinned (OpenSpec.ofChange ringSizeWrong)

/-- 'flintlaw07.RingWhole': WHATEVER THE INPUT: true; the input reads as it did. -/
def ringWholeSpec : ChangeSpec := { name := "ringWhole", fn := fun _ => fun
  | [d1, d2, d3, d4] => { results := [.lit (.bool true)], args := [d1, d2, d3, d4] }
  | _ => none }
def ringWholeRow : OpenClaim := { program := "ytbbiohgillhmnaa", sum := "cfb7908a9cab4de2e1fa4dd951364e02ce5aa2f98c39b4984b0b48e890eed064", func := "flint/flintlaw07.RingWhole", spec := "ringWhole", apart := false }
def RingWholeSaid : Prop := ringWholeRow.holds Try.pinned (OpenSpec.ofChange ringWholeSpec)

/-- ITS FALSE NEIGHBOUR: 'it returns false'. Refute it at one input. -/
def ringWholeWrong : ChangeSpec := { name := "ringWhole", fn := fun _ => fun
  | [d1, d2, d3, d4] => { results := [.lit (.bool false)], args := [d1, d2, d3, d4] }
  | _ => none }
def RingWholeWrongFalsely : Prop := ringWholeRow.holds Try.pinned (OpenSpec.ofChange ringWholeWrong)

/-- 'flintlaw07.RingOrder': WHATEVER THE INPUT: true; the input reads as it did. -/
def ringOrderSpec : ChangeSpec := { name := "ringOrder", fn := fun _ => fun
  | [d1, d2] => { results := [.lit (.bool true)], args := [d1, d2] }
  | _ => none }
def ringOrderRow : OpenClaim := { program := "ytbbiohgillhmnaa", sum := "cfb7908a9cab4de2e1fa4dd951364e02ce5aa2f98c39b4984b0b48e890eed064", func := "flint/flintlaw07.RingOrder", spec := "ringOrder", inPlace := ["math.Float64frombits"], apart := false }
def RingOrderSaid : Prop := ringOrderRow.holds Try.pinned (OpenSpec.ofChange ringOrderSpec)

/-- ITS FALSE NEIGHBOUR: 'it returns false'. Refute it at one input. -/
def ringOrderWrong : ChangeSpec := { name := "ringOrder", fn := fun _ => fun
  | [d1, d2] => { results := [.lit (.bool false)], args := [d1, d2] }
  | _ => none }
def RingOrderWrongFalsely : Prop := ringOrderRow.holds Try.pinned (OpenSpec.ofChange ringOrderWrong)

/-- 'flintlaw02.PlaceParts': WHATEVER THE INPUT: true; the input reads as it did. -/
def placePartsSpec : ChangeSpec := { name := "placeParts", fn := fun _ => fun
  | [d1, d2] => { results := [.lit (.bool true)], args := [d1, d2] }
  | _ => none }
def placePartsRow : OpenClaim := { program := "ytbbiohgillhmnaa", sum := "cfb7908a9cab4de2e1fa4dd951364e02ce5aa2f98c39b4984b0b48e890eed064", func := "flint/flintlaw02.PlaceParts", spec := "placeParts", inPlace := ["math.Float64frombits", "math.archFloor", "math.Float64bits", "math.archTrunc"], apart := false }
def PlacePartsSaid : Prop := placePartsRow.holds Try.pinned (OpenSpec.ofChange placePartsSpec)

/-- ITS FALSE NEIGHBOUR: 'it returns false'. Refute it at one input. -/
def placePartsWrong : ChangeSpec := { name := "placeParts", fn := fun _ => fun
  | [d1, d2] => { results := [.lit (.bool false)], args := [d1, d2] }
  | _ => none }
def PlacePartsWrongFalsely : Prop := placePartsRow.holds Try.pinned (OpenSpec.ofChange placePartsWrong)

/-- 'flintlaw02.PlaceOn': WHATEVER THE INPUT: true; the input reads as it did. -/
def placeOnSpec : ChangeSpec := { name := "placeOn", fn := fun _ => fun
  | [d1, d2, d3] => { results := [.lit (.bool true)], args := [d1, d2, d3] }
  | _ => none }
def placeOnRow : OpenClaim := { program := "ytbbiohgillhmnaa", sum := "cfb7908a9cab4de2e1fa4dd951364e02ce5aa2f98c39b4984b0b48e890eed064", func := "flint/flintlaw02.PlaceOn", spec := "placeOn", inPlace := ["math.Float64frombits", "math.archFloor", "math.Float64bits", "math.archTrunc"], apart := false }
def PlaceOnSaid : Prop := placeOnRow.holds Try.pinned (OpenSpec.ofChange placeOnSpec)

/-- ITS FALSE NEIGHBOUR: 'it returns false'. Refute it at one input. -/
def placeOnWrong : ChangeSpec := { name := "placeOn", fn := fun _ => fun
  | [d1, d2, d3] => { results := [.lit (.bool false)], args := [d1, d2, d3] }
  | _ => none }
def PlaceOnWrongFalsely : Prop := placeOnRow.holds Try.pinned (OpenSpec.ofChange placeOnWrong)

/-- 'flintlaw11.PickOrder': WHATEVER THE INPUT: true; the input reads as it did. -/
def pickOrderSpec : ChangeSpec := { name := "pickOrder", fn := fun _ => fun
  | [d1, d2] => { results := [.lit (.bool true)], args := [d1, d2] }
  | _ => none }
def pickOrderRow : OpenClaim := { program := "ytbbiohgillhmnaa", sum := "cfb7908a9cab4de2e1fa4dd951364e02ce5aa2f98c39b4984b0b48e890eed064", func := "flint/flintlaw11.PickOrder", spec := "pickOrder", unfollowed := true, recurses := true, apart := false }
def PickOrderSaid : Prop := pickOrderRow.holds Try.pinned (OpenSpec.ofChange pickOrderSpec)

/-- ITS FALSE NEIGHBOUR: 'it returns false'. Refute it at one input. -/
def pickOrderWrong : ChangeSpec := { name := "pickOrder", fn := fun _ => fun
  | [d1, d2] => { results := [.lit (.bool false)], args := [d1, d2] }
  | _ => none }
def PickOrderWrongFalsely : Prop := pickOrderRow.holds Try.pinned (OpenSpec.ofChange pickOrderWrong)

/-- 'flintlaw02.PlaceBytes': WHATEVER THE INPUT: true; the input reads as it did. -/
def placeBytesSpec : ChangeSpec := { name := "placeBytes", fn := fun _ => fun
  | [d1, d2, d3] => { results := [.lit (.bool true)], args := [d1, d2, d3] }
  | _ => none }
def placeBytesRow : OpenClaim := { program := "ytbbiohgillhmnaa", sum := "cfb7908a9cab4de2e1fa4dd951364e02ce5aa2f98c39b4984b0b48e890eed064", func := "flint/flintlaw02.PlaceBytes", spec := "placeBytes", inPlace := ["math.Float64frombits", "math.archFloor", "math.Float64bits", "math.archTrunc"], apart := false }
def PlaceBytesSaid : Prop := placeBytesRow.holds Try.pinned (OpenSpec.ofChange placeBytesSpec)

/-- ITS FALSE NEIGHBOUR: 'it returns false'. Refute it at one input. -/
def placeBytesWrong : ChangeSpec := { name := "placeBytes", fn := fun _ => fun
  | [d1, d2, d3] => { results := [.lit (.bool false)], args := [d1, d2, d3] }
  | _ => none }
def PlaceBytesWrongFalsely : Prop := placeBytesRow.holds Try.pinned (OpenSpec.ofChange placeBytesWrong)

/-- 'flintlaw11.PickRound': WHATEVER THE INPUT: true; the input reads as it did. -/
def pickRoundSpec : ChangeSpec := { name := "pickRound", fn := fun _ => fun
  | [d1, d2] => { results := [.lit (.bool true)], args := [d1, d2] }
  | _ => none }
def pickRoundRow : OpenClaim := { program := "ytbbiohgillhmnaa", sum := "cfb7908a9cab4de2e1fa4dd951364e02ce5aa2f98c39b4984b0b48e890eed064", func := "flint/flintlaw11.PickRound", spec := "pickRound", unfollowed := true, recurses := true, apart := false }
def PickRoundSaid : Prop := pickRoundRow.holds Try.pinned (OpenSpec.ofChange pickRoundSpec)

/-- ITS FALSE NEIGHBOUR: 'it returns false'. Refute it at one input. -/
def pickRoundWrong : ChangeSpec := { name := "pickRound", fn := fun _ => fun
  | [d1, d2] => { results := [.lit (.bool false)], args := [d1, d2] }
  | _ => none }
def PickRoundWrongFalsely : Prop := pickRoundRow.holds Try.pinned (OpenSpec.ofChange pickRoundWrong)

/-- 'flintlaw11.PickOnes': WHATEVER THE INPUT: true; the input reads as it did. -/
def pickOnesSpec : ChangeSpec := { name := "pickOnes", fn := fun _ => fun
  | [d] => { results := [.lit (.bool true)], args := [d] }
  | _ => none }
def pickOnesRow : OpenClaim := { program := "ytbbiohgillhmnaa", sum := "cfb7908a9cab4de2e1fa4dd951364e02ce5aa2f98c39b4984b0b48e890eed064", func := "flint/flintlaw11.PickOnes", spec := "pickOnes", unfollowed := true, recurses := true, apart := false }
def PickOnesSaid : Prop := pickOnesRow.holds Try.pinned (OpenSpec.ofChange pickOnesSpec)

/-- ITS FALSE NEIGHBOUR: 'it returns false'. Refute it at one input. -/
def pickOnesWrong : ChangeSpec := { name := "pickOnes", fn := fun _ => fun
  | [d] => { results := [.lit (.bool false)], args := [d] }
  | _ => none }
def PickOnesWrongFalsely : Prop := pickOnesRow.holds Try.pinned (OpenSpec.ofChange pickOnesWrong)

/-- 'flintlaw07.RingLinks': WHATEVER THE INPUT: true; the input reads as it did. -/
def ringLinksSpec : ChangeSpec := { name := "ringLinks", fn := fun _ => fun
  | [d1, d2, d3, d4] => { results := [.lit (.bool true)], args := [d1, d2, d3, d4] }
  | _ => none }
def ringLinksRow : OpenClaim := { program := "ytbbiohgillhmnaa", sum := "cfb7908a9cab4de2e1fa4dd951364e02ce5aa2f98c39b4984b0b48e890eed064", func := "flint/flintlaw07.RingLinks", spec := "ringLinks", inPlace := ["math.Float64frombits", "math.archFloor", "math.Float64bits", "math.archTrunc"], apart := false }
def RingLinksSaid : Prop := ringLinksRow.holds Try.pinned (OpenSpec.ofChange ringLinksSpec)

/-- ITS FALSE NEIGHBOUR: 'it returns false'. Refute it at one input. -/
def ringLinksWrong : ChangeSpec := { name := "ringLinks", fn := fun _ => fun
  | [d1, d2, d3, d4] => { results := [.lit (.bool false)], args := [d1, d2, d3, d4] }
  | _ => none }
def RingLinksWrongFalsely : Prop := ringLinksRow.holds Try.pinned (OpenSpec.ofChange ringLinksWrong)

/-- 'flintlaw02.PlaceCompare': WHATEVER THE INPUT: true; the input reads as it did. -/
def placeCompareSpec : ChangeSpec := { name := "placeCompare", fn := fun _ => fun
  | [d1, d2, d3] => { results := [.lit (.bool true)], args := [d1, d2, d3] }
  | _ => none }
def placeCompareRow : OpenClaim := { program := "ytbbiohgillhmnaa", sum := "cfb7908a9cab4de2e1fa4dd951364e02ce5aa2f98c39b4984b0b48e890eed064", func := "flint/flintlaw02.PlaceCompare", spec := "placeCompare", inPlace := ["math.Float64frombits", "math.archFloor", "math.Float64bits", "math.archTrunc"], apart := false }
def PlaceCompareSaid : Prop := placeCompareRow.holds Try.pinned (OpenSpec.ofChange placeCompareSpec)

/-- ITS FALSE NEIGHBOUR: 'it returns false'. Refute it at one input. -/
def placeCompareWrong : ChangeSpec := { name := "placeCompare", fn := fun _ => fun
  | [d1, d2, d3] => { results := [.lit (.bool false)], args := [d1, d2, d3] }
  | _ => none }
def PlaceCompareWrongFalsely : Prop := placeCompareRow.holds Try.pinned (OpenSpec.ofChange placeCompareWrong)

/- THE SECOND FORM. 'bulk': how many values and letters a reading holds, each counted each time it is reached (what is shared counts as often as it is met; a slice's spare places count too). A statement '..UptoSaid' is the law's where the arguments, and the package variables that the reading takes, are together of bulk at most 1048576: NARROWER than '..Said'. Prove '..Said' where nothing that the law and all that it calls make is longer than what came in: it says more and counts as full. Else prove '..UptoSaid'. A law counts once. -/
mutual
def uptoBulk {H : Type} : DataW H → Nat
  | .lit (.string bytes) => bytes.length + 1
  | .lit _ => 1
  | .nil => 1
  | .ptr d => uptoBulk d + 1
  | .slice elems spare => uptoBulkAll elems + uptoBulkAll spare + 1
  | .agg parts => uptoBulkAll parts + 1
  | .iface _ d => uptoBulk d + 1
  | .map entries => uptoBulkEntries entries + 1
  | .held _ => 1
def uptoBulkAll {H : Type} : List (DataW H) → Nat
  | [] => 0
  | d :: r => uptoBulk d + uptoBulkAll r
def uptoBulkEntries {H : Type} : List (Lit × DataW H) → Nat
  | [] => 0
  | x :: r => uptoBulkEntry x + uptoBulkEntries r
def uptoBulkEntry {H : Type} : Lit × DataW H → Nat
  | (.string bytes, d) => bytes.length + uptoBulk d + 1
  | (_, d) => uptoBulk d + 1
 end
def uptoSmall : (H : Type) → List (DataW H) → Bool := fun _ ds => decide (uptoBulkAll ds ≤ 1048576)
def OpenSpec.upto (s : _root_.Go.ChangeSpec) : _root_.Go.OpenSpec := { _root_.Go.OpenSpec.ofChange s with cond := some uptoSmall }

/-- 'flintlaw02.PlaceOf', WHERE WHAT IT READS IS OF BULK AT MOST 1048576: true; the input reads as it did. -/
def placeOfUptoRow : OpenClaim := { program := "ytbbiohgillhmnaa", sum := "cfb7908a9cab4de2e1fa4dd951364e02ce5aa2f98c39b4984b0b48e890eed064", func := "flint/flintlaw02.PlaceOf", spec := "placeOf", apart := false, narrowed := true }
def PlaceOfUptoSaid : Prop := placeOfUptoRow.holds Try.pinned (OpenSpec.upto placeOfSpec)

/-- 'flintlaw07.RingSize', WHERE WHAT IT READS IS OF BULK AT MOST 1048576: true; the input reads as it did. -/
def ringSizeUptoRow : OpenClaim := { program := "ytbbiohgillhmnaa", sum := "cfb7908a9cab4de2e1fa4dd951364e02ce5aa2f98c39b4984b0b48e890eed064", func := "flint/flintlaw07.RingSize", spec := "ringSize", apart := false, narrowed := true }
def RingSizeUptoSaid : Prop := ringSizeUptoRow.holds Try.pinned (OpenSpec.upto ringSizeSpec)

/-- 'flintlaw07.RingWhole', WHERE WHAT IT READS IS OF BULK AT MOST 1048576: true; the input reads as it did. -/
def ringWholeUptoRow : OpenClaim := { program := "ytbbiohgillhmnaa", sum := "cfb7908a9cab4de2e1fa4dd951364e02ce5aa2f98c39b4984b0b48e890eed064", func := "flint/flintlaw07.RingWhole", spec := "ringWhole", apart := false, narrowed := true }
def RingWholeUptoSaid : Prop := ringWholeUptoRow.holds Try.pinned (OpenSpec.upto ringWholeSpec)

/-- 'flintlaw07.RingOrder', WHERE WHAT IT READS IS OF BULK AT MOST 1048576: true; the input reads as it did. -/
def ringOrderUptoRow : OpenClaim := { program := "ytbbiohgillhmnaa", sum := "cfb7908a9cab4de2e1fa4dd951364e02ce5aa2f98c39b4984b0b48e890eed064", func := "flint/flintlaw07.RingOrder", spec := "ringOrder", inPlace := ["math.Float64frombits"], apart := false, narrowed := true }
def RingOrderUptoSaid : Prop := ringOrderUptoRow.holds Try.pinned (OpenSpec.upto ringOrderSpec)

/-- 'flintlaw02.PlaceParts', WHERE WHAT IT READS IS OF BULK AT MOST 1048576: true; the input reads as it did. -/
def placePartsUptoRow : OpenClaim := { program := "ytbbiohgillhmnaa", sum := "cfb7908a9cab4de2e1fa4dd951364e02ce5aa2f98c39b4984b0b48e890eed064", func := "flint/flintlaw02.PlaceParts", spec := "placeParts", inPlace := ["math.Float64frombits", "math.archFloor", "math.Float64bits", "math.archTrunc"], apart := false, narrowed := true }
def PlacePartsUptoSaid : Prop := placePartsUptoRow.holds Try.pinned (OpenSpec.upto placePartsSpec)

/-- 'flintlaw02.PlaceOn', WHERE WHAT IT READS IS OF BULK AT MOST 1048576: true; the input reads as it did. -/
def placeOnUptoRow : OpenClaim := { program := "ytbbiohgillhmnaa", sum := "cfb7908a9cab4de2e1fa4dd951364e02ce5aa2f98c39b4984b0b48e890eed064", func := "flint/flintlaw02.PlaceOn", spec := "placeOn", inPlace := ["math.Float64frombits", "math.archFloor", "math.Float64bits", "math.archTrunc"], apart := false, narrowed := true }
def PlaceOnUptoSaid : Prop := placeOnUptoRow.holds Try.pinned (OpenSpec.upto placeOnSpec)

/-- 'flintlaw11.PickOrder', WHERE WHAT IT READS IS OF BULK AT MOST 1048576: true; the input reads as it did. -/
def pickOrderUptoRow : OpenClaim := { program := "ytbbiohgillhmnaa", sum := "cfb7908a9cab4de2e1fa4dd951364e02ce5aa2f98c39b4984b0b48e890eed064", func := "flint/flintlaw11.PickOrder", spec := "pickOrder", unfollowed := true, recurses := true, apart := false, narrowed := true }
def PickOrderUptoSaid : Prop := pickOrderUptoRow.holds Try.pinned (OpenSpec.upto pickOrderSpec)

/-- 'flintlaw02.PlaceBytes', WHERE WHAT IT READS IS OF BULK AT MOST 1048576: true; the input reads as it did. -/
def placeBytesUptoRow : OpenClaim := { program := "ytbbiohgillhmnaa", sum := "cfb7908a9cab4de2e1fa4dd951364e02ce5aa2f98c39b4984b0b48e890eed064", func := "flint/flintlaw02.PlaceBytes", spec := "placeBytes", inPlace := ["math.Float64frombits", "math.archFloor", "math.Float64bits", "math.archTrunc"], apart := false, narrowed := true }
def PlaceBytesUptoSaid : Prop := placeBytesUptoRow.holds Try.pinned (OpenSpec.upto placeBytesSpec)

/-- 'flintlaw11.PickRound', WHERE WHAT IT READS IS OF BULK AT MOST 1048576: true; the input reads as it did. -/
def pickRoundUptoRow : OpenClaim := { program := "ytbbiohgillhmnaa", sum := "cfb7908a9cab4de2e1fa4dd951364e02ce5aa2f98c39b4984b0b48e890eed064", func := "flint/flintlaw11.PickRound", spec := "pickRound", unfollowed := true, recurses := true, apart := false, narrowed := true }
def PickRoundUptoSaid : Prop := pickRoundUptoRow.holds Try.pinned (OpenSpec.upto pickRoundSpec)

/-- 'flintlaw11.PickOnes', WHERE WHAT IT READS IS OF BULK AT MOST 1048576: true; the input reads as it did. -/
def pickOnesUptoRow : OpenClaim := { program := "ytbbiohgillhmnaa", sum := "cfb7908a9cab4de2e1fa4dd951364e02ce5aa2f98c39b4984b0b48e890eed064", func := "flint/flintlaw11.PickOnes", spec := "pickOnes", unfollowed := true, recurses := true, apart := false, narrowed := true }
def PickOnesUptoSaid : Prop := pickOnesUptoRow.holds Try.pinned (OpenSpec.upto pickOnesSpec)

/-- 'flintlaw07.RingLinks', WHERE WHAT IT READS IS OF BULK AT MOST 1048576: true; the input reads as it did. -/
def ringLinksUptoRow : OpenClaim := { program := "ytbbiohgillhmnaa", sum := "cfb7908a9cab4de2e1fa4dd951364e02ce5aa2f98c39b4984b0b48e890eed064", func := "flint/flintlaw07.RingLinks", spec := "ringLinks", inPlace := ["math.Float64frombits", "math.archFloor", "math.Float64bits", "math.archTrunc"], apart := false, narrowed := true }
def RingLinksUptoSaid : Prop := ringLinksUptoRow.holds Try.pinned (OpenSpec.upto ringLinksSpec)

/-- 'flintlaw02.PlaceCompare', WHERE WHAT IT READS IS OF BULK AT MOST 1048576: true; the input reads as it did. -/
def placeCompareUptoRow : OpenClaim := { program := "ytbbiohgillhmnaa", sum := "cfb7908a9cab4de2e1fa4dd951364e02ce5aa2f98c39b4984b0b48e890eed064", func := "flint/flintlaw02.PlaceCompare", spec := "placeCompare", inPlace := ["math.Float64frombits", "math.archFloor", "math.Float64bits", "math.archTrunc"], apart := false, narrowed := true }
def PlaceCompareUptoSaid : Prop := placeCompareUptoRow.holds Try.pinned (OpenSpec.upto placeCompareSpec)

end Rows
end Go.Proofs.Ytbbiohgillhmnaa
