/- ring.Link. -/
import Derived.Test.YtbjjpplhnibjdaaDoorRing
namespace Go.Proofs.YtbjjpplhnibjdaaDoor
open Go.RowKit Flo

structure Pair where
  key : ByteArray
  value : ByteArray
  gone : Bool
abbrev Pair.row (p : Pair) : List Value := [.string p.key, .string p.value, .bool p.gone]
instance : Inhabited Pair := ⟨⟨ByteArray.empty, ByteArray.empty, false⟩⟩
abbrev Pairs (w : World) (v : Value) (l : List Pair) : Prop := Sl w 3 v (l.map Pair.row)
abbrev U64s (w : World) (v : Value) (l : List Int) : Prop := Sl w 1 v (l.map fun n => [Value.int .u64 n])
abbrev Places (w : World) (v : Value) (l : List (Nat × Nat)) : Prop := Sl w 1 v (l.map fun p => [cx p.1 p.2])

/-- The item number k of a ring. -/
def linkItem (seq : Int) (l : List Pair) (vers : List Int) (ps : List (Nat × Nat)) (k : Nat) : Item :=
  ⟨seq, vers.getD k 0, k, l.length, (ps.getD ((k + 1) % l.length) (0, 0)).1, (ps.getD ((k + 1) % l.length) (0, 0)).2, (l.getD k default).gone, (l.getD k default).key, (l.getD k default).value⟩
def linkOk (seq : Int) (l : List Pair) (vers : List Int) (ps : List (Nat × Nat)) : Prop :=
  l.length ≠ 0 ∧ vers.length = l.length ∧ ps.length = l.length ∧ ∀ k, k < l.length → mayB (linkItem seq l vers ps k) = true

end Go.Proofs.YtbjjpplhnibjdaaDoor
