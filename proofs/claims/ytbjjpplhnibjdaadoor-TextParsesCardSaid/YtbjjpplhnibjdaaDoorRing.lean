/- What the functions of package ring come to: sizes, items that may be. -/
import Derived.Test.YtbjjpplhnibjdaaDoorMem
import Derived.Test.YtbjjpplhnibjdaaDoorPlace2
import Derived.Test.YtbjjpplhnibjdaaDoorQuiet
namespace Go.Proofs.YtbjjpplhnibjdaaDoor
open Go.RowKit Flo

/-- The size of a key and a value. -/
def sizeB (k v : ByteArray) : Int := if 48 < k.size ∨ 64 < v.size then 0 else 32 + k.size + v.size

/-- An item. -/
structure Item where
  seq : Int
  ver : Int
  index : Int
  count : Int
  a : Nat
  b : Nat
  gone : Bool
  key : ByteArray
  value : ByteArray
abbrev Item.row (x : Item) : List Value := [.int .u64 x.seq, .int .u64 x.ver, i64 x.index, i64 x.count, cx x.a x.b, .bool x.gone, .string x.key, .string x.value]
abbrev Item.val (x : Item) : Value := .agg #[.int .u64 x.seq, .int .u64 x.ver, i64 x.index, i64 x.count, cx x.a x.b, .bool x.gone, .string x.key, .string x.value]
noncomputable def placeOk (a b : Nat) : Bool := match parts? a b with | some (s, o) => decide (s ≤ 254) && decide (o ≤ 65535) | none => false
noncomputable def mayB (x : Item) : Bool :=
  (decide (1 ≤ x.count) && decide (x.count ≤ 255) && decide (0 ≤ x.index) && decide (x.index < x.count)) && placeOk x.a x.b && !decide (x.key.toList = []) && decide (0 < sizeB x.key x.value) && (!x.gone || decide (x.value.toList = []))

end Go.Proofs.YtbjjpplhnibjdaaDoor
