/- Items as they come: flintlaw07's Raw and Put. -/
import Derived.Test.YtbjjpplhnibjdaaDoorRingP
namespace Go.Proofs.YtbjjpplhnibjdaaDoor
open Go.RowKit Flo
attribute [local go_sem] run_store_complex

structure Raw where
  seq : Int
  ver : Int
  index : Int
  count : Int
  n0 : Int
  n1 : Int
  gone : Bool
  key : ByteArray
  value : ByteArray
structure Put where
  a0 : Int
  a1 : Int
  settled : Bool
  item : Raw
def Raw.item (r : Raw) : Item := ⟨r.seq, r.ver, r.index, r.count, r.n0.toNat, r.n1.toNat, r.gone, r.key, r.value⟩
abbrev Raw.val (r : Raw) : Value := .agg #[.int .u64 r.seq, .int .u64 r.ver, i64 r.index, i64 r.count, .int .u64 r.n0, .int .u64 r.n1, .bool r.gone, .string r.key, .string r.value]
abbrev Put.row (p : Put) : List Value := [.int .u64 p.a0, .int .u64 p.a1, .bool p.settled, .int .u64 p.item.seq, .int .u64 p.item.ver, i64 p.item.index, i64 p.item.count, .int .u64 p.item.n0, .int .u64 p.item.n1, .bool p.item.gone, .string p.item.key, .string p.item.value]
abbrev Puts (w : World) (v : Value) (l : List Put) : Prop := Sl w 12 v (l.map Put.row)
def Put.found (p : Put) : Found := ⟨p.a0.toNat, p.a1.toNat, sizeB p.item.key p.item.value, p.settled, p.item.item⟩

theorem Puts.cell {w : World} {A : Option Addr} {n cap : Nat} {xs : List Put} (h : Puts w (.slice A n cap) xs) (hn : 0 < xs.length) (d : Put) :
    ∃ b off, A = some ⟨b, off, none⟩ ∧ b < w.heap.size ∧ ∀ k, k < xs.length → ∀ j u, (xs.getD k d).row[j]? = some u → w.cell? ⟨b, off + k * 12 + j, none⟩ = some u := by
  have hl := h.len
  rw [List.length_map] at hl
  obtain ⟨b, off, hA, hb, hx⟩ := h.at (by omega)
  exact ⟨b, off, hA, hb, fun k hk => (hx k (xs.getD k d).row (by simp [List.getD, hk])).2⟩

end Go.Proofs.YtbjjpplhnibjdaaDoor
