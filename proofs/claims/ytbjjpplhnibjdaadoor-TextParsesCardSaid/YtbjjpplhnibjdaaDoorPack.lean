/- pack: numbers and texts behind bytes. -/
import Derived.Test.YtbjjpplhnibjdaaDoorPackG
import Derived.Test.YtbjjpplhnibjdaaDoorPlace2
import Derived.Test.YtbjjpplhnibjdaaDoorRingM
import Derived.Test.YtbjjpplhnibjdaaDoorRingD
import Derived.Test.YtbjjpplhnibjdaaDoorPh
import Derived.Laws.MakeOwn
import Derived.Laws.CopyOwn
import Derived.Laws.BytesArg
import Derived.Deep.DeepMust
import Derived.Deep.WholeRow
import Derived.Lib.AppendStr
import Derived.Lib.BufferWrite
namespace Go.Proofs.YtbjjpplhnibjdaaDoor
open Go.RowKit

abbrev bv (x : Nat) : Value := .int .u8 (x : Int)
/-- A slice that reads as these bytes. -/
abbrev Byt (w : World) (v : Value) (l : List Nat) : Prop := Sl w 1 v (l.map fun x => [bv x])
/-- A call that comes back with bytes in one new block, and has made nothing else. -/
abbrev Own1 (f : FuncId) (args : Array Value) (w : World) (l : List Nat) : Prop := Makes1 f args w (.slice (some ⟨w.heap.size, 0, none⟩) l.length l.length) (.cells (l.map bv).toArray 5)
theorem bv_flat (l : List Nat) : (l.map fun x => [bv x]).flatten = l.map bv := by
  induction l with
  | nil => rfl
  | cons x l ih => rw [List.map_cons, List.flatten_cons, ih]; rfl
theorem Byt.fresh {w : World} {g : Nat} {l : List Nat} (h : w.heap[g]? = some (.cells (l.map bv).toArray 5 (0, 0))) (hm : l.length ≤ 4294967296) : Byt w (.slice (some ⟨g, 0, none⟩) l.length l.length) l := by
  have := Sl.lit (w := w) (k := 1) (l.map fun x => [bv x]) (g := g) (t := 5) (n := l.length) h (by rw [bv_flat]) (by rw [List.length_map]) (by intro x hx; obtain ⟨y, _, rfl⟩ := List.mem_map.1 hx; rfl) (by rw [List.length_map]; exact hm)
  exact this
theorem Byt.cell {w : World} {A : Option Addr} {n cap : Nat} {l : List Nat} (h : Byt w (.slice A n cap) l) (hp : 0 < l.length) :
    ∃ b off, A = some ⟨b, off, none⟩ ∧ b < w.heap.size ∧ ∀ j u, (l.map bv)[j]? = some u → w.cell? ((⟨b, off, none⟩ : Addr).add j) = some u := by
  have hn := h.len
  rw [List.length_map] at hn
  obtain ⟨b, off, hA, hb, hx⟩ := h.at (by omega)
  refine ⟨b, off, hA, hb, fun j u hj => ?_⟩
  rw [List.getElem?_map] at hj
  obtain ⟨x, hx1, rfl⟩ := Option.map_eq_some_iff.1 hj
  have := (hx j [bv x] (by rw [List.getElem?_map, hx1]; rfl)).2 0 (bv x) rfl
  rw [Addr.add_lit, show off + j = off + j * 1 + 0 by omega]
  exact this

theorem info_u8 : (Tryd.prog.info? 5).map (fun i => (i.zero, i.size, i.bytes)) = some (some (.int .u8 0), 1, 1) := by kernel_rfl

theorem made_zeros (n : Nat) : madeCells #[.int .u8 0] n = ((List.replicate n 0).map bv).toArray := by
  unfold madeCells
  apply Array.ext'
  apply List.ext_getElem
  · simp
  · intro i h1 h2
    simp [Nat.mod_one]

theorem setCell_new (w : World) (c : Array Value) (t : TypeId) (o : Nat) (v : Value) : (w.alloc (.cells c t)).setCell ⟨w.heap.size, o, none⟩ v = w.alloc (.cells (c.setIfInBounds o v) t) := by
  rw [setCell_eq_setRow _ _ _ _ _ _ _ (blk_new w (.cells c t)), World.setRow_alloc_new]

/-- The bytes of a string, as numbers. -/
def sb (s : ByteArray) : List Nat := s.data.toList.map UInt8.toNat
theorem sb_len (s : ByteArray) : (sb s).length = s.size := by unfold sb; rw [List.length_map, Array.length_toList]; rfl
theorem sb_lt (s : ByteArray) : ∀ b ∈ sb s, b < 256 := by
  intro b hb
  obtain ⟨x, _, rfl⟩ := List.mem_map.1 hb
  exact x.toNat_lt
/-- Numbers as a string. -/
def toB (l : List Nat) : ByteArray := ⟨(l.map UInt8.ofNat).toArray⟩
theorem toB_sb (s : ByteArray) : toB (sb s) = s := by
  unfold toB sb
  rw [List.map_map]
  have : (UInt8.ofNat ∘ UInt8.toNat) = id := by funext x; simp
  rw [this, List.map_id]
theorem sb_toB (l : List Nat) (h : ∀ b ∈ l, b < 256) : sb (toB l) = l := by
  unfold sb toB
  rw [List.map_map]
  have : ∀ b ∈ l, (UInt8.toNat ∘ UInt8.ofNat) b = b := fun b hb => by
    show (UInt8.ofNat b).toNat = b
    rw [UInt8.toNat_ofNat']
    exact Nat.mod_eq_of_lt (h b hb)
  rw [List.map_congr_left this, List.map_id']
theorem toB_size (l : List Nat) : (toB l).size = l.length := by unfold toB; simp [ByteArray.size]
theorem toB_nums (l : List Nat) : toB l = strOfNums (l.map fun x : Nat => (x : Int)) := by
  unfold toB strOfNums
  rw [List.map_map]
  rfl
theorem sb_cells (s : ByteArray) : (sb s).map bv = Lib.byteCells s.data.toList := by unfold sb Lib.byteCells; rw [List.map_map]; rfl

theorem wraps_u64 (n : Int) (h0 : 0 ≤ n) (h1 : n < 2 ^ 64) : IntKind.u64.wrap n = n := by rw [IntKind.wrap_u64]; omega

/-- A piece of bytes as a string. -/
theorem conv_piece {w : World} {b off cap : Nat} {l : List Nat} (hx : ∀ j u, (l.map bv)[j]? = some u → w.cell? ((⟨b, off, none⟩ : Addr).add j) = some u) (a k : Nat) (hk : a + k ≤ l.length) :
    (convert 23 9 (.slice (some ⟨b, off + a, none⟩) k cap)).run Tryd.prog w = .ok (.string (toB ((l.drop a).take k))) w := by
  rw [toB_nums]
  refine run_convert_bytes_arg w 23 5 Tryd.underlying23 Tryd.underlying5 b (off + a) k cap _ ?_ ?_ 9 Tryd.underlying9
  · rw [List.length_map, List.length_take, List.length_drop]; omega
  · intro i hi
    have hal : a + i < l.length := by omega
    have := hx (a + i) (bv l[a + i]) (by rw [List.getElem?_map, List.getElem?_eq_getElem hal]; rfl)
    rw [Addr.add_lit, ← Nat.add_assoc] at this
    rw [this]
    congr 2
    rw [List.getD_eq_getElem?_getD, List.getElem?_map, List.getElem?_take_of_lt hi, List.getElem?_drop, List.getElem?_eq_getElem hal]
    rfl

end Go.Proofs.YtbjjpplhnibjdaaDoor
