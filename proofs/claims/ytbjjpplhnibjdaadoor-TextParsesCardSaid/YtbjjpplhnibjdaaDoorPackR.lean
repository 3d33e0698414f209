/- The reference of layer 3: numbers and texts behind bytes. -/
import Derived.Test.YtbjjpplhnibjdaaDoorPack
import Derived.Test.YtbjjpplhnibjdaaDoorOwn2
namespace Go.Proofs.YtbjjpplhnibjdaaDoor
open Go.RowKit

/-- Bytes as a string. -/
theorem conv_any {w : World} {A : Option Addr} {n cap : Nat} {l : List Nat} (h : Byt w (.slice A n cap) l) :
    (convert 23 9 (.slice A n cap)).run Tryd.prog w = .ok (.string (toB l)) w := by
  have hn := h.len
  rw [List.length_map] at hn
  subst hn
  by_cases h0 : l.length = 0
  · have : l = [] := List.eq_nil_of_length_eq_zero h0
    subst this
    cases A with
    | none => exact run_convert_bytes_nil w 23 5 Tryd.underlying23 Tryd.underlying5 _ _ 9 Tryd.underlying9
    | some ad =>
      rw [run_convert_bytes_string w 23 9 5 (some ad) _ cap Tryd.underlying23 Tryd.underlying5 Tryd.underlying9]
      have := run_bytesToString (P := Tryd.prog) w ad 0 cap [] (by simpa using run_loadCells_list (P := Tryd.prog) w ad [] (by simp))
      exact this
  · obtain ⟨b, off, rfl, hb, hx⟩ := Byt.cell h (by omega)
    have := conv_piece (cap := cap) hx 0 l.length (by omega)
    rw [Nat.add_zero, List.drop_zero, List.take_length] at this
    exact this
/-- A call that comes back with bytes of its own. -/
abbrev MakesB (f : FuncId) (args : Array Value) (w : World) (l : List Nat) : Prop :=
  Calls Tryd.prog f args w fun e w' => ∃ v, e = .returned v ∧ w'.ownsRow w.heap.size 5 1 v l.length (l.map bv) ∧ (∃ ad n c, v = .slice (some ad) n c) ∧ Below w.heap.size w w'
theorem own_Byt {w : World} {base : Nat} {v : Value} {l : List Nat} (h : w.ownsRow base 5 1 v l.length (l.map bv)) : Byt w v l := by
  have := own_Sl (xs := l.map bv) (by rw [List.length_map]; exact h)
  rwa [List.map_map] at this
theorem Byt.src {w : World} {ad : Addr} {n cap : Nat} {l : List Nat} (h : Byt w (.slice (some ad) n cap) l) : ∀ j u, (l.map bv)[j]? = some u → w.cell? (ad.add j) = some u := by
  intro j u hj
  by_cases hp : 0 < l.length
  · obtain ⟨b, off, he, _, hx⟩ := Byt.cell h hp
    injection he with he
    subst he
    exact hx j u hj
  · have : l = [] := List.eq_nil_of_length_eq_zero (by omega)
    subst this
    cases hj
theorem own_empty (w : World) (e : TypeId) : (w.alloc (.cells #[] e)).ownsRow w.heap.size e 1 (.slice (some ⟨w.heap.size, 0, none⟩) 0 0) 0 [] :=
  ⟨rfl, .inr ⟨w.heap.size, 0, #[], rfl, Nat.le_refl _, blk_new _ _, Nat.le_refl _, by unfold maxLen; omega, rfl, rfl⟩⟩

theorem cell_heap {w v : World} {g : Nat} (h : v.heap[g]? = w.heap[g]?) {o : Nat} : v.cell? ⟨g, o, none⟩ = w.cell? ⟨g, o, none⟩ := by simp [World.cell?, h]
theorem heap_old (w : World) (x : Obj) {g : Nat} (h : g < w.heap.size) : (w.alloc x).heap[g]? = w.heap[g]? := by
  show (w.heap.push x)[g]? = w.heap[g]?
  rw [Array.getElem?_push, if_neg (by omega)]

theorem strCells_sb (s : ByteArray) : Lib.strCells s = (sb s).map bv := by unfold Lib.strCells sb; rw [List.map_map]; rfl

theorem toB_snoc (l : List Nat) (c : Nat) : toB l ++ toB [c] = toB (l ++ [c]) := by
  unfold toB
  apply ByteArray.ext
  simp

end Go.Proofs.YtbjjpplhnibjdaaDoor
