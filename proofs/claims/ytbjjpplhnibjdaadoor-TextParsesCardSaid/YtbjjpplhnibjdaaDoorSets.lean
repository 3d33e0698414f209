/- Stores into a block of an old world, cell by cell. -/
import Derived.Test.YtbjjpplhnibjdaaDoorMem
namespace Go.Proofs.YtbjjpplhnibjdaaDoor
open Go Go.RowKit

theorem blk_set {w : World} {g : Nat} {x : Obj} (hx : w.heap[g]? = some x) {k : Nat} (o : Nat) (v : Value) (hn : g ≠ k) : (w.setCell ⟨k, o, none⟩ v).heap[g]? = some x := by
  rw [Below.heap_setCell _ _ _ _ hn]; exact hx
theorem Base.st {a w : World} (h : Below a.heap.size a w) {g : Nat} (hg : a.heap.size ≤ g) (o : Nat) (v : Value) : Below a.heap.size a (w.setCell ⟨g, o, none⟩ v) :=
  h.trans ⟨rfl, rfl, rfl, by simp [World.setCell], fun k hk => Below.heap_setCell _ _ _ _ (by show k ≠ g; omega)⟩
/-- The cells of a block written, one behind the other. -/
def sets (W : World) (g : Nat) : Nat → List Value → World
  | _, [] => W
  | k, v :: vs => sets (W.setCell ⟨g, k, none⟩ v) g (k + 1) vs
theorem sets_from {g : Nat} {t : TypeId} : ∀ (vs : List Value) (W : World) (k : Nat) (pre old : List Value), W.heap[g]? = some (.cells (pre ++ old).toArray t (0, 0)) → pre.length = k → old.length = vs.length → (sets W g k vs).heap[g]? = some (.cells (pre ++ vs).toArray t (0, 0))
  | [], _, _, pre, old, h, _, h2 => by
    have : old = [] := List.eq_nil_of_length_eq_zero h2
    subst this
    exact h
  | _ :: _, _, _, _, [], _, _, h2 => by cases h2
  | v :: vs, W, k, pre, o :: old, h, h1, h2 => by
    have h3 := heap_setCell h k v
    have h4 : (pre ++ o :: old).toArray.setIfInBounds k v = ((pre ++ [v]) ++ old).toArray := by
      apply Array.ext'
      simp only [Array.toList_setIfInBounds]
      rw [List.set_append_right _ _ (by omega), h1, Nat.sub_self]
      simp
    rw [h4] at h3
    have h5 := sets_from vs (W.setCell ⟨g, k, none⟩ v) (k + 1) (pre ++ [v]) old h3 (by simp [h1]) (by simpa using h2)
    rw [List.append_assoc] at h5
    exact h5
theorem sets_at {W : World} {g : Nat} {t : TypeId} {cur : Array Value} (h : W.heap[g]? = some (.cells cur t (0, 0))) (vs : List Value) (hl : cur.size = vs.length) : (sets W g 0 vs).heap[g]? = some (.cells vs.toArray t (0, 0)) :=
  sets_from vs W 0 [] cur.toList (by simpa using h) rfl (by simpa using hl)
theorem sets_below {a : World} {g : Nat} (hg : a.heap.size ≤ g) : ∀ (vs : List Value) (W : World) (k : Nat), Below a.heap.size a W → Below a.heap.size a (sets W g k vs)
  | [], _, _, h => h
  | v :: vs, _, k, h => sets_below hg vs _ _ (Base.st h hg k v)
theorem sets_old {g k : Nat} {o : Obj} (hn : k ≠ g) : ∀ (vs : List Value) (W : World) (j : Nat), W.heap[k]? = some o → (sets W g j vs).heap[k]? = some o
  | [], _, _, h => h
  | v :: vs, _, j, h => sets_old hn vs _ _ (blk_set h j v hn)
end Go.Proofs.YtbjjpplhnibjdaaDoor
