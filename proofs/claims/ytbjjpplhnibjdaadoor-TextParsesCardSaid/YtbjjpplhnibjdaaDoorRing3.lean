/- ring.Link. -/
import Derived.Test.YtbjjpplhnibjdaaDoorRing2
import Derived.Test.YtbjjpplhnibjdaaDoorPh
namespace Go.Proofs.YtbjjpplhnibjdaaDoor
open Go.RowKit Flo
attribute [local go_sem] run_store_complex

theorem U64s.cell {w : World} {A : Option Addr} {n cap : Nat} {xs : List Int} (h : U64s w (.slice A n cap) xs) (hn : 0 < xs.length) :
    ∃ b off, A = some ⟨b, off, none⟩ ∧ b < w.heap.size ∧ ∀ k, k < xs.length → w.cell? ⟨b, off + k, none⟩ = some (.int .u64 (xs.getD k 0)) := by
  have hl := h.len
  rw [List.length_map] at hl
  obtain ⟨b, off, hA, hb, hx⟩ := h.at (by omega)
  refine ⟨b, off, hA, hb, fun k hk => ?_⟩
  have := (hx k [.int .u64 (xs.getD k 0)] (by simp [List.getD, hk])).2 0 _ rfl
  simpa using this
theorem Places.cell {w : World} {A : Option Addr} {n cap : Nat} {xs : List (Nat × Nat)} (h : Places w (.slice A n cap) xs) (hn : 0 < xs.length) :
    ∃ b off, A = some ⟨b, off, none⟩ ∧ b < w.heap.size ∧ ∀ k, k < xs.length → w.cell? ⟨b, off + k, none⟩ = some (cx (xs.getD k (0, 0)).1 (xs.getD k (0, 0)).2) := by
  have hl := h.len
  rw [List.length_map] at hl
  obtain ⟨b, off, hA, hb, hx⟩ := h.at (by omega)
  refine ⟨b, off, hA, hb, fun k hk => ?_⟩
  have := (hx k [cx (xs.getD k (0, 0)).1 (xs.getD k (0, 0)).2] (by simp [List.getD, hk])).2 0 _ rfl
  simpa using this
theorem Pairs.cell {w : World} {A : Option Addr} {n cap : Nat} {xs : List Pair} (h : Pairs w (.slice A n cap) xs) (hn : 0 < xs.length) :
    ∃ b off, A = some ⟨b, off, none⟩ ∧ b < w.heap.size ∧ ∀ k, k < xs.length → w.cell? ⟨b, off + k * 3, none⟩ = some (.string (xs.getD k default).key) ∧ w.cell? ⟨b, off + k * 3 + 1, none⟩ = some (.string (xs.getD k default).value) ∧ w.cell? ⟨b, off + k * 3 + 2, none⟩ = some (.bool (xs.getD k default).gone) := by
  have hl := h.len
  rw [List.length_map] at hl
  obtain ⟨b, off, hA, hb, hx⟩ := h.at (by omega)
  refine ⟨b, off, hA, hb, fun k hk => ?_⟩
  have := (hx k (xs.getD k default).row (by simp [List.getD, hk])).2
  exact ⟨this 0 _ rfl, this 1 _ rfl, this 2 _ rfl⟩

theorem flat_succ {β : Type} (f : Nat → List β) (k : Nat) : (List.range (k + 1)).flatMap f = (List.range k).flatMap f ++ f k := by
  rw [List.range_succ, List.flatMap_append]; simp

end Go.Proofs.YtbjjpplhnibjdaaDoor
