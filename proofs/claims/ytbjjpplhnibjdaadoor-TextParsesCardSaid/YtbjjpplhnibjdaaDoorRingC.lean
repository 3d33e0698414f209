/- ring.Count: which items count. -/
import Derived.Test.YtbjjpplhnibjdaaDoorRingW
import Derived.Deep.DeepMust
namespace Go.Proofs.YtbjjpplhnibjdaaDoor
open Go.RowKit Flo
attribute [local go_sem] run_store_complex

/-- The ring of a number. -/
def ringOf (l : List Found) (s : Int) : List Found := l.filter fun g => decide (g.item.seq = s)
noncomputable def countB (l : List Found) : List Bool := l.map fun f => f.settled || wholeB (ringOf l f.item.seq)

theorem zero_int (w : World) : (zeroValue 3).run Tryd.prog w = .ok (i64 0) w := by kernel_rfl
theorem info_boolE : (Tryd.prog.info? 4).map (fun i => (i.zero, i.size, i.bytes)) = some (some (.bool false), 1, 1) := by kernel_rfl
theorem Sl.own {w : World} {base : Nat} {e : TypeId} {k : Nat} {v : Value} (rows : List (List Value)) (hk : ∀ x ∈ rows, x.length = k) (h : w.ownsRow base e k v rows.length rows.flatten) : Sl w k v rows := by
  rcases h.2 with ⟨rfl, hn⟩ | ⟨g, cap, cur, rfl, hbg, hgg, hnc, hcm, hcs, htake⟩
  · have : rows = [] := List.eq_nil_of_length_eq_zero hn
    subst this
    exact Sl.nil w k
  · refine ⟨some ⟨g, 0, none⟩, cap, rfl, hnc, hcm, (fun h => by cases h), fun _ => ⟨g, 0, rfl, (Array.getElem?_eq_some_iff.1 hgg).1, fun i x hi => ⟨hk x (List.mem_of_getElem? hi), fun j u hj => ?_⟩⟩⟩
    have := h.cells (g := g) rfl _ u (flatten_get hk i x hi j u hj)
    simpa [Addr.add_lit] using this

theorem ringOf_snoc (l : List Found) (f : Found) (s : Int) : ringOf (l ++ [f]) s = if f.item.seq = s then ringOf l s ++ [f] else ringOf l s := by
  unfold ringOf
  rw [List.filter_append]
  by_cases h : f.item.seq = s
  · simp [h]
  · simp [h]
theorem own_block_some {w : World} {base : Nat} {e : TypeId} {size : Nat} {v : Value} {n : Nat} {xs : List Value} (h : w.ownsRow base e size v n xs) (hn : 0 < n) : ∃ g, v.ownBlock = some g ∧ base ≤ g ∧ g < w.heap.size := by
  rcases h.2 with ⟨_, h0⟩ | ⟨g, cap, cur, rfl, hbg, hgg, _⟩
  · omega
  · exact ⟨g, rfl, hbg, (Array.getElem?_eq_some_iff.1 hgg).1⟩

end Go.Proofs.YtbjjpplhnibjdaaDoor
