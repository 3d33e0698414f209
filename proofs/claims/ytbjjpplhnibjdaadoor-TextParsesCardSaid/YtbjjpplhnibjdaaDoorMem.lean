/- Words for slices in memory: a slice that reads as a list of rows. -/
import Derived.Test.YtbjjpplhnibjdaaDoorBase
namespace Go.Proofs.YtbjjpplhnibjdaaDoor
open Go.RowKit

/-- The slice value v reads, in w, as the rows xs, each of k cells. -/
def Sl (w : World) (k : Nat) (v : Value) (xs : List (List Value)) : Prop :=
  ∃ A cap, v = .slice A xs.length cap ∧ xs.length ≤ cap ∧ cap ≤ maxLen ∧ (A = none → cap = 0) ∧
    (0 < xs.length → ∃ b off, A = some ⟨b, off, none⟩ ∧ b < w.heap.size ∧ ∀ i x, xs[i]? = some x → x.length = k ∧ ∀ j u, x[j]? = some u → w.cell? ⟨b, off + i * k + j, none⟩ = some u)

theorem Sl.nil (w : World) (k : Nat) : Sl w k (.slice none 0 0) [] := ⟨none, 0, rfl, Nat.le_refl _, by decide, fun _ => rfl, fun h => absurd h (by decide)⟩

/-- .. in a world where what was there is as it was. -/
theorem Sl.below {w w' : World} {k : Nat} {v : Value} {xs : List (List Value)} (h : Sl w k v xs) (hb : Below w.heap.size w w') : Sl w' k v xs := by
  obtain ⟨A, cap, hv, hl, hm, hn, hc⟩ := h
  refine ⟨A, cap, hv, hl, hm, hn, fun h0 => ?_⟩
  obtain ⟨b, off, hA, hlt, hx⟩ := hc h0
  refine ⟨b, off, hA, Nat.lt_of_lt_of_le hlt hb.size, fun i x hi => ⟨(hx i x hi).1, fun j u hj => ?_⟩⟩
  rw [hb.cell (p := ⟨b, off + i * k + j, none⟩) hlt]
  exact (hx i x hi).2 j u hj
theorem Sl.len {w : World} {k : Nat} {A : Option Addr} {n cap : Nat} {xs : List (List Value)} (h : Sl w k (.slice A n cap) xs) : n = xs.length := by
  obtain ⟨_, _, hv, _⟩ := h; injection hv
theorem Sl.max {w : World} {k : Nat} {v : Value} {xs : List (List Value)} (h : Sl w k v xs) : xs.length ≤ maxLen := by
  obtain ⟨A, cap, _, hl, hm, _⟩ := h; omega

/-- An element of a slice that is not empty: where it stands. -/
theorem Sl.at {w : World} {k : Nat} {A : Option Addr} {n cap : Nat} {xs : List (List Value)} (h : Sl w k (.slice A n cap) xs) (hn : 0 < n) :
    ∃ b off, A = some ⟨b, off, none⟩ ∧ b < w.heap.size ∧ ∀ i x, xs[i]? = some x → x.length = k ∧ ∀ j u, x[j]? = some u → w.cell? ⟨b, off + i * k + j, none⟩ = some u := by
  obtain ⟨A', cap', hv, hl, hm, hn', hc⟩ := h
  injection hv with h1 h2 h3
  subst h1; subst h2
  exact hc hn

theorem block_add (a : Addr) (n : Nat) : (a.add n).block = a.block := by unfold Addr.add; split <;> rfl
/-- The cells of a block just made. -/
theorem news_of (w : World) (cs : List Value) (t : TypeId) : ∀ j u, cs[j]? = some u → (w.alloc (.cells cs.toArray t)).cell? ((⟨w.heap.size, 0, none⟩ : Addr).add j) = some u := by
  intro j u hj
  have hadd : (⟨w.heap.size, 0, none⟩ : Addr).add j = ⟨w.heap.size, j, none⟩ := by unfold Addr.add; split <;> simp_all
  rw [hadd, cell_of_row _ w.heap.size j cs.toArray t (0, 0) (heap_alloc_new w _)]
  simpa using hj

/-- An owned row, in a world where what was there is as it was. -/
theorem own_below {w w' : World} {base : Nat} {e : TypeId} {size : Nat} {v : Value} {n : Nat} {xs : List Value} (h : w.ownsRow base e size v n xs) (hb : Below w.heap.size w w') : w'.ownsRow base e size v n xs := by
  refine ⟨h.1, ?_⟩
  rcases h.2 with hn | ⟨g, cap, cur, rfl, hbg, hgg, rest⟩
  · exact .inl hn
  · refine .inr ⟨g, cap, cur, rfl, hbg, ?_, rest⟩
    rw [hb.block g (Array.getElem?_eq_some_iff.1 hgg).1]
    exact hgg
/-- The base of an owned row may be lowered. -/
theorem own_base {w : World} {base B : Nat} {e : TypeId} {size : Nat} {v : Value} {n : Nat} {xs : List Value} (h : w.ownsRow base e size v n xs) (hB : B ≤ base) : w.ownsRow B e size v n xs := by
  refine ⟨h.1, ?_⟩
  rcases h.2 with hn | ⟨g, cap, cur, rfl, hbg, rest⟩
  · exact .inl hn
  · exact .inr ⟨g, cap, cur, rfl, Nat.le_trans hB hbg, rest⟩

/-- An owned row of elements of one cell, read as a slice. -/
theorem own_Sl {w : World} {base : Nat} {e : TypeId} {v : Value} {xs : List Value} (h : w.ownsRow base e 1 v xs.length xs) : Sl w 1 v (xs.map fun x => [x]) := by
  rcases h.2 with ⟨rfl, hn⟩ | ⟨g, cap, cur, rfl, hbg, hgg, hnc, hcm, hcs, htake⟩
  · have : xs = [] := List.eq_nil_of_length_eq_zero hn
    subst this
    exact Sl.nil w 1
  · refine ⟨some ⟨g, 0, none⟩, cap, by rw [List.length_map], by rw [List.length_map]; exact hnc, hcm, (fun h => by cases h), fun _ => ⟨g, 0, rfl, (Array.getElem?_eq_some_iff.1 hgg).1, ?_⟩⟩
    intro i x hi
    rw [List.getElem?_map, Option.map_eq_some_iff] at hi
    obtain ⟨u, hu, rfl⟩ := hi
    refine ⟨rfl, fun j u' hj => ?_⟩
    have hj0 : j = 0 := by
      have := List.getElem?_eq_some_iff.1 hj
      obtain ⟨hl, _⟩ := this
      simp at hl; omega
    subst hj0
    simp at hj
    subst hj
    have := h.cells (g := g) rfl i u hu
    simpa [Addr.add_lit] using this

/-- A slice of integers reads as xs. -/
abbrev Ints (w : World) (v : Value) (xs : List Int) : Prop := Sl w 1 v (xs.map fun n => [Value.int .i64 n])
theorem Ints.cell {w : World} {A : Option Addr} {n cap : Nat} {xs : List Int} (h : Ints w (.slice A n cap) xs) {k : Nat} (hk : k < xs.length) :
    ∃ b off, A = some ⟨b, off, none⟩ ∧ b < w.heap.size ∧ ∀ i (hi : i < xs.length), w.cell? ⟨b, off + i, none⟩ = some (.int .i64 xs[i]) := by
  have hn := h.len
  rw [List.length_map] at hn
  obtain ⟨b, off, hA, hb, hx⟩ := Sl.at h (by omega)
  refine ⟨b, off, hA, hb, fun i hi => ?_⟩
  have := (hx i [.int .i64 xs[i]] (by simp [hi])).2 0 _ rfl
  simpa using this

/-! ### Stores into a known block -/
theorem heap_setCell {w : World} {g : Nat} {cur : Array Value} {t : TypeId} {fr : Nat × Nat} (h : w.heap[g]? = some (.cells cur t fr)) (o : Nat) (u : Value) :
    (w.setCell ⟨g, o, none⟩ u).heap[g]? = some (.cells (cur.setIfInBounds o u) t fr) := by
  have hlt := (Array.getElem?_eq_some_iff.1 h).1
  simp only [World.setCell, Array.getElem?_modify, if_true, h, Option.map_some]
  simp
theorem grown_refl (w : World) (row : Option Nat) : w.grownBy w row := ⟨rfl, rfl, rfl, Nat.le_refl _, fun _ _ _ => rfl⟩
theorem grown_below {w v u : World} {row : Option Nat} (h : w.grownBy v row) (hb : Below v.heap.size v u) : w.grownBy u row :=
  ⟨hb.os.trans h.os, hb.tape.trans h.tape, hb.output.trans h.output, Nat.le_trans h.size hb.size, fun k hk hr => (hb.block k (Nat.lt_of_lt_of_le hk h.size)).trans (h.block k hk hr)⟩
theorem grown_of_below {w v : World} (row : Option Nat) (hb : Below w.heap.size w v) : w.grownBy v row := ⟨hb.os, hb.tape, hb.output, hb.size, fun k hk _ => hb.block k hk⟩
theorem grown_setCell {w v : World} {g : Nat} (h : w.grownBy v (some g)) (o : Nat) (u : Value) : w.grownBy (v.setCell ⟨g, o, none⟩ u) (some g) :=
  ⟨h.os, h.tape, h.output, by simpa [World.setCell] using h.size, fun k hk hr => (Below.heap_setCell _ _ _ _ (fun e => hr (by rw [e]))).trans (h.block k hk hr)⟩
theorem grown_setRow {w v : World} {g : Nat} (h : w.grownBy v (some g)) (cs : Array Value) : w.grownBy (v.setRow g cs) (some g) :=
  ⟨h.os, h.tape, h.output, by simpa using h.size, fun k hk hr => (setRow_other _ _ _ _ (fun e => hr (by rw [e]))).trans (h.block k hk hr)⟩
theorem cell_blk {w : World} {g : Nat} {cur : Array Value} {t : TypeId} {fr : Nat × Nat} (h : w.heap[g]? = some (.cells cur t fr)) (o : Nat) : w.cell? ⟨g, o, none⟩ = cur[o]? := cell_of_row w g o cur t fr h
theorem frozen_blk {w : World} {g : Nat} {cur : Array Value} {t : TypeId} (h : w.heap[g]? = some (.cells cur t (0, 0))) (o : Nat) : w.frozen? ⟨g, o, none⟩ = false := by simp [World.frozen?, h]

/-- 'clear' of a piece of a known block, elements of one cell. -/
theorem run_clear_row {P : Program} (w : World) {t e ty : TypeId} {z : Value} (ht : P.underlying t = some (.slice e)) (hv : (zeroValue e).run P w = .ok z w) (hz : z.cells = #[z]) (h1 : z.oneCell' = true)
    {g o m c : Nat} {cur : Array Value} {el : TypeId} (hg : w.heap[g]? = some (.cells cur el (0, 0))) (hfit : o + m ≤ cur.size) :
    (Builtin.clear_ #[t] ty #[.slice (some ⟨g, o, none⟩) m c]).run P w = .ok (.tuple #[]) (w.setRow g (cur.toList.take o ++ List.replicate m z ++ cur.toList.drop (o + m)).toArray) := by
  cases m with
  | zero =>
    have : (w.setRow g (cur.toList.take o ++ List.replicate 0 z ++ cur.toList.drop (o + 0)).toArray) = w := by
      simp only [List.replicate_zero, List.append_nil, Nat.add_zero, List.take_append_drop, Array.toArray_toList]
      exact setRow_self w g cur el (0, 0) hg
    rw [this]
    simp [Builtin.clear_, run_underlying ht]
  | succ m =>
    have hzc : (Builtin.zeroCells #[z] (m + 1)).toList = List.replicate (m + 1) z := by
      simp [Builtin.zeroCells]
      apply List.ext_getElem
      · simp
      · intro i h1 h2
        simp [Nat.mod_one]
    have hst := run_storeCells_at P g o el (List.replicate (m + 1) z) 0 cur w hg (by simpa using hfit) (fun v hv => by rw [(List.mem_replicate.1 hv).2]; exact h1)
    simp only [Nat.add_zero, List.length_replicate] at hst
    simp [Builtin.clear_, run_underlying ht, hv, hz, hzc, hst]
end Go.Proofs.YtbjjpplhnibjdaaDoor
