/- PickRound: sectors written and erased as picked differ by little in their wear. -/
import Derived.Test.YtbbiohgillhmnaaPickL
import Derived.Test.YtbbiohgillhmnaaRow
namespace Go.Proofs.Ytbbiohgillhmnaa
open Go.ChangeShapes Go.WideShapes Go.ChangeAt Go.RowKit

/-- A block of one's own that holds these. -/
def OwnInfos (W : World) (g : Nat) (l : List Info) : Prop :=
  ∃ cur : Array Value, W.heap[g]? = some (.cells cur 53 (0, 0)) ∧ cur.size = l.length * 6 ∧ ∀ k, k < l.length → ∀ q u, (gi l k).row[q]? = some u → cur[k * 6 + q]? = some u
theorem OwnInfos.lt {W : World} {g : Nat} {l : List Info} (h : OwnInfos W g l) : g < W.heap.size := by
  obtain ⟨cur, hg, _⟩ := h; exact (Array.getElem?_eq_some_iff.1 hg).1
theorem OwnInfos.cell {W : World} {g : Nat} {l : List Info} (h : OwnInfos W g l) {k : Nat} (hk : k < l.length) {q : Nat} {u : Value} (hq : (gi l k).row[q]? = some u) : W.cell? ⟨g, k * 6 + q, none⟩ = some u ∧ W.frozen? ⟨g, k * 6 + q, none⟩ = false := by
  obtain ⟨cur, hg, _, hc⟩ := h
  exact ⟨by rw [cell_blk hg]; exact hc k hk q u hq, frozen_blk hg _⟩
theorem OwnInfos.infos {W : World} {g : Nat} {l : List Info} (h : OwnInfos W g l) (hm : l.length ≤ maxLen) : Infos W (.slice (some ⟨g, 0, none⟩) l.length l.length) l := by
  refine ⟨some ⟨g, 0, none⟩, l.length, by rw [List.length_map], by rw [List.length_map]; exact Nat.le_refl _, hm, (fun h => by cases h), fun _ => ⟨g, 0, rfl, h.lt, fun i x hix => ?_⟩⟩
  rw [List.getElem?_map, Option.map_eq_some_iff] at hix
  obtain ⟨u, hu, rfl⟩ := hix
  obtain ⟨hil, rfl⟩ := List.getElem?_eq_some_iff.1 hu
  refine ⟨rfl, fun j v hj => ?_⟩
  rw [Nat.zero_add]
  exact (h.cell hil (by rw [gi_of hil]; exact hj)).1
theorem OwnInfos.below {W V : World} {g : Nat} {l : List Info} (h : OwnInfos W g l) (hb : Below W.heap.size W V) : OwnInfos V g l := by
  obtain ⟨cur, hg, hs, hc⟩ := h
  exact ⟨cur, by rw [hb.block g (Array.getElem?_eq_some_iff.1 hg).1]; exact hg, hs, hc⟩
theorem gi_set {l : List Info} {k j : Nat} {x : Info} (hk : k < l.length) : gi (l.set k x) j = if j = k then x else gi l j := by
  unfold gi
  simp only [Int.toNat_natCast, List.getD_eq_getElem?_getD, List.getElem?_set]
  by_cases h : j = k
  · subst h; simp [hk]
  · simp [h, Ne.symm h]
theorem OwnInfos.set {W : World} {g : Nat} {l : List Info} (h : OwnInfos W g l) {k : Nat} (hk : k < l.length) (x : Info) (q : Nat) (u : Value) (hq : q < 6) (hx : ∀ p, x.row[p]? = if p = q then some u else (gi l k).row[p]?) :
    OwnInfos (W.setCell ⟨g, k * 6 + q, none⟩ u) g (l.set k x) := by
  obtain ⟨cur, hg, hs, hc⟩ := h
  refine ⟨_, heap_setCell hg _ _, by simpa using hs, fun j hj p v hp => ?_⟩
  rw [List.length_set] at hj
  rw [gi_set hk] at hp
  have hp6 : p < 6 := by
    have := (List.getElem?_eq_some_iff.1 hp).1
    split at this <;> simpa using this
  have hin : k * 6 + q < cur.size := by omega
  by_cases hjk : j = k
  · subst hjk
    rw [if_pos rfl, hx p] at hp
    by_cases hpq : p = q
    · subst hpq
      rw [if_pos rfl] at hp
      rw [Array.getElem?_setIfInBounds_self_of_lt hin]; exact hp
    · rw [if_neg hpq] at hp
      rw [Array.getElem?_setIfInBounds_ne (by omega)]
      exact hc j hj p v hp
  · rw [if_neg hjk] at hp
    rw [Array.getElem?_setIfInBounds_ne (by omega)]
    exact hc j hj p v hp

/-- What holds of the sectors behind t turns. -/
structure Good (N : Nat) (t : Nat) (l : List Info) : Prop where
  len : l.length = N
  cls : ∀ k : Nat, k < N → (gi l k).cls = 0 ∨ (gi l k).cls = 1
  opn : ∀ k : Nat, k < N → (gi l k).isOpen = false
  need : ∀ k : Nat, k < N → (gi l k).need = 0
  held : ∀ k : Nat, k < N → (gi l k).held = false
  low : ∀ k : Nat, k < N → 0 ≤ (gi l k).wear
  high : ∀ k : Nat, k < N → (gi l k).wear ≤ t
  near : ∀ i j : Nat, i < N → j < N → (gi l i).wear ≤ (gi l j).wear + 4

theorem mem_gi {l : List Info} {x : Info} (h : x ∈ l) : ∃ k : Nat, k < l.length ∧ gi l k = x := by
  obtain ⟨k, hk, rfl⟩ := List.mem_iff_getElem.1 h
  exact ⟨k, hk, gi_of hk⟩
theorem Good.mild {N t : Nat} {l : List Info} (h : Good N t l) (ht : t ≤ 400) : Mild l := by
  intro x hx
  obtain ⟨k, hk, rfl⟩ := mem_gi hx
  rw [h.len] at hk
  have := h.low k hk
  have := h.high k hk
  omega

theorem idx_mem (p : Info → Bool) (l : List Info) : ∀ n, n ≤ l.length → ∀ i ∈ idx p 0 (l.take n), p (gi l i) = true
  | 0, _, i, hi => by simp [idx] at hi
  | n + 1, hn, i, hi => by
    have hlt : n < l.length := by omega
    rw [idx_take p l hlt, List.mem_append] at hi
    rcases hi with hi | hi
    · exact idx_mem p l n (by omega) i hi
    · split at hi
      · rename_i h
        simp at hi
        subst hi
        rw [gi_of hlt]; exact h
      · simp at hi
theorem idx_mem_all (p : Info → Bool) (l : List Info) : ∀ i ∈ idx p 0 l, p (gi l i) = true := by
  have := idx_mem p l l.length (Nat.le_refl _)
  rwa [List.take_length] at this
theorem idx_has (p : Info → Bool) (l : List Info) : ∀ n, n ≤ l.length → ∀ k : Nat, k < n → p (gi l k) = true → (k : Int) ∈ idx p 0 (l.take n)
  | 0, _, k, hk, _ => by omega
  | n + 1, hn, k, hk, hp => by
    have hlt : n < l.length := by omega
    rw [idx_take p l hlt, List.mem_append]
    by_cases h : k = n
    · subst h
      rw [gi_of hlt] at hp
      right; rw [if_pos hp]; simp
    · exact .inl (idx_has p l n (by omega) k (by omega) hp)
theorem idx_has_all (p : Info → Bool) (l : List Info) : ∀ k : Nat, k < l.length → p (gi l k) = true → (k : Int) ∈ idx p 0 l := by
  have := idx_has p l l.length (Nat.le_refl _)
  rwa [List.take_length] at this

theorem Good.write {N t : Nat} {l : List Info} (h : Good N t l) {s : Nat} (hs : s < N) (a : Int) : Good N (t + 1) (l.set s { gi l s with cls := 1, age := a }) := by
  have hk : s < l.length := by rw [h.len]; exact hs
  refine ⟨by rw [List.length_set]; exact h.len, ?_, ?_, ?_, ?_, ?_, ?_, ?_⟩
  · intro k hk2; rw [gi_set hk]; split
    · exact .inr rfl
    · exact h.cls k hk2
  · intro k hk2; rw [gi_set hk]; split
    · exact h.opn s hs
    · exact h.opn k hk2
  · intro k hk2; rw [gi_set hk]; split
    · exact h.need s hs
    · exact h.need k hk2
  · intro k hk2; rw [gi_set hk]; split
    · exact h.held s hs
    · exact h.held k hk2
  · intro k hk2; rw [gi_set hk]; split
    · exact h.low s hs
    · exact h.low k hk2
  · intro k hk2; rw [gi_set hk]
    have h1 := h.high s hs
    have h2 := h.high k hk2
    split
    · show (gi l s).wear ≤ _; push_cast; omega
    · push_cast; omega
  · intro i j hi hj; rw [gi_set hk, gi_set hk]
    have h1 := h.near s s hs hs
    have h2 := h.near s j hs hj
    have h3 := h.near i s hi hs
    have h4 := h.near i j hi hj
    split <;> split <;> assumption

theorem Good.erase {N t : Nat} {l : List Info} (h : Good N t l) {s : Nat} (hs : s < N) (hne : ∀ j : Nat, j < N → (gi l s).wear < (gi l j).wear + 4) (a : Int) : Good N (t + 1) (l.set s { gi l s with cls := 1, age := a, wear := (gi l s).wear + 1 }) := by
  have hk : s < l.length := by rw [h.len]; exact hs
  refine ⟨by rw [List.length_set]; exact h.len, ?_, ?_, ?_, ?_, ?_, ?_, ?_⟩
  · intro k hk2; rw [gi_set hk]; split
    · exact .inr rfl
    · exact h.cls k hk2
  · intro k hk2; rw [gi_set hk]; split
    · exact h.opn s hs
    · exact h.opn k hk2
  · intro k hk2; rw [gi_set hk]; split
    · exact h.need s hs
    · exact h.need k hk2
  · intro k hk2; rw [gi_set hk]; split
    · exact h.held s hs
    · exact h.held k hk2
  · intro k hk2; rw [gi_set hk]; split
    · have := h.low s hs; show 0 ≤ (gi l s).wear + 1; omega
    · exact h.low k hk2
  · intro k hk2; rw [gi_set hk]
    have h1 := h.high s hs
    have h2 := h.high k hk2
    split
    · show (gi l s).wear + 1 ≤ _; push_cast; omega
    · push_cast; omega
  · intro i j hi hj; rw [gi_set hk, gi_set hk]
    have h2 := hne j hj
    have h3 := h.near i s hi hs
    have h4 := h.near i j hi hj
    split <;> split
    · show (gi l s).wear + 1 ≤ (gi l s).wear + 1 + 4; omega
    · show (gi l s).wear + 1 ≤ _; omega
    · show _ ≤ (gi l s).wear + 1 + 4; omega
    · exact h4

/-- With no blank one left there is one to erase, and its wear isn't ahead. -/
theorem Good.pick {N t : Nat} {l : List Info} (h : Good N t l) (hN : 0 < N) (hb : idx canBlank 0 l = []) : eraseOk l = true ∧ ∃ s : Nat, eraseIx l = s ∧ s < N ∧ ∀ j : Nat, j < N → (gi l s).wear < (gi l j).wear + 4 := by
  have hlen := h.len
  have hcan : ∀ k : Nat, k < l.length → canErase (gi l k) = true := by
    intro k hk
    have hk2 : k < N := by rw [← hlen]; exact hk
    have hnb : canBlank (gi l k) = false := by
      cases hc : canBlank (gi l k)
      · rfl
      · have := idx_has_all canBlank l k hk hc
        rw [hb] at this; simp at this
    unfold canBlank at hnb
    unfold canErase
    rw [h.held k hk2] at hnb ⊢
    rw [h.opn k hk2]
    simpa using hnb
  have hE : idx canErase 0 l ≠ [] := by
    intro he
    have := idx_has_all canErase l 0 (by omega) (hcan 0 (by omega))
    rw [he] at this; simp at this
  have hF : idx freeB 0 l ≠ [] := by
    intro he
    have := idx_has_all freeB l 0 (by omega) (by unfold freeB; rw [h.held 0 hN]; rfl)
    rw [he] at this; simp at this
  have hfm := least_mem (c := cWear) (l := l) hF
  have hfr := idx_range freeB l 0 _ hfm
  have hfirst : ∀ j : Nat, j < N → (gi l (leastOf cWear l (idx freeB 0 l))).wear ≤ (gi l j).wear := by
    intro j hj
    have hm := idx_has_all freeB l j (by omega) (by unfold freeB; rw [h.held j hj]; rfl)
    have := minL_le (fun i => (gi l i).wear) (idx freeB 0 l) j hm
    have e1 : leastOf cWear l (idx freeB 0 l) = minL (fun i k => cmpI (gi l i).wear (gi l k).wear) (idx freeB 0 l) := if_neg hF
    rw [e1]; exact this
  obtain ⟨f, hf⟩ : ∃ f : Nat, leastOf cWear l (idx freeB 0 l) = f := ⟨(leastOf cWear l (idx freeB 0 l)).toNat, by omega⟩
  rw [hf] at hfirst hfr
  have hfN : f < N := by omega
  have hnear : (idx canErase 0 l).filter (fun i => !aheadB (gi l i).wear (gi l (leastOf cWear l (idx freeB 0 l))).wear) ≠ [] := by
    intro he
    have := List.filter_eq_nil_iff.1 he f (idx_has_all canErase l f (by omega) (hcan f (by omega)))
    rw [hf] at this
    simp [aheadB] at this
    omega
  have hlowsub : eraseLow l ≠ [] ∧ ∀ i ∈ eraseLow l, i ∈ (idx canErase 0 l).filter (fun i => !aheadB (gi l i).wear (gi l (leastOf cWear l (idx freeB 0 l))).wear) := by
    unfold eraseLow
    simp only [if_neg hnear]
    split
    · exact ⟨hnear, fun i hi => hi⟩
    · rename_i hz
      exact ⟨hz, fun i hi => (List.mem_filter.1 hi).1⟩
  have hix : eraseIx l = leastOf cAge l (eraseLow l) := if_neg hE
  have hsm := hlowsub.2 _ (least_mem (c := cAge) (l := l) hlowsub.1)
  rw [← hix] at hsm
  obtain ⟨hs1, hs2⟩ := List.mem_filter.1 hsm
  have hsr := idx_range canErase l 0 _ hs1
  refine ⟨?_, (eraseIx l).toNat, by omega, by omega, fun j hj => ?_⟩
  · unfold eraseOk
    have a1 : someB (idx canErase 0 l) = true := by cases hh : idx canErase 0 l with | nil => exact absurd hh hE | cons _ _ => rfl
    have a2 : someB (eraseLow l) = true := by cases hh : eraseLow l with | nil => exact absurd hh hlowsub.1 | cons _ _ => rfl
    rw [a1, a2]; rfl
  · rw [hf] at hs2
    have h3 := hfirst j hj
    rw [show (((eraseIx l).toNat : Nat) : Int) = eraseIx l from by omega]
    simp [aheadB] at hs2
    omega

theorem Good.lead {N t : Nat} {l : List Info} (h : Good N t l) (hN : 0 < N) : leadOf l ≤ 4 := by
  unfold leadOf
  rw [if_neg (by have := h.len; omega)]
  have h1 := bestBy_le (fun x y => decide (cWear x y > 0)) l (l.length - 1)
  have h2 := bestBy_le (fun x y => decide (cWear x y < 0)) l (l.length - 1)
  have hl := h.len
  have := h.near (bestBy (fun x y => decide (cWear x y > 0)) l (l.length - 1)) (bestBy (fun x y => decide (cWear x y < 0)) l (l.length - 1)) (by omega) (by omega)
  omega
theorem Good.new (N : Nat) : Good N 0 (List.replicate N ⟨0, false, 0, 0, 0, false⟩) := by
  have hg : ∀ k : Nat, gi (List.replicate N ⟨0, false, 0, 0, 0, false⟩) k = ⟨0, false, 0, 0, 0, false⟩ := by
    intro k
    unfold gi
    simp only [Int.toNat_natCast, List.getD_eq_getElem?_getD, List.getElem?_replicate]
    split <;> rfl
  refine ⟨by simp, ?_, ?_, ?_, ?_, ?_, ?_, ?_⟩
  all_goals intros
  all_goals simp only [hg]
  all_goals first | (left; rfl) | rfl | omega | decide
end Go.Proofs.Ytbbiohgillhmnaa
