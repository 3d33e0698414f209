/- What an argument is, out of its reading: arrays. -/
import Derived.Test.YteieaelinkdahaaBase
import Derived.ProofKit
import Derived.OpenShut
import Derived.Deep.Slices
namespace Go.Proofs.Yteieaelinkdahaa.Base
open Go Go.RowKit

section
variable {H : Type} {enc : TypeId × Value → H} {P : Program} {w : World} {base : Nat} {spare : Nat → Bool} {held : Bool}

theorem mapM_some {α β : Type} {f : α → Option β} : ∀ {l : List α} {r : List β}, l.mapM f = some r → ∀ x ∈ l, ∃ y, f x = some y
  | [], _, _, _, h => by simp at h
  | a :: l, r, h, x, hx => by
    simp only [List.mapM_cons, Option.bind_eq_bind, Option.bind_eq_some_iff] at h
    obtain ⟨y, hy, ys, hys, _⟩ := h
    rcases List.mem_cons.1 hx with rfl | hx
    · exact ⟨y, hy⟩
    · exact mapM_some hys x hx

/-- An array that came in: its cells, one element each, are readings of the element's type. -/
theorem trod_array {t e : TypeId} {n fuel : Nat} {cs : List Value} {x : DataW H × List MemPlace} (ht : P.underlying t = some (.array n e)) (hce : P.cellsOf e = 1) (hct : P.cellsOf t = n)
    (h : DataW.trod enc P w base spare held fuel t cs = some x) : cs.length = n ∧ ∃ m, ∀ i, i < n → ∃ c y, cs[i]? = some c ∧ DataW.trod enc P w base spare held m e [c] = some y := by
  cases fuel with
  | zero => simp [DataW.trod] at h
  | succ m =>
    unfold DataW.trod at h
    rw [ht] at h
    simp only [hct, hce, Nat.mul_one] at h
    split at h
    · rename_i hl
      refine ⟨hl, m, fun i hi => ?_⟩
      rw [Option.map_eq_some_iff] at h
      obtain ⟨r, hr, _⟩ := h
      obtain ⟨y, hy⟩ := mapM_some hr i (List.mem_range.2 hi)
      refine ⟨cs[i]'(by omega), y, by simp [show i < cs.length from by omega], ?_⟩
      rw [← hy, List.drop_eq_getElem_cons (by omega), List.take_succ_cons, List.take_zero]
    · cases h

/-- An array of integers that came in. -/
theorem open_array_ints {r : Reach} {b0 : Nat} {t e : TypeId} {n : Nat} {k : IntKind} {v : Value} {d : DataW H} {ps : List MemPlace} (ht : P.underlying t = some (.array n e)) (he : P.underlying e = some (.int k)) (hce : P.cellsOf e = 1) (hct : P.cellsOf t = n)
    (hval : Value.okWide P w r b0 t v) (hd : DataW.Trod enc P w base spare held t v d ps) :
    ∃ xs : List Int, v = .agg (xs.map (Value.int k)).toArray ∧ xs.length = n ∧ ∀ x ∈ xs, (Lit.int k x).wf = true := by
  unfold Value.okWide at hval
  rw [ht] at hval
  obtain ⟨cs, rfl, _, _⟩ := hval
  obtain ⟨fuel, h⟩ := hd
  obtain ⟨hl, m, hi⟩ := trod_array ht hce hct h
  simp only [Value.cells] at hl hi
  have hx : ∀ i, i < n → ∃ z, cs.toList[i]? = some (.int k z) ∧ (Lit.int k z).wf = true := by
    intro i h
    obtain ⟨c, y, hc, hy⟩ := hi i h
    obtain ⟨z, hz, _, hw⟩ := DataW.trod_int he hy
    cases hz
    exact ⟨z, hc, hw⟩
  have key : ∀ l : List Value, (∀ i, i < l.length → ∃ z, l[i]? = some (.int k z) ∧ (Lit.int k z).wf = true) → ∃ xs : List Int, l = xs.map (Value.int k) ∧ ∀ x ∈ xs, (Lit.int k x).wf = true := by
    intro l
    induction l with
    | nil => intro _; exact ⟨[], rfl, by simp⟩
    | cons c l ih =>
      intro g
      obtain ⟨z, hz, hw⟩ := g 0 (by simp)
      obtain ⟨xs, rfl, hxs⟩ := ih (fun i hi => by
        obtain ⟨z, hz, hw⟩ := g (i + 1) (by simp; omega)
        exact ⟨z, by simpa using hz, hw⟩)
      simp at hz
      subst hz
      exact ⟨z :: xs, by simp, by simp [hw]; exact fun x hx => hxs x hx⟩
  obtain ⟨xs, h1, h2⟩ := key cs.toList (fun i h => hx i (by omega))
  refine ⟨xs, ?_, ?_, h2⟩
  · congr 1
    exact Array.toList_inj.1 (by simpa using h1)
  · rw [← hl, h1]; simp
end
end Go.Proofs.Yteieaelinkdahaa.Base
