/- Numbers and texts read from bytes, and put back (the plain part). -/
import Derived.Test.YtbjjpplhnibjdaaDoorPackP
namespace Go.Proofs.YtbjjpplhnibjdaaDoor
open Go.RowKit

/-- A number of n bytes at a: the number, behind it, the error. -/
def pGet (l : List Nat) (a n : Nat) : Nat × Nat × Nat := if l.length < a + n then (0, 0, 3) else (beVal ((l.drop a).take n), a + n, 0)
/-- A text at a. -/
def pText (l : List Nat) (a most : Nat) : List Nat × Nat × Nat :=
  if l.length < a + 1 then ([], 0, 3) else if most < l.getD a 0 then ([], 0, 4) else if l.length < a + 1 + l.getD a 0 then ([], 0, 3) else ((l.drop (a + 1)).take (l.getD a 0), a + 1 + l.getD a 0, 0)

theorem pGet_back {l : List Nat} (hl : ∀ b ∈ l, b < 256) {a n x e : Nat} (h : pGet l a n = (x, e, 0)) : e = a + n ∧ e ≤ l.length ∧ l.drop a = be n x ++ l.drop e := by
  unfold pGet at h
  split at h
  · simp at h
  · rename_i hlt
    simp only [Prod.mk.injEq, and_true] at h
    obtain ⟨rfl, rfl⟩ := h
    refine ⟨rfl, by omega, ?_⟩
    have hk : ((l.drop a).take n).length = n := by rw [List.length_take, List.length_drop]; omega
    have := be_beVal ((l.drop a).take n) (fun b hb => hl b (List.mem_of_mem_drop (List.mem_of_mem_take hb)))
    rw [hk] at this
    rw [this, ← List.drop_drop, List.take_append_drop]
theorem pGet_put {l r : List Nat} {a n x : Nat} (h : l.drop a = be n x ++ r) (ha : a ≤ l.length) (hx : x < 256 ^ n) : pGet l a n = (x, a + n, 0) ∧ l.drop (a + n) = r ∧ a + n ≤ l.length := by
  have hlen := congrArg List.length h
  rw [List.length_drop, List.length_append, be_len] at hlen
  unfold pGet
  rw [if_neg (by omega), h, List.take_left' (be_len n x), beVal_be, Nat.mod_eq_of_lt hx]
  refine ⟨rfl, ?_, by omega⟩
  rw [← List.drop_drop, h, List.drop_left' (be_len n x)]
theorem pText_back {l t : List Nat} {a most e : Nat} (h : pText l a most = (t, e, 0)) : e = a + 1 + t.length ∧ e ≤ l.length ∧ t.length ≤ most ∧ l.drop a = t.length :: (t ++ l.drop e) := by
  unfold pText at h
  split at h
  · simp at h
  · rename_i h1
    split at h
    · simp at h
    · rename_i h2
      split at h
      · simp at h
      · rename_i h3
        simp only [Prod.mk.injEq, and_true] at h
        obtain ⟨rfl, rfl⟩ := h
        have hk : ((l.drop (a + 1)).take (l.getD a 0)).length = l.getD a 0 := by rw [List.length_take, List.length_drop]; omega
        have hg : l.getD a 0 = l[a] := by rw [List.getD_eq_getElem?_getD, List.getElem?_eq_getElem (by omega)]; rfl
        refine ⟨by rw [hk], by omega, by rw [hk]; omega, ?_⟩
        have hd : l.drop (a + 1 + l.getD a 0) = (l.drop (a + 1)).drop (l.getD a 0) := List.drop_drop.symm
        rw [hk, hd, List.take_append_drop, hg]
        exact List.drop_eq_getElem_cons (by omega)
theorem pText_put {l t r : List Nat} {a most : Nat} (h : l.drop a = t.length :: (t ++ r)) (ha : a ≤ l.length) (ht : t.length ≤ most) : pText l a most = (t, a + 1 + t.length, 0) ∧ l.drop (a + 1 + t.length) = r ∧ a + 1 + t.length ≤ l.length := by
  have hlen := congrArg List.length h
  rw [List.length_drop, List.length_cons, List.length_append] at hlen
  have hlt : a < l.length := by omega
  have h1 : l[a] :: l.drop (a + 1) = t.length :: (t ++ r) := by rw [← h]; exact (List.drop_eq_getElem_cons hlt).symm
  injection h1 with h2 h3
  have hg : l.getD a 0 = t.length := by rw [List.getD_eq_getElem?_getD, List.getElem?_eq_getElem hlt]; exact h2
  unfold pText
  rw [hg, if_neg (by omega), if_neg (by omega), if_neg (by omega), h3, List.take_left' rfl]
  refine ⟨rfl, ?_, by omega⟩
  have hd : l.drop (a + 1 + t.length) = (l.drop (a + 1)).drop t.length := List.drop_drop.symm
  rw [hd, h3, List.drop_left' rfl]
end Go.Proofs.YtbjjpplhnibjdaaDoor
