/- Picked among sectors of which no two have the same wear or age: whatever order they stand in (the plain part). -/
import Derived.Test.YtbbiohgillhmnaaPick3
namespace Go.Proofs.Ytbbiohgillhmnaa
open Go.RowKit

theorem idx_mem2 (p : Info → Bool) : ∀ (l : List Info) (i : Nat) (x : Int), x ∈ idx p i l ↔ ∃ k, k < l.length ∧ x = ((i + k : Nat) : Int) ∧ p (gi l (k : Int)) = true
  | [], i, x => by simp [idx]
  | y :: l, i, x => by
    have h0 : gi (y :: l) ((0 : Nat) : Int) = y := by simp [gi]
    have hs : ∀ k : Nat, gi (y :: l) ((k + 1 : Nat) : Int) = gi l (k : Int) := fun k => by simp only [gi, Int.toNat_natCast]; rfl
    have ih := idx_mem2 p l (i + 1) x
    have key : (∃ k, k < (y :: l).length ∧ x = ((i + k : Nat) : Int) ∧ p (gi (y :: l) (k : Int)) = true) ↔ (x = (i : Int) ∧ p y = true) ∨ ∃ k, k < l.length ∧ x = ((i + 1 + k : Nat) : Int) ∧ p (gi l (k : Int)) = true := by
      constructor
      · rintro ⟨k, hk, hx, hp⟩
        cases k with
        | zero => left; rw [h0] at hp; exact ⟨by simpa using hx, hp⟩
        | succ k => right; rw [hs] at hp; exact ⟨k, by simpa using hk, by rw [hx]; congr 1; omega, hp⟩
      · rintro (⟨hx, hp⟩ | ⟨k, hk, hx, hp⟩)
        · exact ⟨0, by simp, by simpa using hx, by rw [h0]; exact hp⟩
        · exact ⟨k + 1, by simpa using hk, by rw [hx]; congr 1; omega, by rw [hs]; exact hp⟩
    rw [key, ← ih]
    show x ∈ (if p y = true then (i : Int) :: idx p (i + 1) l else idx p (i + 1) l) ↔ _
    by_cases hy : p y = true
    · rw [if_pos hy, List.mem_cons]; simp only [hy, and_true]
    · rw [if_neg hy]; simp [hy]

theorem minBy_le (key : Int → Int) : ∀ (z : List Int) (m : Int), key (minBy (fun i k => cmpI (key i) (key k)) m z) ≤ key m ∧ ∀ x ∈ z, key (minBy (fun i k => cmpI (key i) (key k)) m z) ≤ key x
  | [], m => ⟨Int.le_refl _, by simp⟩
  | y :: z, m => by
    have hlt : (cmpI (key y) (key m) < 0) ↔ key y < key m := by unfold cmpI; split <;> (try split) <;> omega
    obtain ⟨h1, h2⟩ := minBy_le key z (if cmpI (key y) (key m) < 0 then y else m)
    simp only [minBy]
    by_cases h : cmpI (key y) (key m) < 0
    · rw [if_pos h] at h1 h2 ⊢
      have := hlt.1 h
      refine ⟨by omega, fun x hx => ?_⟩
      rcases List.mem_cons.1 hx with rfl | hx
      · exact h1
      · exact h2 x hx
    · rw [if_neg h] at h1 h2 ⊢
      have : ¬ key y < key m := fun e => h (hlt.2 e)
      refine ⟨h1, fun x hx => ?_⟩
      rcases List.mem_cons.1 hx with rfl | hx
      · omega
      · exact h2 x hx
theorem minL_le2 (key : Int → Int) {z : List Int} : ∀ x ∈ z, key (minL (fun i k => cmpI (key i) (key k)) z) ≤ key x := by
  cases z with
  | nil => simp
  | cons y z =>
    intro x hx
    obtain ⟨h1, h2⟩ := minBy_le key z y
    rcases List.mem_cons.1 hx with rfl | hx
    · exact h1
    · exact h2 x hx

/-- The places xs of l and ys of m hold the same. -/
structure Same (l m : List Info) (xs ys : List Int) : Prop where
  fwd : ∀ i ∈ xs, ∃ j ∈ ys, gi l i = gi m j
  bwd : ∀ j ∈ ys, ∃ i ∈ xs, gi m j = gi l i
theorem Same.nil {l m : List Info} {xs ys : List Int} (h : Same l m xs ys) : xs = [] ↔ ys = [] := by
  constructor
  · intro e
    cases ys with
    | nil => rfl
    | cons j ys => obtain ⟨i, hi, _⟩ := h.bwd j (by simp); rw [e] at hi; simp at hi
  · intro e
    cases xs with
    | nil => rfl
    | cons i xs => obtain ⟨j, hj, _⟩ := h.fwd i (by simp); rw [e] at hj; simp at hj
theorem Same.filter {l m : List Info} {xs ys : List Int} (h : Same l m xs ys) (P : Info → Bool) : Same l m (xs.filter fun i => P (gi l i)) (ys.filter fun i => P (gi m i)) := by
  constructor
  · intro i hi
    obtain ⟨hi1, hi2⟩ := List.mem_filter.1 hi
    obtain ⟨j, hj, he⟩ := h.fwd i hi1
    exact ⟨j, List.mem_filter.2 ⟨hj, by rw [← he]; exact hi2⟩, he⟩
  · intro j hj
    obtain ⟨hj1, hj2⟩ := List.mem_filter.1 hj
    obtain ⟨i, hi, he⟩ := h.bwd j hj1
    exact ⟨i, List.mem_filter.2 ⟨hi, by rw [← he]; exact hj2⟩, he⟩
theorem Same.some {l m : List Info} {xs ys : List Int} (h : Same l m xs ys) : someB xs = someB ys := by
  cases xs with
  | nil => rw [h.nil.1 rfl]
  | cons x xs =>
    cases ys with
    | nil => have := h.nil.2 rfl; cases this
    | cons y ys => rfl

/-- No two infos of l have the same key. -/
def Uniq (key : Info → Int) (l : List Info) : Prop := ∀ i j : Nat, i < l.length → j < l.length → key (gi l (i : Int)) = key (gi l (j : Int)) → i = j
def InR (l : List Info) (xs : List Int) : Prop := ∀ x ∈ xs, ∃ k : Nat, k < l.length ∧ x = (k : Int)

theorem least_same {key : Info → Int} {l m : List Info} {xs ys : List Int} (hu : Uniq key l) (hx : InR l xs) (h : Same l m xs ys) (hne : xs ≠ []) :
    gi l (leastOf (fun x y => cmpI (key x) (key y)) l xs) = gi m (leastOf (fun x y => cmpI (key x) (key y)) m ys) := by
  have hne2 : ys ≠ [] := fun e => hne (h.nil.2 e)
  have m1 := least_mem (c := fun x y => cmpI (key x) (key y)) (l := l) hne
  have m2 := least_mem (c := fun x y => cmpI (key x) (key y)) (l := m) hne2
  have l1 : ∀ x ∈ xs, key (gi l (leastOf (fun x y => cmpI (key x) (key y)) l xs)) ≤ key (gi l x) := fun x hx => by
    unfold leastOf; rw [if_neg hne]; exact minL_le2 (fun i => key (gi l i)) x hx
  have l2 : ∀ x ∈ ys, key (gi m (leastOf (fun x y => cmpI (key x) (key y)) m ys)) ≤ key (gi m x) := fun x hx => by
    unfold leastOf; rw [if_neg hne2]; exact minL_le2 (fun i => key (gi m i)) x hx
  generalize leastOf (fun x y => cmpI (key x) (key y)) l xs = a at *
  generalize leastOf (fun x y => cmpI (key x) (key y)) m ys = b at *
  obtain ⟨i, hi, he⟩ := h.bwd b m2
  obtain ⟨j, hj, he2⟩ := h.fwd a m1
  have q1 := l1 i hi
  have q2 := l2 j hj
  rw [← he] at q1
  rw [← he2] at q2
  obtain ⟨ka, hka, rfl⟩ := hx a m1
  obtain ⟨ki, hki, rfl⟩ := hx i hi
  rw [he]
  have : ka = ki := hu ka ki hka hki (by rw [← he]; omega)
  rw [this]

/-- Turned by k. -/
def turnI (l : List Info) (k : Nat) : List Info := l.drop k ++ l.take k
theorem turnI_len (l : List Info) (k : Nat) : (turnI l k).length = l.length := by unfold turnI; rw [List.length_append, List.length_drop, List.length_take]; omega
theorem turnI_get {l : List Info} {k j : Nat} (hk : k < l.length) (hj : j < l.length) : gi (turnI l k) (j : Int) = gi l (((j + k) % l.length : Nat) : Int) := by
  unfold gi turnI
  rw [Int.toNat_natCast, Int.toNat_natCast]
  rw [List.getD_eq_getElem?_getD, List.getD_eq_getElem?_getD]
  congr 1
  by_cases h : j + k < l.length
  · rw [Nat.mod_eq_of_lt h, List.getElem?_append_left (by simp; omega), List.getElem?_drop]
    congr 1
    omega
  · have e : (j + k) % l.length = j + k - l.length := by
      rw [Nat.mod_eq_sub_mod (by omega), Nat.mod_eq_of_lt (by omega)]
    rw [e, List.getElem?_append_right (by simp; omega), List.getElem?_take, if_pos (by simp; omega)]
    congr 1
    rw [List.length_drop]
    omega
theorem turn_back {n k i : Nat} (hk : k < n) (hi : i < n) : ∃ j, j < n ∧ (j + k) % n = i := by
  by_cases h : k ≤ i
  · exact ⟨i - k, by omega, by rw [show i - k + k = i from by omega, Nat.mod_eq_of_lt hi]⟩
  · exact ⟨i + n - k, by omega, by rw [show i + n - k + k = i + n from by omega, Nat.add_mod_right, Nat.mod_eq_of_lt hi]⟩
theorem idx_same (p : Info → Bool) {l : List Info} {k : Nat} (hk : k < l.length) : Same l (turnI l k) (idx p 0 l) (idx p 0 (turnI l k)) := by
  constructor
  · intro x hx
    obtain ⟨i, hi, rfl, hp⟩ := (idx_mem2 p l 0 x).1 hx
    obtain ⟨j, hj, hji⟩ := turn_back hk hi
    have hg := turnI_get hk hj
    rw [hji] at hg
    refine ⟨(j : Int), (idx_mem2 p _ 0 _).2 ⟨j, by rw [turnI_len]; exact hj, by simp, by rw [hg]; exact hp⟩, ?_⟩
    rw [hg, Nat.zero_add]
  · intro x hx
    obtain ⟨j, hj, rfl, hp⟩ := (idx_mem2 p _ 0 x).1 hx
    rw [turnI_len] at hj
    have hg := turnI_get hk hj
    rw [hg] at hp
    refine ⟨(((j + k) % l.length : Nat) : Int), (idx_mem2 p l 0 _).2 ⟨_, Nat.mod_lt _ (by omega), by simp, hp⟩, ?_⟩
    rw [Nat.zero_add, hg]
theorem idx_in (p : Info → Bool) (l : List Info) : InR l (idx p 0 l) := fun x hx => by
  obtain ⟨i, hi, rfl, _⟩ := (idx_mem2 p l 0 x).1 hx
  exact ⟨i, hi, by simp⟩
theorem filter_in {l : List Info} {xs : List Int} (h : InR l xs) (P : Int → Bool) : InR l (xs.filter P) := fun x hx => h x (List.mem_filter.1 hx).1

/-- Back from the turned list. -/
def backI (n k : Nat) (j : Int) (ok : Bool) : Int := if ok then (((j.toNat + k) % n : Nat) : Int) else 0
theorem back_eq {key : Info → Int} {l : List Info} {k : Nat} (hk : k < l.length) (hu : Uniq key l) {xs ys : List Int} (hx : InR l xs) (hy : InR (turnI l k) ys) (h : Same l (turnI l k) xs ys) :
    backI l.length k (leastOf (fun x y => cmpI (key x) (key y)) (turnI l k) ys) (someB ys) = leastOf (fun x y => cmpI (key x) (key y)) l xs := by
  by_cases hne : xs = []
  · have := h.nil.1 hne
    subst hne; subst this
    rfl
  · have hne2 : ys ≠ [] := fun e => hne (h.nil.2 e)
    have hs := least_same hu hx h hne
    obtain ⟨a, ha, hae⟩ := hx _ (least_mem (c := fun x y => cmpI (key x) (key y)) (l := l) hne)
    obtain ⟨b, hb, hbe⟩ := hy _ (least_mem (c := fun x y => cmpI (key x) (key y)) (l := turnI l k) hne2)
    rw [hae, hbe] at hs ⊢
    rw [turnI_len] at hb
    rw [turnI_get hk hb] at hs
    have := hu a _ ha (Nat.mod_lt _ (by omega)) (congrArg key hs)
    have hsb : someB ys = true := by cases ys with | nil => exact absurd rfl hne2 | cons => rfl
    unfold backI
    rw [hsb, if_pos rfl, Int.toNat_natCast, ← this]

theorem low_same {l : List Info} {k : Nat} (hk : k < l.length) (hw : Uniq (fun x => x.wear) l) : Same l (turnI l k) (eraseLow l) (eraseLow (turnI l k)) ∧ InR l (eraseLow l) ∧ InR (turnI l k) (eraseLow (turnI l k)) := by
  have hall := idx_same canErase (l := l) hk
  have hfree := idx_same freeB (l := l) hk
  unfold eraseLow
  simp only
  have hin := idx_in canErase l
  have hin2 := idx_in canErase (turnI l k)
  by_cases hnil : idx canErase 0 l = []
  · have := hall.nil.1 hnil
    rw [hnil, this]
    simp only [List.filter_nil, if_true]
    exact ⟨⟨by simp, by simp⟩, (fun x hx => by simp at hx), (fun x hx => by simp at hx)⟩
  · have hfne : idx freeB 0 l ≠ [] := by
      obtain ⟨x, hx⟩ := List.exists_mem_of_ne_nil _ hnil
      obtain ⟨i, hi, rfl, hp⟩ := (idx_mem2 canErase l 0 x).1 hx
      have : ((0 + i : Nat) : Int) ∈ idx freeB 0 l := (idx_mem2 freeB l 0 _).2 ⟨i, hi, rfl, by unfold freeB; unfold canErase at hp; simp at hp; simp [hp]⟩
      exact List.ne_nil_of_mem this
    have e1 := least_same hw (idx_in freeB l) hfree hfne
    have e2 := least_same hw hin hall hnil
    have e1' : (gi l (leastOf cWear l (idx freeB 0 l))).wear = (gi (turnI l k) (leastOf cWear (turnI l k) (idx freeB 0 (turnI l k)))).wear := congrArg Info.wear e1
    have e2' : (gi l (leastOf cWear l (idx canErase 0 l))).wear = (gi (turnI l k) (leastOf cWear (turnI l k) (idx canErase 0 (turnI l k)))).wear := congrArg Info.wear e2
    rw [← e1', ← e2']
    generalize (gi l (leastOf cWear l (idx freeB 0 l))).wear = wf
    generalize (gi l (leastOf cWear l (idx canErase 0 l))).wear = ww
    have hnear := hall.filter (fun x => !aheadB x.wear wf)
    have hworn := hall.filter (fun x => !decide (ww < x.wear))
    have hnn := hnear.filter (fun x => !(!noNeed x))
    by_cases h1 : (idx canErase 0 l).filter (fun i => !aheadB (gi l i).wear wf) = []
    · rw [if_pos h1, if_pos (hnear.nil.1 h1)]
      exact ⟨hworn, filter_in hin _, filter_in hin2 _⟩
    · rw [if_neg h1, if_neg (fun e => h1 (hnear.nil.2 e))]
      by_cases h2 : ((idx canErase 0 l).filter (fun i => !aheadB (gi l i).wear wf)).filter (fun i => !(!noNeed (gi l i))) = []
      · rw [if_pos h2, if_pos (hnn.nil.1 h2)]
        exact ⟨hnear, filter_in hin _, filter_in hin2 _⟩
      · rw [if_neg h2, if_neg (fun e => h2 (hnn.nil.2 e))]
        exact ⟨hnn, filter_in (filter_in hin _) _, filter_in (filter_in hin2 _) _⟩
end Go.Proofs.Ytbbiohgillhmnaa
