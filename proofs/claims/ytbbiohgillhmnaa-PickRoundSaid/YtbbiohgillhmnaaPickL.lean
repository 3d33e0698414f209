/- The plain laws of layer 11: what the functions compute is what the reference's loops compute. -/
import Derived.Test.YtbbiohgillhmnaaPickOnes
namespace Go.Proofs.Ytbbiohgillhmnaa

theorem gi_take {l : List Info} {k : Nat} (hk : k < l.length) : l[k] = gi l k := (gi_of hk).symm

theorem minL_snoc (c : Int → Int → Int) (x : Int) {xs : List Int} (h : xs ≠ []) : minL c (xs ++ [x]) = if c x (minL c xs) < 0 then x else minL c xs := by
  cases xs with
  | nil => exact absurd rfl h
  | cons y ys => exact minBy_snoc c ys y x

/-- The reference's loop and the first least of those that are so. -/
theorem rb_least (p : Info → Bool) (lt : Info → Info → Bool) (c : Info → Info → Int) (hc : ∀ x y, c x y < 0 ↔ lt x y = true) (l : List Info) :
    ∀ k, k ≤ l.length → rb p lt l k = if idx p 0 (l.take k) = [] then -1 else leastOf c l (idx p 0 (l.take k))
  | 0, _ => rfl
  | k + 1, hk => by
    have ih := rb_least p lt c hc l k (by omega)
    have hlt : k < l.length := by omega
    rw [idx_take p l hlt, gi_take hlt]
    show (if p (gi l k) && (decide (rb p lt l k < 0) || lt (gi l k) (gi l (rb p lt l k))) then (k : Int) else rb p lt l k) = _
    have hr : ∀ x ∈ idx p 0 (l.take k), 0 ≤ x := fun x hx => by have := idx_range p (l.take k) 0 x hx; omega
    generalize idx p 0 (l.take k) = xs at *
    cases hp : p (gi l k)
    · simpa using ih
    · by_cases hx : xs = []
      · rw [hx] at ih ⊢
        have : rb p lt l k = -1 := by simpa using ih
        rw [this]
        simp [leastOf, minL, minBy]
      · rw [if_neg hx] at ih
        have hmem := least_mem (c := c) (l := l) hx
        have h0 : 0 ≤ leastOf c l xs := hr _ hmem
        rw [ih]
        have hne : ¬ leastOf c l xs < 0 := by omega
        have happ : leastOf c l (xs ++ [(k : Int)]) = if c (gi l k) (gi l (leastOf c l xs)) < 0 then (k : Int) else leastOf c l xs := by
          have e1 : leastOf c l xs = minL (fun i k => c (gi l i) (gi l k)) xs := if_neg hx
          have e2 : leastOf c l (xs ++ [(k : Int)]) = minL (fun i k => c (gi l i) (gi l k)) (xs ++ [(k : Int)]) := if_neg (by simp)
          rw [e1, e2, minL_snoc _ _ hx]
        simp only [if_true, if_neg (show ¬ xs ++ [(k : Int)] = [] by simp), happ, Bool.true_and, decide_eq_false hne, Bool.false_or]
        by_cases hq : c (gi l k) (gi l (leastOf c l xs)) < 0
        · rw [if_pos hq, if_pos ((hc _ _).1 hq)]
        · rw [if_neg hq, if_neg (fun h => hq ((hc _ _).2 h))]

theorem rb_all (p : Info → Bool) (lt : Info → Info → Bool) (c : Info → Info → Int) (hc : ∀ x y, c x y < 0 ↔ lt x y = true) (l : List Info) :
    rb p lt l l.length = if idx p 0 l = [] then -1 else leastOf c l (idx p 0 l) := by
  have := rb_least p lt c hc l l.length (Nat.le_refl _)
  rwa [List.take_length] at this

theorem isB_least (p : Info → Bool) (lt : Info → Info → Bool) (c : Info → Info → Int) (hc : ∀ x y, c x y < 0 ↔ lt x y = true) (l : List Info) :
    isB (leastOf c l (idx p 0 l)) (someB (idx p 0 l)) (rb p lt l l.length) = true := by
  rw [rb_all p lt c hc l]
  have hr : ∀ x ∈ idx p 0 l, 0 ≤ x := fun x hx => by have := idx_range p l 0 x hx; omega
  generalize idx p 0 l = xs at *
  by_cases hx : xs = []
  · subst hx; simp [isB, someB, leastOf]
  · have h0 := hr _ (least_mem (c := c) (l := l) hx)
    rw [if_neg hx]
    have hs : someB xs = true := by cases xs with | nil => exact absurd rfl hx | cons _ _ => rfl
    rw [hs]
    simp [isB, h0]

theorem cWear_lt (x y : Info) : cWear x y < 0 ↔ ltWear x y = true := by
  unfold cWear ltWear cmpI
  simp only [decide_eq_true_eq]
  repeat' split
  all_goals omega
theorem cWear_less (x y : Info) : cWear x y < 0 ↔ x.wear < y.wear := by
  rw [cWear_lt]; unfold ltWear; exact decide_eq_true_iff
theorem cAge_lt (x y : Info) : cAge x y < 0 ↔ ltAge x y = true := by
  unfold cAge ltAge cmpI
  simp only [decide_eq_true_eq]
  repeat' split
  all_goals omega

theorem blanks_idx (l : List Info) : ∀ k, k ≤ l.length → (idx canBlank 0 (l.take k)).length = blanks l k
  | 0, _ => rfl
  | k + 1, hk => by
    have hlt : k < l.length := by omega
    rw [idx_take canBlank l hlt, gi_take hlt, List.length_append, blanks_idx l k (by omega)]
    show _ = if canBlank (gi l k) then blanks l k + 1 else blanks l k
    split <;> simp

theorem lows_best (l : List Info) : ∀ k, lows l (k + 1) = (gi l (bestBy (fun x y => decide (cWear x y < 0)) l k : Nat)).wear
  | 0 => by simp [lows, bestBy]
  | k + 1 => by
    show (if k + 1 = 0 ∨ (gi l (k + 1 : Nat)).wear < lows l (k + 1) then (gi l (k + 1 : Nat)).wear else lows l (k + 1)) = _
    rw [lows_best l k]
    show _ = (gi l ((if decide (cWear (gi l (k + 1 : Nat)) (gi l (bestBy (fun x y => decide (cWear x y < 0)) l k : Nat)) < 0) then k + 1 else bestBy (fun x y => decide (cWear x y < 0)) l k : Nat))).wear
    generalize bestBy (fun x y => decide (cWear x y < 0)) l k = m
    by_cases h : (gi l (k + 1 : Nat)).wear < (gi l m).wear
    · rw [if_pos (.inr h), if_pos (by simpa [ltWear] using (cWear_lt _ _).2 (by simpa [ltWear] using h))]
    · rw [if_neg (by intro hh; rcases hh with hh | hh; omega; exact h hh), if_neg (by intro hh; exact h ((cWear_less _ _).1 (of_decide_eq_true hh)))]
theorem cWear_gt (x y : Info) : cWear x y > 0 ↔ y.wear < x.wear := by
  unfold cWear cmpI
  repeat' split
  all_goals omega
theorem highs_best (l : List Info) : ∀ k, highs l (k + 1) = (gi l (bestBy (fun x y => decide (cWear x y > 0)) l k : Nat)).wear
  | 0 => by simp [highs, bestBy]
  | k + 1 => by
    show (if k + 1 = 0 ∨ (gi l (k + 1 : Nat)).wear > highs l (k + 1) then (gi l (k + 1 : Nat)).wear else highs l (k + 1)) = _
    rw [highs_best l k]
    show _ = (gi l ((if decide (cWear (gi l (k + 1 : Nat)) (gi l (bestBy (fun x y => decide (cWear x y > 0)) l k : Nat)) > 0) then k + 1 else bestBy (fun x y => decide (cWear x y > 0)) l k : Nat))).wear
    generalize bestBy (fun x y => decide (cWear x y > 0)) l k = m
    by_cases h : (gi l (k + 1 : Nat)).wear > (gi l m).wear
    · rw [if_pos (.inr h), if_pos (decide_eq_true ((cWear_gt _ _).2 h))]
    · rw [if_neg (by intro hh; rcases hh with hh | hh; omega; exact h hh), if_neg (by intro hh; exact h ((cWear_gt _ _).1 (of_decide_eq_true hh)))]
theorem lead_plain (l : List Info) : leadOf l = highs l l.length - lows l l.length := by
  unfold leadOf
  by_cases h : l.length = 0
  · rw [if_pos h, h]; rfl
  · rw [if_neg h]
    obtain ⟨k, hk⟩ : ∃ k, l.length = k + 1 := ⟨l.length - 1, by omega⟩
    rw [hk, Nat.add_sub_cancel, lows_best, highs_best]

/-! ### Erase -/
theorem snoc_ind {P : List Int → Prop} (h0 : P []) (h : ∀ ys x, P ys → P (ys ++ [x])) : ∀ xs, P xs := by
  have key : ∀ rs : List Int, P rs.reverse := by
    intro rs
    induction rs with
    | nil => exact h0
    | cons x rs ih => rw [List.reverse_cons]; exact h _ _ ih
  intro xs
  have := key xs.reverse
  rwa [List.reverse_reverse] at this

def lexC (f g : Int → Int) (i k : Int) : Int := if f i ≠ f k then cmpI (f i) (f k) else cmpI (g i) (g k)
theorem cmpI_lt (a b : Int) : cmpI a b < 0 ↔ a < b := by
  unfold cmpI
  repeat' split
  all_goals omega

theorem minL_le (f : Int → Int) : ∀ xs : List Int, ∀ y ∈ xs, f (minL (fun i k => cmpI (f i) (f k)) xs) ≤ f y := by
  refine snoc_ind (by simp) ?_
  intro ys x ih y hy
  by_cases hys : ys = []
  · subst hys; simp at hy; subst hy; simp [minL, minBy]
  · rw [minL_snoc _ _ hys]
    rw [List.mem_append] at hy
    by_cases hc : cmpI (f x) (f (minL (fun i k => cmpI (f i) (f k)) ys)) < 0
    · rw [if_pos hc]
      rw [cmpI_lt] at hc
      rcases hy with hy | hy
      · have := ih y hy; omega
      · simp at hy; subst hy; omega
    · rw [if_neg hc]
      rw [cmpI_lt] at hc
      rcases hy with hy | hy
      · exact ih y hy
      · simp at hy; subst hy; omega

theorem lex_min (f g : Int → Int) : ∀ xs : List Int, xs ≠ [] →
    minL (lexC f g) xs = minL (fun i k => cmpI (g i) (g k)) (xs.filter fun i => !decide (f (minL (fun i k => cmpI (f i) (f k)) xs) < f i)) ∧ f (minL (lexC f g) xs) = f (minL (fun i k => cmpI (f i) (f k)) xs) := by
  refine snoc_ind (fun h => absurd rfl h) ?_
  intro ys x ih _
  by_cases hys : ys = []
  · subst hys; simp [minL, minBy]
  · obtain ⟨i1, i2⟩ := ih hys
    have hle := minL_le f ys
    have hfm := minL_mem (fun i k => cmpI (f i) (f k)) hys
    rw [minL_snoc (lexC f g) x hys, minL_snoc (fun i k => cmpI (f i) (f k)) x hys]
    generalize minL (fun i k => cmpI (f i) (f k)) ys = w at *
    have hne : (ys.filter fun i => !decide (f w < f i)) ≠ [] := by
      intro h
      have := List.filter_eq_nil_iff.1 h w hfm
      simp at this
    generalize hlm : minL (lexC f g) ys = m at *
    rcases Int.lt_trichotomy (f x) (f w) with hlt | heq | hgt
    · have c1 : cmpI (f x) (f w) < 0 := (cmpI_lt _ _).2 hlt
      have c2 : lexC f g x m < 0 := by unfold lexC; rw [if_pos (by omega), i2]; exact c1
      rw [if_pos c1, if_pos c2]
      refine ⟨?_, rfl⟩
      have : (ys ++ [x]).filter (fun i => !decide (f x < f i)) = [x] := by
        rw [List.filter_append, List.filter_eq_nil_iff.2 (by intro y hy; have := hle y hy; simp; omega)]
        simp
      rw [this]; rfl
    · have c1 : ¬ cmpI (f x) (f w) < 0 := by rw [cmpI_lt]; omega
      rw [if_neg c1]
      have hfil : (ys ++ [x]).filter (fun i => !decide (f w < f i)) = (ys.filter fun i => !decide (f w < f i)) ++ [x] := by
        rw [List.filter_append]
        congr 1
        simp; omega
      rw [hfil, minL_snoc _ _ hne, ← i1]
      have hlex : lexC f g x m = cmpI (g x) (g m) := by unfold lexC; rw [if_neg (by omega)]
      rw [hlex]
      refine ⟨rfl, ?_⟩
      split <;> omega
    · have c1 : ¬ cmpI (f x) (f w) < 0 := by rw [cmpI_lt]; omega
      have c2 : ¬ lexC f g x m < 0 := by unfold lexC; rw [if_pos (by omega), cmpI_lt]; omega
      rw [if_neg c1, if_neg c2]
      have hfil : (ys ++ [x]).filter (fun i => !decide (f w < f i)) = (ys.filter fun i => !decide (f w < f i)) := by
        rw [List.filter_append]
        have : [x].filter (fun i => !decide (f w < f i)) = [] := by simp; omega
        rw [this, List.append_nil]
      rw [hfil]
      exact ⟨i1, i2⟩

theorem idx_and (p q : Info → Bool) (l : List Info) : ∀ k, k ≤ l.length → idx (fun x => p x && q x) 0 (l.take k) = (idx p 0 (l.take k)).filter fun i => q (gi l i)
  | 0, _ => rfl
  | k + 1, hk => by
    have hlt : k < l.length := by omega
    rw [idx_take _ l hlt, idx_take p l hlt, gi_take hlt, List.filter_append, idx_and p q l k (by omega)]
    congr 1
    cases hp : p (gi l k) <;> cases hq : q (gi l k) <;> simp [hq]
theorem idx_and_all (p q : Info → Bool) (l : List Info) : idx (fun x => p x && q x) 0 l = (idx p 0 l).filter fun i => q (gi l i) := by
  have := idx_and p q l l.length (Nat.le_refl _)
  rwa [List.take_length] at this

theorem rin_rb01 (l : List Info) (least n : Int) (hn : n ≠ 2) : ∀ k, rin l least n k = rb (fun x => passB x least n) ltAge l k
  | 0 => rfl
  | k + 1 => by
    have ih := rin_rb01 l least n hn k
    simp only [rin, rb, ih]
    generalize rb (fun x => passB x least n) ltAge l k = b
    by_cases hp : passB (gi l k) least n = true
    · by_cases hb : b < 0
      · simp [hp, hb]
      · simp [hp, hb, hn, ltAge]
    · simp [hp]

def lt2 (x y : Info) : Bool := if x.wear ≠ y.wear then decide (x.wear < y.wear) else decide (x.age < y.age)
theorem rin_rb2 (l : List Info) (least : Int) : ∀ k, rin l least 2 k = rb canErase lt2 l k
  | 0 => rfl
  | k + 1 => by
    have ih := rin_rb2 l least k
    simp only [rin, rb, ih]
    generalize rb canErase lt2 l k = b
    have hp2 : passB (gi l k) least 2 = canErase (gi l k) := by simp [passB]
    rw [hp2]
    cases hp : canErase (gi l k)
    · simp
    · by_cases hb : b < 0
      · simp [hb]
      · unfold lt2
        by_cases hw : (gi l k).wear = (gi l b).wear
        · simp [hb, hw]
        · simp [hb, hw]

theorem rl_least (l : List Info) : ∀ k, k ≤ l.length → rl l k = if idx freeB 0 (l.take k) = [] then (0, false) else ((gi l (leastOf cWear l (idx freeB 0 (l.take k)))).wear, true)
  | 0, _ => rfl
  | k + 1, hk => by
    have ih := rl_least l k (by omega)
    have hlt : k < l.length := by omega
    rw [idx_take _ l hlt, gi_take hlt]
    show (if !(gi l k).held && (!(rl l k).2 || decide ((gi l k).wear < (rl l k).1)) then ((gi l k).wear, true) else rl l k) = _
    generalize idx freeB 0 (l.take k) = xs at *
    cases hh : (gi l k).held
    · have hf : freeB (gi l k) = true := by simp [freeB, hh]
      rw [if_pos hf]
      by_cases hx : xs = []
      · subst hx
        have : rl l k = (0, false) := by simpa using ih
        rw [this]
        simp [leastOf, minL, minBy]
      · rw [if_neg hx] at ih
        rw [ih]
        have e1 : leastOf cWear l xs = minL (fun i k => cWear (gi l i) (gi l k)) xs := if_neg hx
        have e2 : leastOf cWear l (xs ++ [(k : Int)]) = minL (fun i k => cWear (gi l i) (gi l k)) (xs ++ [(k : Int)]) := if_neg (by simp)
        rw [if_neg (show ¬ xs ++ [(k : Int)] = [] by simp), e2, minL_snoc _ _ hx, ← e1]
        by_cases hw : (gi l k).wear < (gi l (leastOf cWear l xs)).wear
        · rw [if_pos ((cWear_less _ _).2 hw)]; simp [hw]
        · rw [if_neg (fun h => hw ((cWear_less _ _).1 h))]; simp [hw]
    · have hf : freeB (gi l k) = false := by simp [freeB, hh]
      rw [if_neg (show ¬ freeB (gi l k) = true by rw [hf]; decide), List.append_nil]
      simpa using ih

theorem erase_plain (l : List Info) : isB (eraseIx l) (eraseOk l) (rErase l) = true := by
  have hrl := rl_least l l.length (Nat.le_refl _)
  rw [List.take_length] at hrl
  have hcE : idx canErase 0 l = (idx freeB 0 l).filter fun i => (fun x : Info => decide (x.cls ≠ 0) && !x.isOpen) (gi l i) := by
    refine Eq.trans ?_ (idx_and_all freeB (fun x : Info => decide (x.cls ≠ 0) && !x.isOpen) l)
    congr 1
    funext x
    unfold canErase freeB
    cases x.held <;> simp
  have hr : ∀ x ∈ idx canErase 0 l, 0 ≤ x := fun x hx => by have := idx_range canErase l 0 x hx; omega
  have b0 : ∀ L, rin l L 0 l.length = if idx (fun x => passB x L 0) 0 l = [] then -1 else leastOf cAge l (idx (fun x => passB x L 0) 0 l) := fun L => by rw [rin_rb01 l L 0 (by decide)]; exact rb_all _ _ _ cAge_lt l
  have b1 : ∀ L, rin l L 1 l.length = if idx (fun x => passB x L 1) 0 l = [] then -1 else leastOf cAge l (idx (fun x => passB x L 1) 0 l) := fun L => by rw [rin_rb01 l L 1 (by decide)]; exact rb_all _ _ _ cAge_lt l
  have b2 : ∀ L, rin l L 2 l.length = if idx canErase 0 l = [] then -1 else leastOf (fun x y => if x.wear ≠ y.wear then cWear x y else cAge x y) l (idx canErase 0 l) := fun L => by
    rw [rin_rb2 l L]
    refine rb_all _ _ _ ?_ l
    intro x y
    unfold lt2
    by_cases hw : x.wear ≠ y.wear
    · rw [if_pos hw, if_pos hw]; exact cWear_lt x y
    · rw [if_neg hw, if_neg hw]; exact cAge_lt x y
  have i1 : ∀ L, idx (fun x => passB x L 1) 0 l = (idx canErase 0 l).filter fun i => nearB (gi l i).wear L := fun L => by
    have : (fun x => passB x L 1) = fun x => canErase x && (fun x : Info => nearB x.wear L) x := by funext x; simp [passB]
    rw [this]; exact idx_and_all canErase (fun x : Info => nearB x.wear L) l
  have i0 : ∀ L, idx (fun x => passB x L 0) 0 l = (idx (fun x => passB x L 1) 0 l).filter fun i => noNeed (gi l i) := fun L => by
    have : (fun x => passB x L 0) = fun x => (fun x => passB x L 1) x && noNeed x := by funext x; simp [passB]
    rw [this]; exact idx_and_all (fun x => passB x L 1) noNeed l
  by_cases hE : idx canErase 0 l = []
  · have hok : eraseOk l = false := by unfold eraseOk; rw [hE]; rfl
    have hix : eraseIx l = 0 := if_pos hE
    have n1 : ∀ L, idx (fun x => passB x L 1) 0 l = [] := fun L => by rw [i1, hE]; rfl
    have n0 : ∀ L, idx (fun x => passB x L 0) 0 l = [] := fun L => by rw [i0, n1]; rfl
    have hre : rErase l = -1 := by
      unfold rErase
      simp only [b0, b1, b2, n1, n0, hE, if_true]
      decide
    rw [hok, hix, hre]
    decide
  · have hF : idx freeB 0 l ≠ [] := fun h => hE (by rw [hcE, h]; rfl)
    rw [if_neg hF] at hrl
    have hle : (rl l l.length).1 = (gi l (leastOf cWear l (idx freeB 0 l))).wear := by rw [hrl]
    have hnear : ((idx canErase 0 l).filter fun i => !aheadB (gi l i).wear (gi l (leastOf cWear l (idx freeB 0 l))).wear) = idx (fun x => passB x (rl l l.length).1 1) 0 l := by
      rw [i1, hle]
      congr 1
      funext i
      unfold aheadB nearB
      rw [← decide_not]
      exact decide_eq_decide.2 (by omega)
    have hfree : ((idx (fun x => passB x (rl l l.length).1 1) 0 l).filter fun i => !(!noNeed (gi l i))) = idx (fun x => passB x (rl l l.length).1 0) 0 l := by
      rw [i0]; congr 1; funext i; simp
    have hlow : eraseLow l = if idx (fun x => passB x (rl l l.length).1 1) 0 l = [] then (idx canErase 0 l).filter (fun i => !decide ((gi l (leastOf cWear l (idx canErase 0 l))).wear < (gi l i).wear))
        else if idx (fun x => passB x (rl l l.length).1 0) 0 l = [] then idx (fun x => passB x (rl l l.length).1 1) 0 l else idx (fun x => passB x (rl l l.length).1 0) 0 l := by
      unfold eraseLow
      simp only [hnear, hfree]
    have hsE : someB (idx canErase 0 l) = true := by cases h : idx canErase 0 l with | nil => exact absurd h hE | cons _ _ => rfl
    have hix : eraseIx l = leastOf cAge l (eraseLow l) := if_neg hE
    have hok : eraseOk l = someB (eraseLow l) := by unfold eraseOk; rw [hsE, Bool.true_and]
    have hre : rErase l = leastOf cAge l (eraseLow l) ∧ eraseLow l ≠ [] ∧ ∀ x ∈ eraseLow l, 0 ≤ x := by
      unfold rErase
      simp only [b0, b1, b2]
      rw [hlow]
      have r1 : ∀ x ∈ idx (fun x => passB x (rl l l.length).1 1) 0 l, 0 ≤ x := fun x hx => by have := idx_range _ l 0 x hx; omega
      have r0 : ∀ x ∈ idx (fun x => passB x (rl l l.length).1 0) 0 l, 0 ≤ x := fun x hx => by have := idx_range _ l 0 x hx; omega
      have n0 : idx (fun x => passB x (rl l l.length).1 1) 0 l = [] → idx (fun x => passB x (rl l l.length).1 0) 0 l = [] := fun h => by rw [i0, h]; rfl
      generalize idx (fun x => passB x (rl l l.length).1 1) 0 l = N at *
      generalize idx (fun x => passB x (rl l l.length).1 0) 0 l = Z at *
      by_cases hN : N = []
      · have hZ := n0 hN
        subst hN; subst hZ
        have hlex := (lex_min (fun i => (gi l i).wear) (fun i => (gi l i).age) (idx canErase 0 l) hE).1
        have e1 : leastOf cWear l (idx canErase 0 l) = minL (fun i k => cmpI (gi l i).wear (gi l k).wear) (idx canErase 0 l) := if_neg hE
        have e2 : leastOf (fun x y => if x.wear ≠ y.wear then cWear x y else cAge x y) l (idx canErase 0 l) = minL (lexC (fun i => (gi l i).wear) (fun i => (gi l i).age)) (idx canErase 0 l) := if_neg hE
        have hw := minL_mem (fun i k => cmpI (gi l i).wear (gi l k).wear) hE
        have hne : ((idx canErase 0 l).filter fun i => !decide ((gi l (leastOf cWear l (idx canErase 0 l))).wear < (gi l i).wear)) ≠ [] := by
          intro h
          have := List.filter_eq_nil_iff.1 h _ hw
          rw [e1] at this
          simp at this
        have hmem := minL_mem (lexC (fun i => (gi l i).wear) (fun i => (gi l i).age)) hE
        have h0 := hr _ hmem
        have e3 : leastOf cAge l ((idx canErase 0 l).filter fun i => !decide ((gi l (leastOf cWear l (idx canErase 0 l))).wear < (gi l i).wear)) = minL (lexC (fun i => (gi l i).wear) (fun i => (gi l i).age)) (idx canErase 0 l) := by
          rw [hlex, ← e1]
          exact if_neg hne
        simp only [if_true, if_neg hE, e2, e3]
        refine ⟨?_, hne, fun x hx => hr x (List.mem_filter.1 hx).1⟩
        rw [if_neg (by decide), if_neg (by decide), if_pos h0]
      · rw [if_neg hN]
        by_cases hZ : Z = []
        · subst hZ
          have h1 := r1 _ (least_mem (c := cAge) (l := l) hN)
          simp only [if_true, if_neg hN]
          refine ⟨?_, hN, r1⟩
          rw [if_neg (by decide), if_pos h1]
        · have h0 := r0 _ (least_mem (c := cAge) (l := l) hZ)
          simp only [if_neg hN, if_neg hZ]
          refine ⟨?_, hZ, r0⟩
          rw [if_pos h0]
    obtain ⟨h1, h2, h3⟩ := hre
    have h0 := h3 _ (least_mem (c := cAge) (l := l) h2)
    have hs : someB (eraseLow l) = true := by cases h : eraseLow l with | nil => exact absurd h h2 | cons _ _ => rfl
    rw [hix, hok, hs, h1]
    simp [isB, h0]

theorem highs_mild {l : List Info} (hm : Mild l) : -2199023255552 ≤ highs l l.length - lows l l.length ∧ highs l l.length - lows l l.length ≤ 2199023255552 := by
  by_cases h : l.length = 0
  · rw [h]; simp [highs, lows]
  · obtain ⟨k, hk⟩ : ∃ k, l.length = k + 1 := ⟨l.length - 1, by omega⟩
    rw [hk, lows_best, highs_best]
    have h1 := hm.gi (bestBy (fun x y => decide (cWear x y > 0)) l k : Nat)
    have h2 := hm.gi (bestBy (fun x y => decide (cWear x y < 0)) l k : Nat)
    omega
theorem plainOnes (l : List Info) (hm : Mild l) : PlainOnes l := by
  refine ⟨isB_least _ _ _ cWear_lt l, erase_plain l, isB_least _ _ _ cWear_lt l, isB_least _ _ _ cAge_lt l, ?_, lead_plain l, (highs_mild hm).1, (highs_mild hm).2⟩
  have := blanks_idx l l.length (Nat.le_refl _)
  rwa [List.take_length] at this
end Go.Proofs.Ytbbiohgillhmnaa
