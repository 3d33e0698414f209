/- What is read is written as it stood: texts and numbers. -/
import Derived.Test.YtbjjpplhnibjdaaDoorPrPl
namespace Go.Proofs.YtbjjpplhnibjdaaDoor
open Go Go.RowKit

theorem drop_at {l : List Nat} {a c : Nat} (h : a < l.length) (hc : l.getD a 0 = c) : l.drop a = c :: l.drop (a + 1) := by
  rw [List.drop_eq_getElem_cons h]
  congr 1
  rw [← hc, List.getD_eq_getElem?_getD, List.getElem?_eq_getElem h]; rfl
theorem need_back {l : List Nat} {a c b : Nat} (h : tNeed l a c = .ok b) : b = a + 1 ∧ a < l.length ∧ l.drop a = c :: l.drop b := by
  unfold tNeed at h
  split at h
  · rename_i hl
    split at h
    · rename_i hc
      injection h with h
      subst h
      exact ⟨rfl, hl, drop_at hl hc⟩
    · cases h
  · cases h
theorem hex_back {c d : Nat} (h : hexV c = some d) : c = hexC d := by
  unfold hexV at h
  unfold hexC
  split at h
  · injection h with h
    split <;> omega
  · split at h
    · injection h with h
      split <;> omega
    · cases h
theorem digit_back {l : List Nat} {a d b : Nat} (h : tDigit l a = .ok (d, b)) : b = a + 1 ∧ a < l.length ∧ d < 16 ∧ l.drop a = hexC d :: l.drop b := by
  have h2 := tDigit_ok h
  refine ⟨h2.1, h2.2.1, h2.2.2, ?_⟩
  unfold tDigit at h
  rw [if_pos h2.2.1] at h
  cases hx : hexV (l.getD a 0) with
  | some q =>
    rw [hx] at h
    injection h with h
    injection h with h1 h3
    subst h1
    subst h3
    exact drop_at h2.2.1 (hex_back hx)
  | none => rw [hx] at h; cases h
theorem quoted_back {l : List Nat} : ∀ (k a : Nat) (acc x : List Nat) (c : Nat), quotedGo l k a acc = .ok (x, c) → ∃ y, x = acc ++ y ∧ l.drop a = quoteB y ++ 34 :: l.drop c
  | 0, _, _, _, _, h => by cases h
  | k + 1, a, acc, x, c, h => by
    rw [quotedGo] at h
    split at h
    · rename_i hl
      split at h
      · rename_i hc
        injection h with h; injection h with h1 h2
        subst h1; subst h2
        exact ⟨[], by simp, drop_at hl hc⟩
      · split at h
        · rename_i hc
          split at h
          · cases h
          · rename_i h1 b hd
            split at h
            · cases h
            · rename_i d b2 hd2
              split at h
              · cases h
              · rename_i hp
                obtain ⟨y, hy, hl2⟩ := quoted_back k _ _ _ _ h
                have e1 := digit_back hd
                have e2 := digit_back hd2
                refine ⟨(16 * h1 + d) :: y, by rw [hy]; simp, ?_⟩
                rw [quoteB, quoteC, if_neg hp, show (16 * h1 + d) / 16 = h1 by omega, show (16 * h1 + d) % 16 = d by omega, drop_at hl hc, e1.2.2.2, e2.2.2.2, hl2]
                rfl
        · split at h
          · rename_i hp
            obtain ⟨y, hy, hl2⟩ := quoted_back k _ _ _ _ h
            refine ⟨l.getD a 0 :: y, by rw [hy]; simp, ?_⟩
            rw [quoteB, quoteC, if_pos hp, drop_at hl rfl, hl2]
            rfl
          · cases h
    · cases h
theorem tQuoted_back {l : List Nat} {a c : Nat} {x : List Nat} (h : tQuoted l a = .ok (x, c)) : l.drop a = quoteL x ++ l.drop c := by
  unfold tQuoted at h
  split at h
  · cases h
  · rename_i b hn
    obtain ⟨y, hy, hl⟩ := quoted_back _ _ _ _ _ h
    rw [List.nil_append] at hy
    subst hy
    rw [(need_back hn).2.2, hl, quoteL]
    simp

theorem numGo_back : ∀ (k : Nat) (ds : List Nat) (n : Nat), ds.length < k → (∀ x ∈ ds, 48 ≤ x ∧ x ≤ 57) → ds ≠ [] → ¬ (ds.getD 0 0 = 48 ∧ 1 < ds.length) → numGo 0 ds = some n → decN n = ds ∧ ((n : Nat) : Int) ≤ 4611686018427387904
  | 0, _, _, h, _, _, _, _ => by omega
  | k + 1, ds, n, hk, hd, hne, hz, hg => by
    obtain ⟨es, c, rfl⟩ : ∃ es c, ds = es ++ [c] := ⟨ds.dropLast, ds.getLast hne, (List.dropLast_concat_getLast hne).symm⟩
    have hc := hd c (by simp)
    rw [numGo_app] at hg
    cases hq : numGo 0 es with
    | none => rw [hq] at hg; cases hg
    | some u =>
      rw [hq] at hg
      simp only [Option.bind_some] at hg
      split at hg
      · cases hg
      · rename_i hb
        have hb : bigB u (c - 48) = false := by simpa using hb
        injection hg with hg
        have hle := bigB_no hb
        by_cases he : es = []
        · subst he
          rw [numGo] at hq
          injection hq with hq
          subst hq
          refine ⟨?_, by omega⟩
          rw [decN, dif_pos (by omega)]
          simp
          omega
        · have hp : 1 ≤ es.length := by
            cases es with
            | nil => exact absurd rfl he
            | cons x y => simp
          have h0 : es.getD 0 0 ≠ 48 := by
            intro h0
            refine hz ⟨?_, by simp; omega⟩
            rw [List.getD_eq_getElem?_getD, List.getElem?_append_left (by omega), ← List.getD_eq_getElem?_getD]
            exact h0
          obtain ⟨hu, -⟩ := numGo_back k es u (by simp at hk; omega) (fun x hx => hd x (by simp [hx])) he (fun h => h0 h.1) hq
          have hu0 : u ≠ 0 := by
            rintro rfl
            have hz0 : decN 0 = [48] := by rw [decN]; rfl
            rw [hz0] at hu
            subst hu
            exact h0 rfl
          refine ⟨?_, by omega⟩
          rw [decN, dif_neg (by omega), ← hg, show (10 * u + (c - 48)) / 10 = u by omega, show 48 + (10 * u + (c - 48)) % 10 = c by omega, hu]

theorem numD_back {m : Bool} {l : List Nat} {a c : Nat} {x : Int} (h : numD m l a = .ok (x, c)) :
    ∃ n : Nat, l.drop a = decN n ++ l.drop c ∧ x = (if m then -(n : Int) else (n : Int)) ∧ ((n : Nat) : Int) ≤ 4611686018427387904 ∧ (m = true → n ≠ 0) := by
  unfold numD at h
  split at h
  · split at h <;> cases h
  · rename_i hne
    split at h
    · cases h
    · rename_i hz
      split at h
      · cases h
      · rename_i n hg
        injection h with h; injection h with h1 h2
        have hmem := runL_mem 48 57 l a
        obtain ⟨hu, hle⟩ := numGo_back _ (runL 48 57 l a) n (Nat.lt_succ_self _) hmem hne (fun hh => hz ⟨hh.1, .inl hh.2⟩) hg
        refine ⟨n, ?_, h1.symm, hle, fun hm h0 => ?_⟩
        · rw [hu, ← h2, runL, ← List.drop_drop]
          exact (List.take_append_drop _ _).symm
        · subst h0
          have hz0 : decN 0 = [48] := by rw [decN]; rfl
          rw [hz0] at hu
          exact hz ⟨by rw [← hu]; rfl, .inr hm⟩
theorem tNumber_back {l : List Nat} {a c : Nat} {x : Int} (h : tNumber l a = .ok (x, c)) : l.drop a = decI x ++ l.drop c ∧ smallB x = true := by
  unfold tNumber at h
  unfold smallB
  split at h
  · rename_i hm
    obtain ⟨n, hl, hx, hle, h0⟩ := numD_back h
    have h0 := h0 rfl
    rw [if_pos rfl] at hx
    unfold minusB at hm
    rw [Bool.and_eq_true, decide_eq_true_iff, decide_eq_true_iff] at hm
    refine ⟨?_, ?_⟩
    · rw [decI, if_pos (by omega), drop_at hm.1 hm.2, hl, show x.natAbs = n by omega]
      rfl
    · rw [Bool.and_eq_true, decide_eq_true_iff, decide_eq_true_iff]
      omega
  · obtain ⟨n, hl, hx, hle, -⟩ := numD_back h
    rw [if_neg (by decide)] at hx
    refine ⟨?_, ?_⟩
    · rw [decI, if_neg (by omega), hl, show x.toNat = n by omega]
    · rw [Bool.and_eq_true, decide_eq_true_iff, decide_eq_true_iff]
      omega
end Go.Proofs.YtbjjpplhnibjdaaDoor

/- What is read is written as it stood: operations. -/
namespace Go.Proofs.YtbjjpplhnibjdaaDoor
open Go Go.RowKit

/-- A field that is read, and nothing else. -/
theorem part_back {l : List Nat} {p a b : Nat} {o o' : OpT} (hp : p = 112 ∨ p = 111 ∨ p = 104 ∨ p = 102 ∨ p = 110 ∨ p = 100) (h : tPart l p o a = .ok (o', b)) :
    l.drop a = 32 :: (partS p o' ++ l.drop b) ∧ o'.kind = o.kind ∧ ∀ q, q ≠ p → partS q o' = partS q o := by
  unfold tPart at h
  split at h
  · cases h
  · rename_i b1 hn
    have hn := need_back hn
    rcases hp with rfl | rfl | rfl | rfl | rfl | rfl
    all_goals
      simp only [Nat.reduceEqDiff, if_true, if_false] at h
      split at h
      · cases h
      · rename_i x c hq
        injection h with h; injection h with h1 h2
        subst h1; subst h2
        refine ⟨?_, rfl, ?_⟩
        · rw [hn.2.2]
          first | rw [tQuoted_back hq] | rw [(tNumber_back hq).1]
          rfl
        · intro q hq2
          unfold partS
          simp only [hq2, if_false]
theorem parts_back {l : List Nat} : ∀ (ps : List Nat) (o o' : OpT) (a b : Nat), ps.Nodup → (∀ p ∈ ps, p = 112 ∨ p = 111 ∨ p = 104 ∨ p = 102 ∨ p = 110 ∨ p = 100) → tParts l ps o a = .ok (o', b) →
    l.drop a = printB ps o' ++ l.drop b ∧ o'.kind = o.kind ∧ ∀ q, q ∉ ps → partS q o' = partS q o
  | [], o, o', a, b, _, _, h => by
    rw [tParts] at h
    injection h with h; injection h with h1 h2
    subst h1; subst h2
    exact ⟨rfl, rfl, fun _ _ => rfl⟩
  | p :: ps, o, o', a, b, hnd, hp, h => by
    rw [tParts] at h
    split at h
    · cases h
    · rename_i o1 b1 h1
      obtain ⟨d1, k1, f1⟩ := part_back (hp p (List.mem_cons_self ..)) h1
      obtain ⟨hnp, hnd⟩ := List.nodup_cons.1 hnd
      obtain ⟨d2, k2, f2⟩ := parts_back ps o1 o' b1 b hnd (fun q hq => hp q (List.mem_cons_of_mem _ hq)) h
      refine ⟨?_, k2.trans k1, fun q hq => ?_⟩
      · rw [d1, d2, printB, f2 p hnp]
        simp
      · rw [f2 q (fun h => hq (List.mem_cons_of_mem _ h)), f1 q (fun e => hq (e ▸ List.mem_cons_self ..))]
theorem idx_fin : ∀ i < 16, wordsL.tail[i]? = some (wordOf (i + 1)) := by decide
theorem wordIdx_some {x : List Nat} {i : Nat} (h : wordIdx x = some i) : i < 16 ∧ x = wordOf (i + 1) := by
  unfold wordIdx at h
  rw [List.findIdx?_eq_some_iff_getElem] at h
  obtain ⟨hi, hx, -⟩ := h
  have hi' : i < 16 := hi
  refine ⟨hi', ?_⟩
  have := idx_fin i hi'
  rw [List.getElem?_eq_getElem hi] at this
  injection this with this
  rw [← this]
  exact (beq_iff_eq.1 hx).symm
theorem partsL_is : ∀ k ≤ 16, (partsL k).Nodup ∧ ∀ p ∈ partsL k, p = 112 ∨ p = 111 ∨ p = 104 ∨ p = 102 ∨ p = 110 ∨ p = 100 := by decide
theorem print_parse {l : List Nat} {o : OpT} (h : tParse l = .ok o) : printL o = l ∧ o.kind ≤ 16 ∧ o.kind ≠ 0 := by
  unfold tParse at h
  split at h
  · cases h
  · unfold tOp at h
    split at h
    · cases h
    · rename_i i hi
      obtain ⟨hi16, hw⟩ := wordIdx_some hi
      cases hp : tParts l (partsL (i + 1)) (zeroT (i + 1)) (runN 97 122 l) with
      | error e => rw [hp] at h; cases h
      | ok y =>
        obtain ⟨o', b⟩ := y
        rw [hp] at h
        unfold opEnd at h
        simp only at h
        split at h
        · cases h
        · rename_i hb
          injection h with h
          subst h
          have hf := partsL_is (i + 1) (by omega)
          obtain ⟨d, k, -⟩ := parts_back _ _ _ _ _ hf.1 hf.2 hp
          have hk : o'.kind = i + 1 := k
          refine ⟨?_, by omega, by omega⟩
          unfold printL
          rw [if_neg (by omega), hk, ← hw]
          rw [List.drop_eq_nil_of_le (by omega : l.length ≤ b), List.append_nil] at d
          rw [← d]
          unfold runL
          rw [List.drop_zero]
          exact List.take_append_drop _ _

/-- What is read is within bounds. -/
structure Fit (m : Nat) (o : OpT) : Prop where
  path : o.path.length ≤ m
  pathB : ∀ b ∈ o.path, b < 256
  other : o.other.length ≤ m
  otherB : ∀ b ∈ o.other, b < 256
  data : o.data.length ≤ m
  dataB : ∀ b ∈ o.data, b < 256
  handle : smallB o.handle = true
  from_ : smallB o.from_ = true
  n : smallB o.n = true
theorem quoteC_pos (c : Nat) : 1 ≤ (quoteC c).length := by unfold quoteC; split <;> simp
theorem quoteB_ge : ∀ l : List Nat, l.length ≤ (quoteB l).length
  | [] => Nat.le_refl _
  | c :: l => by
    have h1 := quoteB_ge l
    have h2 := quoteC_pos c
    rw [quoteB, List.length_append, List.length_cons]
    omega
theorem quoted_lt {l : List Nat} (hl : ∀ b ∈ l, b < 256) : ∀ (k a : Nat) (acc x : List Nat) (c : Nat), (∀ b ∈ acc, b < 256) → quotedGo l k a acc = .ok (x, c) → ∀ b ∈ x, b < 256
  | 0, _, _, _, _, _, h => by cases h
  | k + 1, a, acc, x, c, ha, h => by
    rw [quotedGo] at h
    split at h
    · rename_i hlt
      split at h
      · injection h with h; injection h with h1 h2
        subst h1
        exact ha
      · split at h
        · split at h
          · cases h
          · rename_i h1 b hd
            split at h
            · cases h
            · rename_i d b2 hd2
              split at h
              · cases h
              · have e1 := digit_back hd
                have e2 := digit_back hd2
                refine quoted_lt hl k _ _ _ _ ?_ h
                intro b hb
                rcases List.mem_append.1 hb with hb | hb
                · exact ha b hb
                · rw [List.mem_singleton] at hb; omega
        · split at h
          · refine quoted_lt hl k _ _ _ _ ?_ h
            intro b hb
            rcases List.mem_append.1 hb with hb | hb
            · exact ha b hb
            · rw [List.mem_singleton] at hb
              rw [hb, List.getD_eq_getElem?_getD, List.getElem?_eq_getElem hlt]
              exact hl _ (List.getElem_mem hlt)
          · cases h
    · cases h
theorem tQuoted_fit {l : List Nat} {a c : Nat} {x : List Nat} (hl : ∀ b ∈ l, b < 256) (h : tQuoted l a = .ok (x, c)) : x.length ≤ l.length ∧ ∀ b ∈ x, b < 256 := by
  have hb := tQuoted_back h
  refine ⟨?_, ?_⟩
  · have h1 := congrArg List.length hb
    have h2 := quoteB_ge x
    rw [List.length_drop, List.length_append, quoteL] at h1
    simp at h1
    omega
  · unfold tQuoted at h
    split at h
    · cases h
    · exact quoted_lt hl _ _ [] _ _ (by simp) h
theorem part_fit {l : List Nat} {p a b : Nat} {o o' : OpT} (hl : ∀ b ∈ l, b < 256) (hp : p = 112 ∨ p = 111 ∨ p = 104 ∨ p = 102 ∨ p = 110 ∨ p = 100) (hf : Fit l.length o) (h : tPart l p o a = .ok (o', b)) : Fit l.length o' := by
  unfold tPart at h
  split at h
  · cases h
  · rcases hp with rfl | rfl | rfl | rfl | rfl | rfl
    all_goals
      simp only [Nat.reduceEqDiff, if_true, if_false] at h
      split at h
      · cases h
      · rename_i x c hq
        injection h with h; injection h with h1 h2
        subst h1
        first
          | exact { hf with path := (tQuoted_fit hl hq).1, pathB := (tQuoted_fit hl hq).2 }
          | exact { hf with other := (tQuoted_fit hl hq).1, otherB := (tQuoted_fit hl hq).2 }
          | exact { hf with handle := (tNumber_back hq).2 }
          | exact { hf with from_ := (tNumber_back hq).2 }
          | exact { hf with n := (tNumber_back hq).2 }
          | exact { hf with data := (tQuoted_fit hl hq).1, dataB := (tQuoted_fit hl hq).2 }
theorem parts_fit {l : List Nat} (hl : ∀ b ∈ l, b < 256) : ∀ (ps : List Nat) (o o' : OpT) (a b : Nat), (∀ p ∈ ps, p = 112 ∨ p = 111 ∨ p = 104 ∨ p = 102 ∨ p = 110 ∨ p = 100) → Fit l.length o → tParts l ps o a = .ok (o', b) → Fit l.length o'
  | [], o, o', a, b, _, hf, h => by
    rw [tParts] at h
    injection h with h; injection h with h1 h2
    subst h1
    exact hf
  | p :: ps, o, o', a, b, hp, hf, h => by
    rw [tParts] at h
    split at h
    · cases h
    · rename_i o1 b1 h1
      exact parts_fit hl ps o1 o' b1 b (fun q hq => hp q (List.mem_cons_of_mem _ hq)) (part_fit hl (hp p (List.mem_cons_self ..)) hf h1) h
theorem zero_fit (m k : Nat) : Fit m (zeroT k) :=
  ⟨Nat.zero_le _, by simp [zeroT], Nat.zero_le _, by simp [zeroT], Nat.zero_le _, by simp [zeroT], rfl, rfl, rfl⟩
theorem parse_fit {l : List Nat} {o : OpT} (hl : ∀ b ∈ l, b < 256) (h : tParse l = .ok o) : Fit l.length o := by
  unfold tParse at h
  split at h
  · cases h
  · unfold tOp at h
    split at h
    · cases h
    · rename_i i hi
      obtain ⟨hi16, hw⟩ := wordIdx_some hi
      cases hp : tParts l (partsL (i + 1)) (zeroT (i + 1)) (runN 97 122 l) with
      | error e => rw [hp] at h; cases h
      | ok y =>
        obtain ⟨o', b⟩ := y
        rw [hp] at h
        unfold opEnd at h
        simp only at h
        split at h
        · cases h
        · injection h with h
          subst h
          exact parts_fit hl _ _ _ _ _ (partsL_is (i + 1) (by omega)).2 (zero_fit _ _) hp
end Go.Proofs.YtbjjpplhnibjdaaDoor

/- The document's reading of a line, in plain words: with the error's number in hand. -/
namespace Go.Proofs.YtbjjpplhnibjdaaDoor
open Go Go.RowKit

def dText (l : List Nat) (a e : Nat) : List Nat × Nat × Nat :=
  if e ≠ 0 then ([], a, e) else match tNeed l a 32 with
    | .error k => ([], 0, k)
    | .ok b => match tQuoted l b with
      | .error k => ([], 0, k)
      | .ok (x, c) => (x, c, 0)
def dNum (l : List Nat) (a e : Nat) : Int × Nat × Nat :=
  if e ≠ 0 then (0, a, e) else match tNeed l a 32 with
    | .error k => (0, 0, k)
    | .ok b => match tNumber l b with
      | .error k => (0, 0, k)
      | .ok (x, c) => (x, c, 0)
theorem tNeed_err {l : List Nat} {a c k : Nat} (h : tNeed l a c = .error k) : k = 2 ∨ k = 3 := by
  unfold tNeed at h
  split at h
  · split at h
    · cases h
    · injection h with h; omega
  · injection h with h; omega
theorem tDigit_err {l : List Nat} {a k : Nat} (h : tDigit l a = .error k) : k = 2 ∨ k = 3 := by
  unfold tDigit at h
  split at h
  · cases hx : hexV (l.getD a 0) with
    | some q => rw [hx] at h; cases h
    | none => rw [hx] at h; injection h with h; omega
  · injection h with h; omega
theorem quotedGo_err {l : List Nat} : ∀ (k a : Nat) (acc : List Nat) (e : Nat), quotedGo l k a acc = .error e → e = 2 ∨ e = 3
  | 0, _, _, e, h => by rw [quotedGo] at h; injection h with h; omega
  | k + 1, a, acc, e, h => by
    rw [quotedGo] at h
    split at h
    · split at h
      · cases h
      · split at h
        · split at h
          · rename_i hd; injection h with h; subst h; exact tDigit_err hd
          · split at h
            · rename_i hd; injection h with h; subst h; exact tDigit_err hd
            · split at h
              · injection h with h; omega
              · exact quotedGo_err k _ _ _ h
        · split at h
          · exact quotedGo_err k _ _ _ h
          · injection h with h; omega
    · injection h with h; omega
theorem tQuoted_err {l : List Nat} {a k : Nat} (h : tQuoted l a = .error k) : k = 2 ∨ k = 3 := by
  unfold tQuoted at h
  split at h
  · rename_i hd; injection h with h; subst h; exact tNeed_err hd
  · exact quotedGo_err _ _ _ _ h
theorem numD_err {m : Bool} {l : List Nat} {a k : Nat} (h : numD m l a = .error k) : k = 2 ∨ k = 3 ∨ k = 5 := by
  unfold numD at h
  split at h
  · split at h <;> (injection h with h; omega)
  · split at h
    · injection h with h; omega
    · split at h
      · injection h with h; omega
      · cases h
theorem tNumber_err {l : List Nat} {a k : Nat} (h : tNumber l a = .error k) : k = 2 ∨ k = 3 ∨ k = 5 := by
  unfold tNumber at h
  split at h <;> exact numD_err h
theorem dText_keep {l : List Nat} {a e : Nat} (h : e ≠ 0) : dText l a e = ([], a, e) := by unfold dText; rw [if_pos h]
theorem dNum_keep {l : List Nat} {a e : Nat} (h : e ≠ 0) : dNum l a e = (0, a, e) := by unfold dNum; rw [if_pos h]

/-- One field more. -/
def dPart (l : List Nat) (p : Nat) (t : OpT × Nat × Nat) : OpT × Nat × Nat :=
  if p = 112 then ({ t.1 with path := (dText l t.2.1 t.2.2).1 }, (dText l t.2.1 t.2.2).2)
  else if p = 111 then ({ t.1 with other := (dText l t.2.1 t.2.2).1 }, (dText l t.2.1 t.2.2).2)
  else if p = 104 then ({ t.1 with handle := (dNum l t.2.1 t.2.2).1 }, (dNum l t.2.1 t.2.2).2)
  else if p = 102 then ({ t.1 with from_ := (dNum l t.2.1 t.2.2).1 }, (dNum l t.2.1 t.2.2).2)
  else if p = 110 then ({ t.1 with n := (dNum l t.2.1 t.2.2).1 }, (dNum l t.2.1 t.2.2).2)
  else if p = 100 then ({ t.1 with data := (dText l t.2.1 t.2.2).1 }, (dText l t.2.1 t.2.2).2)
  else t
def dParts (l : List Nat) : List Nat → OpT × Nat × Nat → OpT × Nat × Nat
  | [], t => t
  | p :: ps, t => dParts l ps (dPart l p t)
theorem dPart_keep {l : List Nat} {p : Nat} {t : OpT × Nat × Nat} (h : t.2.2 ≠ 0) : (dPart l p t).2.2 = t.2.2 := by
  unfold dPart
  repeat (split; · first | (rw [dText_keep h]) | (rw [dNum_keep h]))
  rfl
theorem dParts_keep {l : List Nat} : ∀ (ps : List Nat) (t : OpT × Nat × Nat), t.2.2 ≠ 0 → (dParts l ps t).2.2 = t.2.2
  | [], _, _ => rfl
  | p :: ps, t, h => by
    rw [dParts, dParts_keep ps _ (by rw [dPart_keep h]; exact h), dPart_keep h]
theorem dPart_is {l : List Nat} {p a : Nat} {o : OpT} (hp : p = 112 ∨ p = 111 ∨ p = 104 ∨ p = 102 ∨ p = 110 ∨ p = 100) :
    match tPart l p o a with
    | .ok (o', b) => dPart l p (o, a, 0) = (o', b, 0)
    | .error k => (dPart l p (o, a, 0)).2.2 = k ∧ k ≠ 0 := by
  unfold tPart
  cases hn : tNeed l a 32 with
  | error k =>
    have hk := tNeed_err hn
    have h1 : dText l a 0 = ([], 0, k) := by unfold dText; rw [hn]; rfl
    have h2 : dNum l a 0 = (0, 0, k) := by unfold dNum; rw [hn]; rfl
    simp only
    refine ⟨?_, by omega⟩
    unfold dPart
    rcases hp with rfl | rfl | rfl | rfl | rfl | rfl <;> simp [h1, h2]
  | ok b =>
    simp only
    rcases hp with rfl | rfl | rfl | rfl | rfl | rfl
    all_goals simp only [Nat.reduceEqDiff, if_true, if_false, dPart]
    case inl | inr.inl | inr.inr.inr.inr.inr =>
      cases hq : tQuoted l b with
      | error k =>
        have hk := tQuoted_err hq
        have h1 : dText l a 0 = ([], 0, k) := by unfold dText; simp only [hn, hq]; rfl
        simp only [h1]
        exact ⟨trivial, by omega⟩
      | ok y =>
        obtain ⟨x, c⟩ := y
        have h1 : dText l a 0 = (x, c, 0) := by unfold dText; simp only [hn, hq]; rfl
        simp only [h1]
    all_goals
      cases hq : tNumber l b with
      | error k =>
        have hk := tNumber_err hq
        have h1 : dNum l a 0 = (0, 0, k) := by unfold dNum; simp only [hn, hq]; rfl
        simp only [h1]
        exact ⟨trivial, by omega⟩
      | ok y =>
        obtain ⟨x, c⟩ := y
        have h1 : dNum l a 0 = (x, c, 0) := by unfold dNum; simp only [hn, hq]; rfl
        simp only [h1]
theorem dParts_is {l : List Nat} : ∀ (ps : List Nat) (o : OpT) (a : Nat), (∀ p ∈ ps, p = 112 ∨ p = 111 ∨ p = 104 ∨ p = 102 ∨ p = 110 ∨ p = 100) →
    match tParts l ps o a with
    | .ok (o', b) => dParts l ps (o, a, 0) = (o', b, 0)
    | .error k => (dParts l ps (o, a, 0)).2.2 = k ∧ k ≠ 0
  | [], o, a, _ => rfl
  | p :: ps, o, a, hp => by
    have h1 := dPart_is (l := l) (a := a) (o := o) (hp p (List.mem_cons_self ..))
    rw [tParts, dParts]
    cases ht : tPart l p o a with
    | error k =>
      rw [ht] at h1
      simp only at h1 ⊢
      rw [dParts_keep ps _ (by rw [h1.1]; exact h1.2)]
      exact h1
    | ok y =>
      obtain ⟨o', b⟩ := y
      rw [ht] at h1
      simp only at h1 ⊢
      rw [h1]
      exact dParts_is ps o' b (fun q hq => hp q (List.mem_cons_of_mem _ hq))
/-- What is answered at a line's end. -/
def dEnd (l : List Nat) (t : OpT × Nat × Nat) : Except Nat OpT :=
  if t.2.2 = 0 then (if t.2.1 < l.length then .error 2 else .ok t.1) else .error t.2.2
theorem dEnd_is {l : List Nat} (ps : List Nat) (o : OpT) (a : Nat) (hp : ∀ p ∈ ps, p = 112 ∨ p = 111 ∨ p = 104 ∨ p = 102 ∨ p = 110 ∨ p = 100) : dEnd l (dParts l ps (o, a, 0)) = opEnd l (tParts l ps o a) := by
  have h := dParts_is (l := l) ps o a hp
  cases ht : tParts l ps o a with
  | error k =>
    rw [ht] at h
    simp only at h
    unfold dEnd
    rw [h.1, if_neg h.2]
    rfl
  | ok y =>
    obtain ⟨o', b⟩ := y
    rw [ht] at h
    simp only at h
    rw [h]
    rfl
end Go.Proofs.YtbjjpplhnibjdaaDoor

