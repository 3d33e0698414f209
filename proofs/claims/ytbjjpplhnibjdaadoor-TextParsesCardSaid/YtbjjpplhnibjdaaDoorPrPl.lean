/- What is written is read as it was: in plain lists. -/
import Derived.Test.YtbjjpplhnibjdaaDoorPrSm
namespace Go.Proofs.YtbjjpplhnibjdaaDoor
open Go Go.RowKit

/-! ### A quoted text -/
theorem getD_app {l m : List Nat} {i : Nat} (h : l.length = i) {c : Nat} {r : List Nat} (hm : m = c :: r) : (l ++ m).getD i 0 = c := by
  subst hm
  subst h
  rw [List.getD_eq_getElem?_getD, List.getElem?_append_right (Nat.le_refl _), Nat.sub_self]
  rfl
theorem need_app {l m : List Nat} {c : Nat} : tNeed (l ++ c :: m) l.length c = .ok (l.length + 1) := by
  unfold tNeed
  rw [if_pos (by simp), getD_app rfl rfl, if_pos rfl]
theorem hexV_fin : ∀ d : Fin 16, hexV (hexC d.val) = some d.val := by decide
theorem digit_app {l m : List Nat} {d : Nat} (hd : d < 16) : tDigit (l ++ hexC d :: m) l.length = .ok (d, l.length + 1) := by
  unfold tDigit
  rw [if_pos (by simp), getD_app rfl rfl, show hexV (hexC d) = some d from hexV_fin ⟨d, hd⟩]
theorem plain_not {c : Nat} (h : plainB c = true) : c ≠ 34 ∧ c ≠ 37 := by
  unfold plainB at h
  simp at h
  exact ⟨h.1.2, h.2⟩
theorem quoted_app (m : List Nat) : ∀ (x l acc : List Nat) (k : Nat), (∀ b ∈ x, b < 256) → x.length < k → quotedGo (l ++ (quoteB x ++ 34 :: m)) k l.length acc = .ok (acc ++ x, l.length + (quoteB x).length + 1)
  | [], l, acc, k, _, hk => by
    obtain ⟨k, rfl⟩ : ∃ j, k = j + 1 := ⟨k - 1, by simp at hk; omega⟩
    rw [quotedGo, quoteB, List.nil_append, if_pos (by simp), getD_app rfl rfl, if_pos rfl, List.append_nil]
    rfl
  | c :: x, l, acc, k, hx, hk => by
    obtain ⟨k, rfl⟩ : ∃ j, k = j + 1 := ⟨k - 1, by simp at hk; omega⟩
    have hk' : x.length < k := by simp at hk; omega
    have hc := hx c (List.mem_cons_self ..)
    have hx' : ∀ b ∈ x, b < 256 := fun b hb => hx b (List.mem_cons_of_mem _ hb)
    by_cases hp : plainB c = true
    · have hq : quoteC c = [c] := by unfold quoteC; rw [if_pos hp]
      have hl : l ++ (quoteB (c :: x) ++ 34 :: m) = l ++ c :: (quoteB x ++ 34 :: m) := by rw [quoteB, hq]; rfl
      have hl2 : l ++ c :: (quoteB x ++ 34 :: m) = (l ++ [c]) ++ (quoteB x ++ 34 :: m) := by simp
      have IH := quoted_app m x (l ++ [c]) (acc ++ [c]) k hx' hk'
      rw [← hl2] at IH
      have hlen : (quoteB (c :: x)).length = (quoteB x).length + 1 := by rw [quoteB, hq, List.length_append]; show _ + _ = _; simp only [List.length_cons, List.length_nil]; omega
      rw [hl, quotedGo, if_pos (by simp), getD_app rfl rfl, if_neg (plain_not hp).1, if_neg (plain_not hp).2, if_pos hp, hlen]
      rw [show (l ++ [c]).length = l.length + 1 by simp] at IH
      rw [IH]
      simp
      omega
    · have hp' : plainB c = false := by simpa using hp
      have hq : quoteC c = [37, hexC (c / 16), hexC (c % 16)] := by unfold quoteC; rw [if_neg hp]
      have hl : l ++ (quoteB (c :: x) ++ 34 :: m) = l ++ 37 :: (hexC (c / 16) :: (hexC (c % 16) :: (quoteB x ++ 34 :: m))) := by rw [quoteB, hq]; rfl
      have hl1 : l ++ 37 :: (hexC (c / 16) :: (hexC (c % 16) :: (quoteB x ++ 34 :: m))) = (l ++ [37]) ++ hexC (c / 16) :: (hexC (c % 16) :: (quoteB x ++ 34 :: m)) := by simp
      have hl2 : l ++ 37 :: (hexC (c / 16) :: (hexC (c % 16) :: (quoteB x ++ 34 :: m))) = (l ++ [37, hexC (c / 16)]) ++ hexC (c % 16) :: (quoteB x ++ 34 :: m) := by simp
      have hl3 : l ++ 37 :: (hexC (c / 16) :: (hexC (c % 16) :: (quoteB x ++ 34 :: m))) = (l ++ [37, hexC (c / 16), hexC (c % 16)]) ++ (quoteB x ++ 34 :: m) := by simp
      have D1 := digit_app (l := l ++ [37]) (m := hexC (c % 16) :: (quoteB x ++ 34 :: m)) (d := c / 16) (by omega)
      have D2 := digit_app (l := l ++ [37, hexC (c / 16)]) (m := quoteB x ++ 34 :: m) (d := c % 16) (by omega)
      have IH := quoted_app m x (l ++ [37, hexC (c / 16), hexC (c % 16)]) (acc ++ [c]) k hx' hk'
      rw [← hl1, show (l ++ [37] : List Nat).length = l.length + 1 by simp] at D1
      rw [← hl2, show (l ++ [37, hexC (c / 16)] : List Nat).length = l.length + 1 + 1 by simp] at D2
      rw [← hl3, show (l ++ [37, hexC (c / 16), hexC (c % 16)] : List Nat).length = l.length + 1 + 1 + 1 by simp] at IH
      have hlen : (quoteB (c :: x)).length = (quoteB x).length + 3 := by rw [quoteB, hq, List.length_append]; show _ + _ = _; simp only [List.length_cons, List.length_nil]; omega
      rw [hl, quotedGo, if_pos (by simp), getD_app rfl rfl, if_neg (by decide), if_pos rfl, D1]
      simp only [D2]
      rw [show 16 * (c / 16) + c % 16 = c by omega, hp', if_neg (by decide), IH, hlen]
      simp
      omega
theorem tQuoted_app (l x m : List Nat) (hx : ∀ b ∈ x, b < 256) : tQuoted (l ++ (quoteL x ++ m)) l.length = .ok (x, l.length + (quoteL x).length) := by
  have hl : l ++ (quoteL x ++ m) = l ++ 34 :: (quoteB x ++ 34 :: m) := by unfold quoteL; simp
  have hl2 : l ++ 34 :: (quoteB x ++ 34 :: m) = (l ++ [34]) ++ (quoteB x ++ 34 :: m) := by simp
  have hb : x.length ≤ (quoteB x).length := by
    clear hl hl2 hx
    induction x with
    | nil => exact Nat.le_refl _
    | cons c x ih =>
      rw [quoteB, List.length_append, List.length_cons]
      have : 1 ≤ (quoteC c).length := by unfold quoteC; split <;> simp
      omega
  have Q := quoted_app m x (l ++ [34]) [] ((l ++ 34 :: (quoteB x ++ 34 :: m)).length + 1) hx (by simp; omega)
  rw [← hl2, show (l ++ [34] : List Nat).length = l.length + 1 by simp] at Q
  rw [hl, tQuoted, need_app]
  simp only [Q]
  unfold quoteL
  simp
  omega
end Go.Proofs.YtbjjpplhnibjdaaDoor

/- A number that is written is read as it was. -/
namespace Go.Proofs.YtbjjpplhnibjdaaDoor
open Go Go.RowKit

theorem run_app (m : List Nat) (hm : ∀ c r, m = c :: r → ¬ (48 ≤ c ∧ c ≤ 57)) : ∀ p : List Nat, (∀ x ∈ p, 48 ≤ x ∧ x ≤ 57) → runN 48 57 (p ++ m) = p.length
  | [], _ => by
    cases m with
    | nil => rfl
    | cons c r => rw [List.nil_append, runN, if_neg (hm c r rfl)]; rfl
  | c :: p, h => by
    rw [List.cons_append, runN, if_pos (h c (List.mem_cons_self ..)), run_app m hm p (fun x hx => h x (List.mem_cons_of_mem _ hx))]
    rfl
theorem decN_dig : ∀ (k u : Nat), u < k → ∀ x ∈ decN u, 48 ≤ x ∧ x ≤ 57
  | 0, _, h => by omega
  | k + 1, u, h => by
    rw [decN]
    split
    · intro x hx; rw [List.mem_singleton.1 hx]; omega
    · intro x hx
      rcases List.mem_append.1 hx with hx | hx
      · exact decN_dig k (u / 10) (by omega) x hx
      · rw [List.mem_singleton.1 hx]; omega
theorem decN_pos (u : Nat) : 1 ≤ (decN u).length := by
  rw [decN]
  split <;> simp
theorem decN_head : ∀ (k u : Nat), u < k → u ≠ 0 → (decN u).getD 0 0 ≠ 48
  | 0, _, h, _ => by omega
  | k + 1, u, h, h0 => by
    rw [decN]
    split
    · show 48 + u ≠ 48; omega
    · have ih := decN_head k (u / 10) (by omega) (by omega)
      have hp := decN_pos (u / 10)
      rw [List.getD_eq_getElem?_getD, List.getElem?_append_left (by omega), ← List.getD_eq_getElem?_getD]
      exact ih
theorem decN_one : ∀ u, u ≠ 0 → (decN u).getD 0 0 ≠ 48 := fun u h => decN_head (u + 1) u (by omega) h
theorem numGo_app : ∀ (l : List Nat) (a c : Nat), numGo a (l ++ [c]) = (numGo a l).bind fun n => if bigB n (c - 48) then none else some (10 * n + (c - 48))
  | [], a, c => by
    rw [List.nil_append, numGo, numGo]
    simp only [Option.bind_some, numGo]
  | x :: l, a, c => by
    rw [List.cons_append, numGo, numGo]
    split
    · rfl
    · exact numGo_app l _ c
theorem bigB_small {n d : Nat} (h : ((10 * n + d : Nat) : Int) ≤ 4611686018427387904) : bigB n d = false := by
  unfold bigB
  exact decide_eq_false (by omega)
theorem numGo_dec : ∀ (k u : Nat), u < k → ((u : Nat) : Int) ≤ 4611686018427387904 → numGo 0 (decN u) = some u
  | 0, _, h, _ => by omega
  | k + 1, u, h, hu => by
    rw [decN]
    split
    · rw [numGo, bigB_small (by omega), numGo]
      simp
    · rw [numGo_app, numGo_dec k (u / 10) (by omega) (by omega)]
      simp only [Option.bind_some]
      rw [bigB_small (by omega)]
      simp
      omega
theorem numD_app (neg : Bool) (l m : List Nat) (u : Nat) (hu : ((u : Nat) : Int) ≤ 4611686018427387904) (hm : ∀ c r, m = c :: r → ¬ (48 ≤ c ∧ c ≤ 57)) (hn : neg = true → u ≠ 0) :
    numD neg (l ++ (decN u ++ m)) l.length = .ok (if neg then -(u : Int) else (u : Int), l.length + (decN u).length) := by
  have hd : (l ++ (decN u ++ m)).drop l.length = decN u ++ m := by simp
  have hr := run_app m hm (decN u) (decN_dig (u + 1) u (by omega))
  have hL : runL 48 57 (l ++ (decN u ++ m)) l.length = decN u := by
    unfold runL
    rw [hd, hr]
    simp
  have hp := decN_pos u
  unfold numD
  rw [hL, hd, hr, if_neg (by intro h; rw [h] at hp; simp at hp), numGo_dec (u + 1) u (by omega) hu, if_neg]
  rintro ⟨h1, h2⟩
  by_cases h0 : u = 0
  · subst h0
    have : decN 0 = [48] := by rw [decN]; rfl
    rw [this] at h2
    rcases h2 with h2 | h2
    · simp at h2
    · exact hn h2 rfl
  · exact decN_one u h0 h1
theorem tNumber_app (l m : List Nat) (n : Int) (h : smallB n = true) (hm : ∀ c r, m = c :: r → ¬ (48 ≤ c ∧ c ≤ 57)) : tNumber (l ++ (decI n ++ m)) l.length = .ok (n, l.length + (decI n).length) := by
  unfold smallB at h
  rw [Bool.and_eq_true, decide_eq_true_eq, decide_eq_true_eq] at h
  unfold tNumber decI
  by_cases hn : n < 0
  · rw [if_pos hn]
    have hmi : minusB (l ++ (45 :: decN n.natAbs ++ m)) l.length = true := by
      unfold minusB
      rw [List.cons_append, getD_app rfl rfl]
      simp
    rw [if_pos hmi]
    have := numD_app true (l ++ [45]) m n.natAbs (by omega) hm (fun _ => by omega)
    rw [show (l ++ [45] : List Nat) ++ (decN n.natAbs ++ m) = l ++ (45 :: decN n.natAbs ++ m) by simp, show (l ++ [45] : List Nat).length = l.length + 1 by simp] at this
    rw [this, if_pos rfl, show -((n.natAbs : Nat) : Int) = n by omega]
    simp
    omega
  · rw [if_neg hn]
    have hp := decN_pos n.toNat
    have hmi : minusB (l ++ (decN n.toNat ++ m)) l.length = false := by
      unfold minusB
      match hq : decN n.toNat, hp with
      | c :: r, _ =>
        have := decN_dig (n.toNat + 1) n.toNat (by omega) c (by rw [hq]; exact List.mem_cons_self ..)
        rw [List.cons_append, getD_app rfl rfl]
        simp
        omega
    rw [hmi, if_neg (by decide), numD_app false l m n.toNat (by omega) hm (fun h => by cases h), if_neg (by decide), show ((n.toNat : Nat) : Int) = n by omega]
end Go.Proofs.YtbjjpplhnibjdaaDoor

/- What is written is read as it was. -/
namespace Go.Proofs.YtbjjpplhnibjdaaDoor
open Go Go.RowKit

theorem run_app2 (f t : Nat) (m : List Nat) (hm : ∀ c r, m = c :: r → ¬ (f ≤ c ∧ c ≤ t)) : ∀ p : List Nat, (∀ x ∈ p, f ≤ x ∧ x ≤ t) → runN f t (p ++ m) = p.length
  | [], _ => by
    cases m with
    | nil => rfl
    | cons c r => rw [List.nil_append, runN, if_neg (hm c r rfl)]; rfl
  | c :: p, h => by
    rw [List.cons_append, runN, if_pos (h c (List.mem_cons_self ..)), run_app2 f t m hm p (fun x hx => h x (List.mem_cons_of_mem _ hx))]
    rfl
def setF (p : Nat) (a o : OpT) : OpT := if p = 112 then { a with path := o.path } else if p = 111 then { a with other := o.other } else if p = 104 then { a with handle := o.handle } else if p = 102 then { a with from_ := o.from_ } else if p = 110 then { a with n := o.n } else if p = 100 then { a with data := o.data } else a
def setAll : List Nat → OpT → OpT → OpT
  | [], a, _ => a
  | p :: ps, a, o => setAll ps (setF p a o) o
/-- The fields of an operation that may be read back. -/
structure Back (p : Nat) (o : OpT) : Prop where
  is : p = 112 ∨ p = 111 ∨ p = 104 ∨ p = 102 ∨ p = 110 ∨ p = 100
  path : ∀ b ∈ o.path, b < 256
  other : ∀ b ∈ o.other, b < 256
  data : ∀ b ∈ o.data, b < 256
  handle : p = 104 → smallB o.handle = true
  from_ : p = 102 → smallB o.from_ = true
  n : p = 110 → smallB o.n = true
theorem tPart_app (pre rest : List Nat) (a o : OpT) (p : Nat) (hb : Back p o) (hr : ∀ c r, rest = c :: r → c = 32) :
    tPart (pre ++ (32 :: (partS p o ++ rest))) p a pre.length = .ok (setF p a o, pre.length + 1 + (partS p o).length) := by
  have hn : tNeed (pre ++ 32 :: (partS p o ++ rest)) pre.length 32 = .ok (pre.length + 1) := need_app
  have hd : ∀ c r, rest = c :: r → ¬ (48 ≤ c ∧ c ≤ 57) := fun c r h => by rw [hr c r h]; decide
  have hl : pre ++ 32 :: (partS p o ++ rest) = (pre ++ [32]) ++ (partS p o ++ rest) := by simp
  have hlen : (pre ++ [32] : List Nat).length = pre.length + 1 := by simp
  rcases hb.is with rfl | rfl | rfl | rfl | rfl | rfl
  · have hq := tQuoted_app (pre ++ [32]) o.path rest hb.path
    rw [hlen] at hq
    exact tPart_112 hn (by rw [hl]; exact hq)
  · have hq := tQuoted_app (pre ++ [32]) o.other rest hb.other
    rw [hlen] at hq
    exact tPart_111 hn (by rw [hl]; exact hq)
  · have hq := tNumber_app (pre ++ [32]) rest o.handle (hb.handle rfl) hd
    rw [hlen] at hq
    exact tPart_104 hn (by rw [hl]; exact hq)
  · have hq := tNumber_app (pre ++ [32]) rest o.from_ (hb.from_ rfl) hd
    rw [hlen] at hq
    exact tPart_102 hn (by rw [hl]; exact hq)
  · have hq := tNumber_app (pre ++ [32]) rest o.n (hb.n rfl) hd
    rw [hlen] at hq
    exact tPart_110 hn (by rw [hl]; exact hq)
  · have hq := tQuoted_app (pre ++ [32]) o.data rest hb.data
    rw [hlen] at hq
    exact tPart_100 hn (by rw [hl]; exact hq)
theorem printB_head (ps : List Nat) (o : OpT) : ∀ c r, printB ps o = c :: r → c = 32 := by
  intro c r h
  cases ps with
  | nil => cases h
  | cons p ps => rw [printB] at h; injection h with h _; exact h.symm
theorem tParts_app (o : OpT) : ∀ (ps pre : List Nat) (a : OpT), (∀ p ∈ ps, Back p o) → tParts (pre ++ printB ps o) ps a pre.length = .ok (setAll ps a o, (pre ++ printB ps o).length)
  | [], pre, a, _ => by
    rw [printB, List.append_nil, tParts, setAll]
  | p :: ps, pre, a, h => by
    have P := tPart_app pre (printB ps o) a o p (h p (List.mem_cons_self ..)) (printB_head ps o)
    have IH := tParts_app o ps (pre ++ (32 :: partS p o)) (setF p a o) (fun q hq => h q (List.mem_cons_of_mem _ hq))
    have hl : pre ++ printB (p :: ps) o = (pre ++ (32 :: partS p o)) ++ printB ps o := by rw [printB]; simp
    have hlen : (pre ++ (32 :: partS p o)).length = pre.length + 1 + (partS p o).length := by simp; omega
    rw [hlen, ← hl] at IH
    rw [tParts, setAll]
    have P' : tPart (pre ++ printB (p :: ps) o) p a pre.length = .ok (setF p a o, pre.length + 1 + (partS p o).length) := P
    rw [P']
    exact IH
theorem word_fin : ∀ k, k ≤ 16 → k ≠ 0 → wordIdx (wordOf k) = some (k - 1) := by
  intro k h h0
  rcases kind_cases h with rfl | rfl | rfl | rfl | rfl | rfl | rfl | rfl | rfl | rfl | rfl | rfl | rfl | rfl | rfl | rfl | rfl
  all_goals first | exact absurd rfl h0 | rfl
theorem word_low : ∀ k, k ≤ 16 → ∀ x ∈ wordOf k, 97 ≤ x ∧ x ≤ 122 := by decide
theorem part_set (o : OpT) (hk : o.kind ≤ 16) (h0 : o.kind ≠ 0) : setAll (partsL o.kind) (zeroT o.kind) o = partT o := by
  unfold partT zeroT
  have hc := class_fin o.kind hk h0
  generalize partsL o.kind = ps at *
  generalize hasT o.kind = hs at *
  rcases hc with hc | hc | hc | hc | hc | hc | hc
  all_goals
    obtain ⟨rfl, rfl⟩ := Prod.mk.inj hc
    simp [setAll, setF]
theorem parse_print (o : OpT) (hk : o.kind ≤ 16) (h0 : o.kind ≠ 0) (hb : ∀ p ∈ partsL o.kind, Back p o) (hlen : (printL o).length ≤ 8192) : tParse (printL o) = .ok (partT o) := by
  have hp : printL o = wordOf o.kind ++ printB (partsL o.kind) o := by unfold printL; rw [if_neg (by omega)]
  have hh : ∀ c r, printB (partsL o.kind) o = c :: r → ¬ (97 ≤ c ∧ c ≤ 122) := fun c r h => by rw [printB_head _ o c r h]; decide
  have hr := run_app2 97 122 (printB (partsL o.kind) o) hh (wordOf o.kind) (word_low o.kind hk)
  have hL : runL 97 122 (wordOf o.kind ++ printB (partsL o.kind) o) 0 = wordOf o.kind := by
    unfold runL
    rw [List.drop_zero, hr]
    simp
  unfold tParse
  rw [if_neg (by omega), hp]
  unfold tOp
  rw [hL, hr, word_fin o.kind hk h0]
  simp only
  rw [show o.kind - 1 + 1 = o.kind by omega, tParts_app o (partsL o.kind) (wordOf o.kind) (zeroT o.kind) hb, part_set o hk h0, opEnd, if_neg (Nat.lt_irrefl _)]
end Go.Proofs.YtbjjpplhnibjdaaDoor

