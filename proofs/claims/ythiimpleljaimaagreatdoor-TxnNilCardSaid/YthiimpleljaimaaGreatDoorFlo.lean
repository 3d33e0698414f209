/- Plain laws on the words of float64 (no program in sight): what a word stands for, how two stand to each other, whole numbers from 0 on. -/
import Derived.Laws.FloatArith
import Derived.Laws.ComplexArith
namespace Go.Proofs.YthiimpleljaimaaGreatDoor.Flo
open Ieee

theorem least : double.leastPlace = -1074 := by decide
theorem signW : double.signWeight = 2 ^ 63 := by decide
theorem binadeW : double.binade = 2 ^ 52 := by decide
theorem infW : double.infRung = 2047 * 2 ^ 52 := by decide

/-- One, in units of 2^-1074. -/
def pw (k : Nat) : Nat := 2 ^ k
theorem pw_pos (k : Nat) : 0 < pw k := Nat.two_pow_pos k
def unit : Int := (pw 1074 : Nat)
theorem unit_pos : 0 < unit := by unfold unit; have := pw_pos 1074; omega
theorem pw_split (a b c : Nat) (h : a + b = c) : 2 ^ a * 2 ^ b = pw c := by unfold pw; rw [← Nat.pow_add, h]

/-- The value of a word in units of 2^-1074. -/
def val : Datum → Option Int
  | .number s m e => some (signed s m (e + 1074).toNat)
  | _ => none
def V (x : Nat) : Option Int := val (double.read x)

theorem read_place {x : Nat} {s : Bool} {m : Nat} {e : Int} (h : double.read x = .number s m e) : -1074 ≤ e := by
  unfold Format.read at h
  simp only [least] at h
  split at h
  · cases h; omega
  · split at h
    · injection h with h1 h2 h3; omega
    · split at h <;> cases h

theorem signed_mul (s : Bool) (m a b : Nat) : signed s m (a + b) = signed s m a * 2 ^ b := by
  unfold signed
  have h : m <<< (a + b) = (m <<< a) * 2 ^ b := by simp [Nat.shiftLeft_eq, Nat.pow_add, Nat.mul_assoc]
  rw [h]
  cases s <;> simp [Int.neg_mul]

theorem compare_mul (a b k : Int) (hk : 0 < k) : compare (a * k) (b * k) = compare a b := by
  simp only [compare, compareOfLessAndEq]
  have h1 : (a * k < b * k) = (a < b) := propext ⟨fun h => Int.lt_of_mul_lt_mul_right h (Int.le_of_lt hk), fun h => Int.mul_lt_mul_of_pos_right h hk⟩
  have h2 : (a * k = b * k) = (a = b) := propext ⟨fun h => Int.eq_of_mul_eq_mul_right (by omega) h, fun h => by rw [h]⟩
  simp only [h1, h2]

theorem order_num {x y : Nat} {v u : Int} (hx : V x = some v) (hy : V y = some u) : double.order x y = some (compare v u) := by
  unfold V at hx hy
  unfold Format.order
  cases h : double.read x with
  | nan => simp [h, val] at hx
  | infinity => simp [h, val] at hx
  | number s m i =>
    cases g : double.read y with
    | nan => simp [g, val] at hy
    | infinity => simp [g, val] at hy
    | number t n j =>
      have hi := read_place h
      have hj := read_place g
      simp only [h, val, Option.some.injEq] at hx
      simp only [g, val, Option.some.injEq] at hy
      subst hx; subst hy
      simp only [Datum.order]
      obtain ⟨b, hb⟩ : ∃ b : Nat, (min i j + 1074) = b := ⟨(min i j + 1074).toNat, by omega⟩
      have e1 : (i + 1074).toNat = (i - min i j).toNat + b := by omega
      have e2 : (j + 1074).toNat = (j - min i j).toNat + b := by omega
      rw [e1, e2, signed_mul, signed_mul, compare_mul _ _ _ (Int.pow_pos (by decide))]

/-- What has no value stands to nothing as equal, and not between two that have one. -/
theorem order_none {x y : Nat} {u : Int} (hx : V x = none) (hy : V y = some u) : double.order x y = none ∨ (∃ s, double.read x = .infinity s ∧ double.order x y = some (if s then .lt else .gt)) := by
  unfold V at hx hy
  unfold Format.order
  cases h : double.read x with
  | nan => exact .inl (by simp [Datum.order])
  | infinity s =>
    cases g : double.read y with
    | nan => simp [g, val] at hy
    | infinity => simp [g, val] at hy
    | number t n j => exact .inr ⟨s, rfl, by simp [Datum.order]⟩
  | number => simp [h, val] at hx

theorem cut_down (way : Toward) (neg : Bool) (n drop : Nat) (h : way = .zero ∨ (way = .down ∧ (neg = false ∨ n = 0))) : way.cut neg n drop = n / 2 ^ drop := by
  unfold Toward.cut
  simp only [Nat.shiftLeft_eq, Nat.one_mul]
  have hlow : n / 2 ^ (min drop (n.log2 + 2)) = n / 2 ^ drop := by
    by_cases hd : drop ≤ n.log2 + 2
    · rw [Nat.min_eq_left hd]
    · rw [Nat.min_eq_right (by omega)]
      have h1 : n < 2 ^ (n.log2 + 2) := Nat.lt_trans Nat.lt_log2_self (Nat.pow_lt_pow_right (by decide) (by omega))
      have h2 : n < 2 ^ drop := Nat.lt_of_lt_of_le h1 (Nat.pow_le_pow_right (by decide) (by omega))
      rw [Nat.div_eq_of_lt h1, Nat.div_eq_of_lt h2]
  rcases h with rfl | ⟨rfl, rfl | rfl⟩
  · simp [hlow]
  · simp [hlow]
  · simp

theorem nearest_zero (s : Bool) (e : Int) : V (double.nearest s 0 e) = some 0 := by
  unfold Format.nearest
  simp only [if_true]
  cases s
  · unfold V; decide
  · unfold V; decide

theorem log2_mul_pow (n k : Nat) (hn : n ≠ 0) : (n * 2 ^ k).log2 = n.log2 + k := by
  rw [Nat.log2_eq_iff (by have := Nat.two_pow_pos k; exact Nat.mul_ne_zero hn (by omega))]
  have h1 := Nat.log2_self_le hn
  have h2 := @Nat.lt_log2_self n
  constructor
  · rw [Nat.pow_add]; exact Nat.mul_le_mul_right _ h1
  · rw [show n.log2 + k + 1 = (n.log2 + 1) + k from by omega, Nat.pow_add]; exact Nat.mul_lt_mul_of_pos_right h2 (Nat.two_pow_pos k)

theorem read_rung (s : Bool) (E f : Nat) (hE : 1 ≤ E) (hE2 : E < 2047) (hf : f < 2 ^ 52) : double.read (double.word s (E * 2 ^ 52 + f)) = .number s (2 ^ 52 + f) (-1074 + ((E - 1 : Nat) : Int)) := by
  have hr : E * 2 ^ 52 + f < 2 ^ 63 := by omega
  have hneg : (double.word s (E * 2 ^ 52 + f) / 2 ^ 63 % 2 == 1) = s := by
    unfold Format.word; rw [signW]
    cases s
    · simp only [Bool.false_eq_true, if_false]; rw [Nat.div_eq_of_lt hr]; rfl
    · simp only [if_true]; rw [Nat.add_div_left _ (by decide), Nat.div_eq_of_lt hr]; rfl
  have hrung : double.word s (E * 2 ^ 52 + f) % 2 ^ 63 = E * 2 ^ 52 + f := by
    unfold Format.word; rw [signW]
    cases s
    · simp only [Bool.false_eq_true, if_false]; exact Nat.mod_eq_of_lt hr
    · simp only [if_true]; rw [Nat.add_mod_left]; exact Nat.mod_eq_of_lt hr
  unfold Format.read
  simp only [signW, binadeW, infW, least, hneg, hrung]
  rw [if_neg (by omega), if_pos (by omega)]
  have e1 : (E * 2 ^ 52 + f) % 2 ^ 52 = f := by omega
  have e2 : (E * 2 ^ 52 + f) / 2 ^ 52 = E := by omega
  rw [e1, e2]

/-- A whole number below 2^53, however it is written, is met to the bit. -/
theorem nearest_whole (s : Bool) (n k : Nat) (hn : n < 2 ^ 53) : V (double.nearest s (n * 2 ^ k) (-(k : Int))) = some ((if s then -(n : Int) else n) * unit) := by
  by_cases h0 : n = 0
  · subst h0
    rw [Nat.zero_mul, nearest_zero]; cases s <;> simp only [Int.natCast_zero, Int.neg_zero, if_true, if_false, Bool.false_eq_true, Int.zero_mul]
  · have hm : n * 2 ^ k ≠ 0 := Nat.mul_ne_zero h0 (by have := Nat.two_pow_pos k; omega)
    have hl : n.log2 < 53 := (Nat.log2_lt h0).2 hn
    have hlo := Nat.log2_self_le h0
    have hhi := @Nat.lt_log2_self n
    have hkept : ∀ last : Int, last = (n.log2 : Int) - 52 →
        Toward.even.cut s ((n * 2 ^ k) <<< ((-(k : Int)) - last).toNat) (last - (-(k : Int))).toNat = n * 2 ^ (52 - n.log2) := by
      intro last hlast
      by_cases hp : last ≤ -(k : Int)
      · have e1 : (last - -(k : Int)).toNat = 0 := by omega
        have e2 : n * 2 ^ k * 2 ^ (-(k : Int) - last).toNat = n * 2 ^ (52 - n.log2) := by
          rw [Nat.mul_assoc, ← Nat.pow_add]; congr 2; omega
        unfold Toward.cut
        simp only [e1, Nat.shiftLeft_eq, e2, Nat.zero_min, Nat.pow_zero, Nat.mul_one, Nat.div_one, Nat.mod_one]
        simp
      · have e1 : (-(k : Int) - last).toNat = 0 := by omega
        have e3 : (last - -(k : Int)).toNat = k - (52 - n.log2) := by omega
        have e2 : n * 2 ^ k = n * 2 ^ (52 - n.log2) * 2 ^ (k - (52 - n.log2)) := by
          rw [Nat.mul_assoc, ← Nat.pow_add]; congr 2; omega
        unfold Toward.cut
        simp only [e1, e3, Nat.shiftLeft_eq, Nat.pow_zero, Nat.mul_one, Nat.one_mul]
        rw [Nat.min_eq_left (by rw [log2_mul_pow _ _ h0]; omega)]
        have hp2 := Nat.two_pow_pos (k - (52 - n.log2))
        rw [e2, Nat.mul_div_cancel _ hp2, Nat.mul_mod_left]
        simp only [Nat.mul_zero, Nat.not_lt_zero, decide_false, Bool.false_or]
        have : ((2 ^ (k - (52 - n.log2)) == 0) : Bool) = false := by rw [beq_eq_false_iff_ne]; omega
        simp [this]
    have hK1 : 2 ^ 52 ≤ n * 2 ^ (52 - n.log2) := by
      have : 2 ^ n.log2 * 2 ^ (52 - n.log2) ≤ n * 2 ^ (52 - n.log2) := Nat.mul_le_mul_right _ hlo
      rwa [← Nat.pow_add, show n.log2 + (52 - n.log2) = 52 from by omega] at this
    have hK2 : n * 2 ^ (52 - n.log2) < 2 ^ 53 := by
      have : n * 2 ^ (52 - n.log2) < 2 ^ (n.log2 + 1) * 2 ^ (52 - n.log2) := Nat.mul_lt_mul_of_pos_right hhi (Nat.two_pow_pos _)
      rwa [← Nat.pow_add, show n.log2 + 1 + (52 - n.log2) = 53 from by omega] at this
    unfold V Format.nearest
    rw [if_neg hm]
    simp only [log2_mul_pow _ _ h0, least, binadeW, infW, show (double.fractionBits : Int) = 52 from rfl]
    have hlast : max (-(k : Int) + ((n.log2 + k : Nat) : Int) - 52) (-1074) = (n.log2 : Int) - 52 := by omega
    rw [hlast, hkept _ rfl]
    have hmin : min (((n.log2 : Int) - 52 - -1074).toNat * 2 ^ 52 + n * 2 ^ (52 - n.log2)) (2047 * 2 ^ 52) = (1023 + n.log2) * 2 ^ 52 + (n * 2 ^ (52 - n.log2) - 2 ^ 52) := by
      have : ((n.log2 : Int) - 52 - -1074).toNat = 1022 + n.log2 := by omega
      rw [this]; omega
    rw [hmin, read_rung s _ _ (by omega) (by omega) (by omega)]
    simp only [val]
    have e4 : (-1074 + ((1023 + n.log2 - 1 : Nat) : Int) + 1074).toNat = 1022 + n.log2 := by omega
    have e5 : 2 ^ 52 + (n * 2 ^ (52 - n.log2) - 2 ^ 52) = n * 2 ^ (52 - n.log2) := by omega
    rw [e4, e5]
    have e6 : n * 2 ^ (52 - n.log2) * 2 ^ (1022 + n.log2) = n * pw 1074 := by
      rw [Nat.mul_assoc, pw_split _ _ 1074 (by omega)]
    unfold signed
    rw [Nat.shiftLeft_eq, e6]
    have e7 : ((n * pw 1074 : Nat) : Int) = (n : Int) * unit := by unfold unit; exact Int.natCast_mul _ _
    generalize unit = q at e7 ⊢
    cases s
    · simp only [Bool.false_eq_true, if_false]; rw [e7]
    · simp only [if_true]; rw [e7, Int.neg_mul]

theorem nearest_int (n : Nat) (hn : n < 2 ^ 53) : V (floatOfInt .f64 (n : Int)) = some ((n : Int) * unit) := by
  have h := nearest_whole false n 0 hn
  simp only [Nat.pow_zero, Nat.mul_one, Int.natCast_zero, Int.neg_zero, Bool.false_eq_true, if_false] at h
  have e : floatOfInt .f64 (n : Int) = double.nearest false n 0 := by
    have : ¬ ((n : Int) < 0) := by omega
    simp only [floatOfInt, FloatKind.nearest, FloatKind.encode, FloatKind.format, Format.write, decide_eq_false this, Int.natAbs_natCast]
  rw [e]; exact h

/-- x is the whole number n, and that lies within a part of a place. -/
def Whole (x n : Nat) : Prop := V x = some ((n : Int) * unit) ∧ n ≤ 2147483647

theorem Whole.eq {x n m : Nat} (h : Whole x n) (k : Whole x m) : n = m := by
  have := h.1.symm.trans k.1
  have e := Int.eq_of_mul_eq_mul_right (by have := unit_pos; omega) (Option.some.inj this)
  omega

theorem nearest_Whole {n : Nat} (h : n ≤ 2147483647) : Whole (floatOfInt .f64 (n : Int)) n := ⟨nearest_int n (by omega), h⟩

theorem V_zero : V 0 = some (0 * unit) := by rw [Int.zero_mul]; unfold V; decide
theorem V_top : V 4746794007244308480 = some (2147483647 * unit) := by
  have h : floatOfInt .f64 ((2147483647 : Nat) : Int) = 4746794007244308480 := by decide
  rw [← h]; exact nearest_int _ (by decide)
theorem V_over : V 4746794007248502784 = some (2147483648 * unit) := by
  have h : floatOfInt .f64 ((2147483648 : Nat) : Int) = 4746794007248502784 := by decide
  rw [← h]; exact nearest_int _ (by decide)
theorem V_one : V 4607182418800017408 = some (1 * unit) := by
  have h : floatOfInt .f64 ((1 : Nat) : Int) = 4607182418800017408 := by decide
  rw [← h]; exact nearest_int _ (by decide)

theorem cmp_eq (a b : Int) : (some (compare a b) == some Ordering.eq) = decide (a = b) := by
  rw [Bool.eq_iff_iff]; simp
theorem cmp_lt (a b : Int) : (some (compare a b) == some Ordering.lt) = decide (a < b) := by
  rw [Bool.eq_iff_iff]; simp [Int.compare_eq_lt]
theorem cmp_gt (a b : Int) : (some (compare a b) == some Ordering.gt) = decide (b < a) := by
  rw [Bool.eq_iff_iff]; simp [Int.compare_eq_gt]

/-- Go's '==' on two words that have values. -/
theorem eqv {x y : Nat} {v u : Int} (hx : V x = some v) (hy : V y = some u) : (double.order x y == some Ordering.eq) = decide (v = u) := by rw [order_num hx hy, cmp_eq]
def ge0 (x : Nat) : Bool := double.order x 0 == some Ordering.gt || double.order x 0 == some Ordering.eq
def leTop (x : Nat) : Bool := double.order x 4746794007244308480 == some Ordering.lt || double.order x 4746794007244308480 == some Ordering.eq
def ltOver (x : Nat) : Bool := double.order x 4746794007248502784 == some Ordering.lt

theorem ge0_num {x : Nat} {v : Int} (h : V x = some v) : ge0 x = decide (0 ≤ v) := by
  unfold ge0; rw [order_num h V_zero, cmp_gt, cmp_eq, Int.zero_mul, Bool.eq_iff_iff]; simp; omega
theorem leTop_num {x : Nat} {v : Int} (h : V x = some v) : leTop x = decide (v ≤ 2147483647 * unit) := by
  unfold leTop; rw [order_num h V_top, cmp_lt, cmp_eq, Bool.eq_iff_iff]; simp; omega
theorem ltOver_num {x : Nat} {v : Int} (h : V x = some v) : ltOver x = decide (v < 2147483648 * unit) := by
  unfold ltOver; rw [order_num h V_over, cmp_lt]

theorem range_none {x : Nat} (h : V x = none) : (ge0 x = false) ∨ (leTop x = false ∧ ltOver x = false) := by
  unfold ge0 leTop ltOver
  rcases order_none h V_zero with h0 | ⟨s, hs, h0⟩
  · left; rw [h0]; rfl
  · rcases order_none h V_top with h1 | ⟨s1, hs1, h1⟩
    · unfold Format.order Datum.order at h1; rw [hs] at h1
      have hv := V_top; unfold V at hv
      cases g : double.read 4746794007244308480 <;> simp [g, val] at hv h1
    · rcases order_none h V_over with h2 | ⟨s2, hs2, h2⟩
      · unfold Format.order Datum.order at h2; rw [hs] at h2
        have hv := V_over; unfold V at hv
        cases g : double.read 4746794007248502784 <;> simp [g, val] at hv h2
      · rw [hs] at hs1 hs2; cases hs1; cases hs2
        cases s
        · right; rw [h1, h2]; exact ⟨rfl, rfl⟩
        · left; rw [h0]; rfl

theorem pw_div1 (m a T : Nat) : m * 2 ^ (a + T) / pw T = m * 2 ^ a := by
  unfold pw; rw [Nat.pow_add, ← Nat.mul_assoc, Nat.mul_div_cancel _ (Nat.two_pow_pos _)]
theorem pw_div2 (m a b T : Nat) (h : T = a + b) : m * 2 ^ a / pw T = m / 2 ^ b := by
  unfold pw; rw [h, Nat.pow_add, ← Nat.div_div_eq_div_mul, Nat.mul_div_cancel _ (Nat.two_pow_pos _)]

/-- A number from 0 on, cut to a whole one. -/
theorem cut_num {x : Nat} {s : Bool} {m : Nat} {e : Int} {v : Int} (h : double.read x = .number s m e) (hv : V x = some v) (h0 : 0 ≤ v) (way : Toward) (hw : way = .zero ∨ way = .down) :
    (way.cut s (m <<< e.toNat) (-e).toNat : Int) = v / unit ∧ (s = true → m = 0) := by
  have he := read_place h
  unfold V at hv
  simp only [h, val, Option.some.injEq] at hv
  have hs : s = true → m = 0 := by
    intro hs; subst hs; subst hv
    simp only [signed, if_true] at h0
    have : m <<< (e + 1074).toNat = 0 := by
      generalize m <<< (e + 1074).toNat = q at h0
      omega
    rw [Nat.shiftLeft_eq] at this
    rcases Nat.mul_eq_zero.1 this with h | h
    · exact h
    · exact absurd h (by have := Nat.two_pow_pos (e + 1074).toNat; omega)
  refine ⟨?_, hs⟩
  have hcut : way.cut s (m <<< e.toNat) (-e).toNat = (m <<< e.toNat) / 2 ^ (-e).toNat := by
    refine cut_down _ _ _ _ ?_
    rcases hw with rfl | rfl
    · exact .inl rfl
    · refine .inr ⟨rfl, ?_⟩
      cases hb : s
      · exact .inl rfl
      · exact .inr (by rw [hs hb, Nat.zero_shiftLeft])
  have hvn : v = ((m * 2 ^ (e + 1074).toNat : Nat) : Int) := by
    subst hv
    unfold signed
    rw [Nat.shiftLeft_eq]
    cases hb : s
    · simp only [Bool.false_eq_true, if_false]
    · simp only [if_true]; rw [hs hb, Nat.zero_mul]; rfl
  rw [hcut, hvn]
  unfold unit
  rw [← Int.natCast_ediv]
  congr 1
  rw [Nat.shiftLeft_eq]
  by_cases hp : 0 ≤ e
  · have e1 : (-e).toNat = 0 := by omega
    have e2 : (e + 1074).toNat = e.toNat + 1074 := by omega
    rw [e1, e2, pw_div1, Nat.pow_zero, Nat.div_one]
  · have e1 : e.toNat = 0 := by omega
    rw [e1, pw_div2 m _ (-e).toNat 1074 (by omega), Nat.pow_zero, Nat.mul_one]

theorem toInt_num {x : Nat} {v : Int} (hv : V x = some v) (h0 : 0 ≤ v) (h1 : v < 9223372036854775808 * unit) : floatToIntVal .f64 x .i64 = some (v / unit) := by
  cases h : double.read x with
  | nan => simp [V, h, val] at hv
  | infinity => simp [V, h, val] at hv
  | number s m e =>
    obtain ⟨hc, hs⟩ := cut_num h hv h0 .zero (.inl rfl)
    have hr : (FloatKind.f64.decode x).toInt .zero = some (v / unit) := by
      show (double.read x).toInt .zero = _
      rw [h]
      unfold Datum.toInt Datum.integral
      simp only [signed, Nat.shiftLeft_zero, hc]
      cases hb : s
      · simp
      · have : v / unit = 0 := by
          rw [← hc, hs hb]; simp [Toward.cut]
        simp [this]
    unfold floatToIntVal
    rw [hr]
    have h2 : 0 ≤ v / unit := Int.ediv_nonneg h0 (Int.le_of_lt unit_pos)
    have h3 : v / unit < 9223372036854775808 := Int.ediv_lt_of_lt_mul unit_pos h1
    simp only []
    rw [if_pos]
    have e1 : IntKind.i64.min = -9223372036854775808 := by decide
    have e2 : IntKind.i64.max = 9223372036854775807 := by decide
    rw [e1, e2]
    constructor <;> omega

/-- math.Floor of a number from 0 on. -/
theorem floor_num {x : Nat} {v : Int} (hv : V x = some v) (h0 : 0 ≤ v) (h1 : v < 2147483648 * unit) :
    ∃ s m e, double.read x = .number s m e ∧ V (double.write ((Datum.number s m e).integral .down)) = some (v / unit * unit) := by
  cases h : double.read x with
  | nan => simp [V, h, val] at hv
  | infinity => simp [V, h, val] at hv
  | number s m e =>
    refine ⟨s, m, e, rfl, ?_⟩
    obtain ⟨hc, hs⟩ := cut_num h hv h0 .down (.inr rfl)
    have h2 : 0 ≤ v / unit := Int.ediv_nonneg h0 (Int.le_of_lt unit_pos)
    have h3 : v / unit < 2147483648 := Int.ediv_lt_of_lt_mul unit_pos h1
    unfold Datum.integral Format.write
    simp only []
    generalize hg : Toward.down.cut s (m <<< e.toNat) (-e).toNat = c at hc ⊢
    have := nearest_whole s c 0 (by omega)
    simp only [Nat.pow_zero, Nat.mul_one, Int.natCast_zero, Int.neg_zero] at this
    rw [this]
    cases hb : s
    · simp only [Bool.false_eq_true, if_false]; rw [hc]
    · have hz : c = 0 := by rw [← hg, hs hb]; simp [Toward.cut]
      simp only [if_true]; rw [← hc, hz]; rfl

/-- What place.whole asks of a word: inside the range, cut and back the same. -/
def wholeB (x : Nat) : Bool := ge0 x && leTop x && (match floatToIntVal .f64 x .i64 with | some c => double.order (floatOfInt .f64 c) x == some Ordering.eq | none => false)

/-- The number of a word, as a part of a place; none: it is none. -/
noncomputable def part? (x : Nat) : Option Nat := open Classical in if h : ∃ n, Whole x n then some (Classical.choose h) else none

theorem part_some {x n : Nat} (h : Whole x n) : part? x = some n := by
  unfold part?
  have hx : ∃ n, Whole x n := ⟨n, h⟩
  rw [dif_pos hx, (Classical.choose_spec hx).eq h]
theorem part_of {x n : Nat} (h : part? x = some n) : Whole x n := by
  unfold part? at h
  split at h
  · rename_i hx; cases h; exact Classical.choose_spec hx
  · cases h
theorem part_none {x : Nat} (h : part? x = none) (n : Nat) : ¬ Whole x n := fun hw => by rw [part_some hw] at h; cases h
theorem part_le {x n : Nat} (h : part? x = some n) : n ≤ 2147483647 := (part_of h).2

theorem Whole.range {x n : Nat} (h : Whole x n) : ge0 x = true ∧ leTop x = true ∧ ltOver x = true ∧ floatToIntVal .f64 x .i64 = some (n : Int) ∧ (double.order (floatOfInt .f64 (n : Int)) x == some Ordering.eq) = true := by
  have hu := unit_pos
  have hn := h.2
  have h0 : 0 ≤ (n : Int) * unit := Int.mul_nonneg (by omega) (by omega)
  have h1 : (n : Int) * unit ≤ 2147483647 * unit := Int.mul_le_mul_of_nonneg_right (by omega) (by omega)
  refine ⟨?_, ?_, ?_, ?_, ?_⟩
  · rw [ge0_num h.1]; simpa using h0
  · rw [leTop_num h.1]; simpa using h1
  · rw [ltOver_num h.1]; simp; omega
  · rw [toInt_num h.1 h0 (by omega), Int.mul_ediv_cancel _ (by omega)]
  · rw [eqv (nearest_int n (by omega)) h.1]; simp

/-- What is no part of a place: out of the range; or it is cut to another number, and its floor is another one. -/
theorem not_whole {x : Nat} (h : part? x = none) :
    (ge0 x = false) ∨ (ge0 x = true ∧ leTop x = false ∧ (ltOver x = false ∨ (ltOver x = true ∧ ∃ s m e, double.read x = .number s m e ∧ (double.order (double.write ((Datum.number s m e).integral .down)) x == some Ordering.eq) = false))) ∨
    (ge0 x = true ∧ leTop x = true ∧ ltOver x = true ∧ (∃ c : Int, 0 ≤ c ∧ c ≤ 2147483647 ∧ floatToIntVal .f64 x .i64 = some c ∧ (double.order (floatOfInt .f64 c) x == some Ordering.eq) = false) ∧
      ∃ s m e, double.read x = .number s m e ∧ (double.order (double.write ((Datum.number s m e).integral .down)) x == some Ordering.eq) = false) := by
  have hu := unit_pos
  cases hv : V x with
  | none =>
    rcases range_none hv with h1 | ⟨h1, h2⟩
    · exact .inl h1
    · cases hg : ge0 x
      · exact .inl rfl
      · exact .inr (.inl ⟨rfl, h1, .inl h2⟩)
  | some v =>
    by_cases h0 : 0 ≤ v
    · have hg : ge0 x = true := by rw [ge0_num hv]; simpa using h0
      by_cases h1 : v < 2147483648 * unit
      · have hl : ltOver x = true := by rw [ltOver_num hv]; simpa using h1
        have hq0 : 0 ≤ v / unit := Int.ediv_nonneg h0 (by omega)
        have hq1 : v / unit < 2147483648 := Int.ediv_lt_of_lt_mul hu h1
        have hne : v / unit * unit ≠ v := by
          intro e
          refine part_none h (v / unit).toNat ⟨?_, by omega⟩
          rw [hv, show (((v / unit).toNat : Nat) : Int) = v / unit from by omega, e]
        obtain ⟨s, m, e, hr, hf⟩ := floor_num hv h0 h1
        have hfl : (double.order (double.write ((Datum.number s m e).integral .down)) x == some Ordering.eq) = false := by
          rw [eqv hf hv]; simpa using hne
        by_cases h2 : v ≤ 2147483647 * unit
        · refine .inr (.inr ⟨hg, by rw [leTop_num hv]; simpa using h2, hl, ⟨v / unit, hq0, by omega, toInt_num hv h0 (by omega), ?_⟩, s, m, e, hr, hfl⟩)
          have hn := nearest_int (v / unit).toNat (by omega)
          rw [show (((v / unit).toNat : Nat) : Int) = v / unit from by omega] at hn
          rw [eqv hn hv]; simpa using hne
        · exact .inr (.inl ⟨hg, by rw [leTop_num hv]; simpa using h2, .inr ⟨hl, s, m, e, hr, hfl⟩⟩)
      · refine .inr (.inl ⟨hg, ?_, .inl ?_⟩)
        · rw [leTop_num hv]; simp; omega
        · rw [ltOver_num hv]; simp; omega
    · exact .inl (by rw [ge0_num hv]; simpa using h0)

/-! ### Sums and products of whole numbers -/

theorem nearest_intZ (z : Int) (h : z.natAbs < 2 ^ 53) : V (floatOfInt .f64 z) = some (z * unit) := by
  have hh := nearest_whole (decide (z < 0)) z.natAbs 0 h
  simp only [Nat.pow_zero, Nat.mul_one, Int.natCast_zero, Int.neg_zero] at hh
  have e : floatOfInt .f64 z = double.nearest (decide (z < 0)) z.natAbs 0 := by
    simp only [floatOfInt, FloatKind.nearest, FloatKind.encode, FloatKind.format, Format.write]
  rw [e, hh]
  congr 2
  by_cases h0 : z < 0
  · rw [decide_eq_true h0, if_pos rfl]; omega
  · rw [decide_eq_false h0, if_neg (by decide)]; omega

/-- A datum of a whole number, not too great: its digits reach down to the units' place or below. -/
def Small (d : Datum) (a : Int) : Prop := ∃ s m, ∃ k : Nat, d = .number s m (-(k : Int)) ∧ k ≤ 1074 ∧ (if s then -(m : Int) else m) = a * (2 ^ k : Nat)

theorem signed_eq (s : Bool) (m u : Nat) : signed s m u = (if s then -(m : Int) else m) * (2 ^ u : Nat) := by
  unfold signed
  rw [Nat.shiftLeft_eq]
  cases s <;> simp [Int.neg_mul]

theorem small_of {x : Nat} {a : Int} (h : V x = some (a * unit)) (ha : a.natAbs < 2 ^ 52) : Small (double.read x) a := by
  cases g : double.read x with
  | nan => simp [V, g, val] at h
  | infinity => simp [V, g, val] at h
  | number s m i =>
    have hi := read_place g
    simp only [V, g, val, Option.some.injEq] at h
    rw [signed_eq] at h
    have hm : i = -1074 ∨ 2 ^ 52 ≤ m := by
      unfold Format.read at g
      simp only [least, binadeW] at g
      split at g
      · cases g; exact .inl rfl
      · split at g
        · injection g with h1 h2 h3; right; omega
        · split at g <;> cases g
    have hle : i ≤ 0 := by
      rcases hm with h1 | h1
      · omega
      · by_cases hp : i ≤ 0
        · exact hp
        · exfalso
          have e1 : (i + 1074).toNat = i.toNat + 1074 := by omega
          rw [e1, Nat.pow_add] at h
          have e2 : (if s = true then -(m : Int) else (m : Int)) * (2 ^ i.toNat : Nat) = a := by
            have hu := unit_pos
            refine Int.eq_of_mul_eq_mul_right (a := unit) (by omega) ?_
            rw [← h]
            unfold unit pw
            rw [Int.natCast_mul, Int.mul_assoc]
          have hp2 : 1 ≤ 2 ^ i.toNat := Nat.two_pow_pos _
          have e3 : a.natAbs = m * 2 ^ i.toNat := by
            rw [← e2, Int.natAbs_mul, Int.natAbs_natCast]
            congr 1
            cases s <;> simp
          have : m * 1 ≤ m * 2 ^ i.toNat := Nat.mul_le_mul_left _ hp2
          omega
    obtain ⟨k, hk⟩ : ∃ k : Nat, i = -(k : Int) := ⟨(-i).toNat, by omega⟩
    subst hk
    refine ⟨s, m, k, rfl, by omega, ?_⟩
    have e1 : (-(k : Int) + 1074).toNat = 1074 - k := by omega
    have e2 : unit = ((2 ^ k : Nat) : Int) * ((2 ^ (1074 - k) : Nat) : Int) := by
      rw [← Int.natCast_mul, pw_split k (1074 - k) 1074 (by omega)]; rfl
    rw [e1, e2, ← Int.mul_assoc] at h
    exact Int.eq_of_mul_eq_mul_right (by have := Nat.two_pow_pos (1074 - k); omega) h

theorem sum_small {d1 d2 : Datum} {a b : Int} (h1 : Small d1 a) (h2 : Small d2 b) (hs : (a + b).natAbs < 2 ^ 53) : ∃ d, d1.sum d2 = some d ∧ V (double.write d) = some ((a + b) * unit) := by
  obtain ⟨s, m, k, rfl, hk, e1⟩ := h1
  obtain ⟨t, n, l, rfl, hl, e2⟩ := h2
  unfold Datum.sum
  refine ⟨_, rfl, ?_⟩
  obtain ⟨b0, hb0⟩ : ∃ b0 : Nat, min (-(k : Int)) (-(l : Int)) = -(b0 : Int) ∧ b0 = max k l := ⟨max k l, by omega, rfl⟩
  rw [hb0.1]
  have t1 : signed s m (-(k : Int) - -(b0 : Int)).toNat = a * (2 ^ b0 : Nat) := by
    rw [signed_eq, e1, Int.mul_assoc, ← Int.natCast_mul, ← Nat.pow_add]; congr 3; omega
  have t2 : signed t n (-(l : Int) - -(b0 : Int)).toNat = b * (2 ^ b0 : Nat) := by
    rw [signed_eq, e2, Int.mul_assoc, ← Int.natCast_mul, ← Nat.pow_add]; congr 3; omega
  rw [t1, t2, ← Int.add_mul]
  have hpos : (0 : Int) < (2 ^ b0 : Nat) := by have := Nat.two_pow_pos b0; omega
  have habs : ((a + b) * (2 ^ b0 : Nat)).natAbs = (a + b).natAbs * 2 ^ b0 := by rw [Int.natAbs_mul, Int.natAbs_natCast]
  simp only [Format.write]
  rw [habs, nearest_whole _ _ _ hs]
  congr 2
  by_cases hz : a + b = 0
  · rw [hz]; simp
  · have hne : ¬ (a + b) * ((2 ^ b0 : Nat) : Int) = 0 := by
      intro h; rcases Int.mul_eq_zero.1 h with h | h <;> omega
    rw [if_neg hne]
    by_cases hn : a + b < 0
    · have : (a + b) * ((2 ^ b0 : Nat) : Int) < 0 := Int.mul_neg_of_neg_of_pos hn hpos
      rw [decide_eq_true this, if_pos rfl]; omega
    · have : ¬ (a + b) * ((2 ^ b0 : Nat) : Int) < 0 := by have := Int.mul_nonneg (by omega : 0 ≤ a + b) (Int.le_of_lt hpos); omega
      rw [decide_eq_false this, if_neg (by decide)]; omega

theorem add_small {x y : Nat} {a b : Int} (hx : V x = some (a * unit)) (hy : V y = some (b * unit)) (ha : a.natAbs < 2 ^ 52) (hb : b.natAbs < 2 ^ 52) :
    ∃ r, floatBits .add .f64 x y = some r ∧ V r = some ((a + b) * unit) := by
  obtain ⟨d, hd, hv⟩ := sum_small (small_of hx ha) (small_of hy hb) (by omega)
  refine ⟨double.write d, ?_, hv⟩
  show double.add x y = _
  unfold Format.add
  rw [hd]; rfl

theorem small_opposite {d : Datum} {a : Int} (h : Small d a) : Small d.opposite (-a) := by
  obtain ⟨s, m, k, rfl, hk, e⟩ := h
  refine ⟨!s, m, k, rfl, hk, ?_⟩
  rw [Int.neg_mul, ← e]
  cases s <;> simp

theorem sub_small {x y : Nat} {a b : Int} (hx : V x = some (a * unit)) (hy : V y = some (b * unit)) (ha : a.natAbs < 2 ^ 52) (hb : b.natAbs < 2 ^ 52) :
    ∃ r, floatBits .sub .f64 x y = some r ∧ V r = some ((a - b) * unit) := by
  obtain ⟨d, hd, hv⟩ := sum_small (small_of hx ha) (small_opposite (small_of hy hb)) (by omega)
  refine ⟨double.write d, ?_, by rw [hv]; rfl⟩
  show double.sub x y = _
  unfold Format.sub
  rw [hd]; rfl

theorem mul_small {x y : Nat} {a b : Int} (hx : V x = some (a * unit)) (hy : V y = some (b * unit)) (ha : a.natAbs < 2 ^ 52) (hb : b.natAbs < 2 ^ 52) (hab : (a * b).natAbs < 2 ^ 53) :
    ∃ r, floatBits .mul .f64 x y = some r ∧ V r = some (a * b * unit) := by
  obtain ⟨s, m, k, e1, hk, h1⟩ := small_of hx ha
  obtain ⟨t, n, l, e2, hl, h2⟩ := small_of hy hb
  refine ⟨double.write (.number (s ^^ t) (m * n) (-((k + l : Nat) : Int))), ?_, ?_⟩
  · show double.mul x y = _
    unfold Format.mul
    rw [e1, e2]
    simp only [Datum.product, Option.map_some]
    congr 3
    omega
  · have hm : m = a.natAbs * 2 ^ k := by
      have := congrArg Int.natAbs h1
      rw [Int.natAbs_mul, Int.natAbs_natCast] at this
      rw [← this]; cases s <;> simp
    have hn : n = b.natAbs * 2 ^ l := by
      have := congrArg Int.natAbs h2
      rw [Int.natAbs_mul, Int.natAbs_natCast] at this
      rw [← this]; cases t <;> simp
    have hmn : m * n = (a * b).natAbs * 2 ^ (k + l) := by
      rw [hm, hn, Int.natAbs_mul, Nat.pow_add]
      simp only [Nat.mul_assoc, Nat.mul_left_comm]
    simp only [Format.write]
    rw [hmn, nearest_whole _ _ _ hab]
    congr 2
    have hk2 : (0 : Int) < (2 ^ k : Nat) := by have := Nat.two_pow_pos k; omega
    have hl2 : (0 : Int) < (2 ^ l : Nat) := by have := Nat.two_pow_pos l; omega
    have key : (if (s ^^ t) = true then -((m * n : Nat) : Int) else ((m * n : Nat) : Int)) = a * b * (2 ^ (k + l) : Nat) := by
      have : (if (s ^^ t) = true then -((m * n : Nat) : Int) else ((m * n : Nat) : Int)) = (if s = true then -(m : Int) else m) * (if t = true then -(n : Int) else n) := by
        cases s <;> cases t <;> simp [Int.neg_mul, Int.mul_neg]
      rw [this, h1, h2, Nat.pow_add, Int.natCast_mul]
      simp only [Int.mul_assoc, Int.mul_left_comm]
    rw [hmn, Int.natCast_mul] at key
    have hkl : ((2 ^ (k + l) : Nat) : Int) ≠ 0 := by have := Nat.two_pow_pos (k + l); omega
    refine Int.eq_of_mul_eq_mul_right hkl ?_
    rw [← key]
    cases (s ^^ t) <;> simp [Int.neg_mul]

/-- One byte further: '1i * complex(n, 0)' put to a place. -/
theorem step_mul {n : Int} (hn : n.natAbs < 2 ^ 52) : ∃ re im, cMulBits 0 4607182418800017408 (floatOfInt .f64 n) 0 = some (re, im) ∧ V re = some (0 * unit) ∧ V im = some (n * unit) := by
  have hN := nearest_intZ n (by omega)
  obtain ⟨ac, h1, v1⟩ := mul_small V_zero hN (by decide) hn (by simp)
  obtain ⟨bd, h2, v2⟩ := mul_small V_one V_zero (by decide) (by decide) (by decide)
  obtain ⟨re, h3, v3⟩ := sub_small v1 v2 (by simp) (by decide)
  obtain ⟨ad, h4, v4⟩ := mul_small V_zero V_zero (by decide) (by decide) (by decide)
  obtain ⟨bc, h5, v5⟩ := mul_small V_one hN (by decide) hn (by simp; omega)
  obtain ⟨im, h6, v6⟩ := add_small v4 v5 (by decide) (by simpa using hn)
  refine ⟨re, im, ?_, ?_, ?_⟩
  · unfold cMulBits
    rw [h1, h2]; simp only [Option.bind_some]
    rw [h3]; simp only [Option.bind_some]
    rw [h4, h5]; simp only [Option.bind_some]
    rw [h6]; rfl
  · rw [v3]; simp
  · rw [v6]; simp
end Go.Proofs.YthiimpleljaimaaGreatDoor.Flo
