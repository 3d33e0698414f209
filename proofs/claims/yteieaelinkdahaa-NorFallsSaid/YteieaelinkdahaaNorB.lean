/- The document's device: bytes as bits. -/
import Derived.Test.YteieaelinkdahaaNorQ
namespace Go.Proofs.Yteieaelinkdahaa
open Go.RowKit Flo

def bitB (x i : Nat) : Bool := x / 2 ^ i % 2 == 1
/-- What the bits of both come to. -/
def rBits (old other mask : Nat) (down : Bool) : Nat := if down then pUp other mask old else eUp mask old
def oneB (old other mask : Nat) (down : Bool) (i : Nat) : Bool := if bitB mask i then (if down then bitB old i && bitB other i else true) else bitB old i
theorem bitB_test (x i : Nat) : bitB x i = x.testBit i := by
  unfold bitB
  rw [Nat.testBit_eq_decide_div_mod_eq]
  by_cases h : x / 2 ^ i % 2 = 1 <;> simp [h]
theorem rBits_bit (old other mask : Nat) (down : Bool) (i : Nat) (hi : i < 8) (hm : mask < 256) : (rBits old other mask down).testBit i = oneB old other mask down i := by
  unfold rBits oneB
  simp only [bitB_test]
  cases down
  · simp only [Bool.false_eq_true, if_false]
    unfold eUp
    rw [Nat.testBit_or]
    cases old.testBit i <;> cases mask.testBit i <;> rfl
  · simp only [if_true]
    unfold pUp
    rw [Nat.testBit_and, Nat.testBit_or, show 255 - mask = 2 ^ 8 - (mask + 1) by omega, Nat.testBit_two_pow_sub_succ (show mask < 2 ^ 8 from hm)]
    simp only [hi, decide_true, Bool.true_and]
    cases old.testBit i <;> cases mask.testBit i <;> cases other.testBit i <;> rfl
theorem low_step (x i : Nat) : x % 2 ^ (i + 1) = x % 2 ^ i + (if x.testBit i then 2 ^ i else 0) := by
  rw [Nat.testBit_eq_decide_div_mod_eq, Nat.pow_succ, Nat.mod_mul]
  have : x / 2 ^ i % 2 < 2 := Nat.mod_lt _ (by decide)
  rcases (by omega : x / 2 ^ i % 2 = 0 ∨ x / 2 ^ i % 2 = 1) with h | h
  · simp [h]
  · simp [h]

set_option maxHeartbeats 4000000 in
set_option maxRecDepth 100000 in
theorem rbits_any (old other mask : Nat) (down : Bool) (w : World) (h1 : old < 256) (h3 : mask < 256) :
    Gives 86 #[.int .u8 old, .int .u8 other, .int .u8 mask, .bool down] w (.int .u8 (rBits old other mask down)) := by
  go_enter Try.func86, Try.ntmps86
  go_wp2_with fail
  have hR : rBits old other mask down < 256 := by unfold rBits; cases down; exact eUp_lt h1 h3; exact pUp_lt h1
  have hbit := fun i hi => Lib.hid (rBits_bit old other mask down i hi h3)
  obtain ⟨R, hRR⟩ : ∃ R, rBits old other mask down = R := ⟨_, rfl⟩
  rw [hRR] at hR hbit
  have HRR := Lib.hid hRR
  clear hRR
  go_loopw [9, 10, 11] (fun s9 s10 s11 wr => ∃ j : Nat, j ≤ 8 ∧ s11 = .int .i64 j ∧ s9 = .int .u8 (R % 2 ^ j : Nat) ∧ s10 = .int .u8 (2 ^ j % 256 : Nat) ∧ wr = w) (fun _ _ s11 _ => 8 - (intOf s11).toNat)
  case atStart => exact ⟨0, by decide, rfl, by simp [Nat.mod_one], rfl, rfl⟩
  case round =>
    obtain ⟨j, hj, rfl, rfl, rfl, rfl⟩ := hrel
    by_cases hlt : j < 8
    · have hb := (hbit j hlt).out
      have hst := low_step R j
      rw [hb] at hst
      have hPn : 2 ^ (j + 1) % 256 = 2 ^ j * 2 % 256 := by rw [Nat.pow_succ]
      have hPm : 2 ^ j % 256 = 2 ^ j := Nat.mod_eq_of_lt (Nat.lt_of_lt_of_le (Nat.pow_lt_pow_right (by decide) hlt) (by decide))
      have hlow : R % 2 ^ j < 2 ^ j := Nat.mod_lt _ (Nat.pow_pos (by decide))
      have hP0 : 0 < 2 ^ j := Nat.pow_pos (by decide)
      have hP8 : 2 ^ j < 256 := by rw [← hPm]; exact Nat.mod_lt _ (by decide)
      have hdv : ∀ x : Nat, (((x : Int) / ((2 ^ j : Nat) : Int)) % 2 == 1) = bitB x j := by
        intro x
        unfold bitB
        rw [show ((x : Int) / ((2 ^ j : Nat) : Int)) % 2 = ((x / 2 ^ j % 2 : Nat) : Int) by push_cast; rfl]
        by_cases hq : x / 2 ^ j % 2 = 1
        · rw [hq]; rfl
        · rw [beq_eq_false_iff_ne.2 hq, beq_eq_false_iff_ne.2 (by omega)]
      have d1 := hdv old
      have d2 := hdv other
      have d3 := hdv mask
      rw [hPm]
      have hsum : R % 2 ^ (j + 1) ≤ R := Nat.mod_le _ _
      rw [hst] at hsum
      have HST := Lib.hid hst
      have HPN := Lib.hid hPn
      clear hst hPn hPm hdv hbit
      unfold oneB at HST hsum
      generalize 2 ^ j = Q at *
      generalize R % Q = L at *
      cases e3 : bitB mask j <;> cases down <;> cases e1 : bitB old j <;> cases e2 : bitB other j
      all_goals
        rw [e1] at d1
        rw [e2] at d2
        rw [e3] at d3
        simp only [e1, e2, e3, if_true, if_false, Bool.false_eq_true, Bool.and_true, Bool.and_false, Nat.add_zero] at HST hsum
        go_wp2_with fail
        exact ⟨⟨j + 1, by omega, by go_num, by (rw [HST.out]; try (first | rfl | (push_cast; rfl))), by (rw [HPN.out]; try (push_cast; rfl)), trivial⟩, by simp [intOf]; omega⟩
    · obtain rfl : j = 8 := by omega
      go_wp2_with fail
      go_ret
      exact ⟨by rw [HRR.out, show R % 2 ^ 8 = R from Nat.mod_eq_of_lt hR]; rfl, rfl⟩
end Go.Proofs.Yteieaelinkdahaa
