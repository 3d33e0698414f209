/- Numbers as bytes, the greatest first (the plain part of packing). -/
import Derived.Test.YtbjjpplhnibjdaaDoorBase
namespace Go.Proofs.YtbjjpplhnibjdaaDoor
open Go.RowKit

/-- The low n bytes of x, the greatest first. -/
def be : Nat → Nat → List Nat
  | 0, _ => []
  | n + 1, x => (x / 256 ^ n % 256) :: be n x
/-- .. the least first. -/
def le : Nat → Nat → List Nat
  | 0, _ => []
  | n + 1, x => le n x ++ [x / 256 ^ n % 256]
theorem be_len : ∀ n x, (be n x).length = n
  | 0, _ => rfl
  | n + 1, x => by rw [be, List.length_cons, be_len]
theorem le_rev : ∀ n x, (le n x).reverse = be n x
  | 0, _ => rfl
  | n + 1, x => by rw [le, be, List.reverse_append, le_rev]; rfl
theorem le_len (n x : Nat) : (le n x).length = n := by rw [← List.length_reverse, le_rev, be_len]
theorem be_lt : ∀ n x, ∀ b ∈ be n x, b < 256
  | 0, _, b, h => by cases h
  | n + 1, x, b, h => by
    rcases List.mem_cons.1 h with rfl | h
    · omega
    · exact be_lt n x b h

/-- The number that bytes are. -/
def beVal (l : List Nat) : Nat := l.foldl (fun a c => a * 256 + c) 0
theorem beVal_snoc (l : List Nat) (c : Nat) : beVal (l ++ [c]) = beVal l * 256 + c := by unfold beVal; rw [List.foldl_append]; rfl
theorem foldl_be (l : List Nat) : ∀ a, l.foldl (fun a c => a * 256 + c) a = a * 256 ^ l.length + beVal l := by
  induction l with
  | nil => intro a; simp [beVal]
  | cons c l ih =>
    intro a
    unfold beVal
    rw [List.foldl_cons, List.foldl_cons, ih, ih (0 * 256 + c), List.length_cons, Nat.pow_succ]
    rw [Nat.add_mul, Nat.zero_mul, Nat.zero_add, Nat.mul_assoc, Nat.mul_comm 256 (256 ^ l.length)]
    omega
theorem beVal_cons (c : Nat) (l : List Nat) : beVal (c :: l) = c * 256 ^ l.length + beVal l := by
  show (c :: l).foldl (fun a c => a * 256 + c) 0 = _
  rw [List.foldl_cons, foldl_be, Nat.zero_mul, Nat.zero_add]
theorem beVal_lt : ∀ l : List Nat, (∀ b ∈ l, b < 256) → beVal l < 256 ^ l.length
  | [], _ => by simp [beVal]
  | c :: l, h => by
    have h1 := beVal_lt l (fun b hb => h b (List.mem_cons_of_mem _ hb))
    have h2 := h c (by simp)
    have h3 : c * 256 ^ l.length ≤ 255 * 256 ^ l.length := Nat.mul_le_mul_right _ (by omega)
    rw [beVal_cons, List.length_cons, Nat.pow_succ]
    omega
theorem beVal_be : ∀ n x, beVal (be n x) = x % 256 ^ n
  | 0, x => by simp [be, beVal, Nat.mod_one]
  | n + 1, x => by
    rw [be, beVal_cons, be_len, beVal_be n x, Nat.pow_succ, Nat.mod_mul, Nat.mul_comm]
    omega
theorem be_mod : ∀ n x k, n ≤ k → be n (x % 256 ^ k) = be n x
  | 0, _, _, _ => rfl
  | n + 1, x, k, h => by
    rw [be, be, be_mod n x k (by omega)]
    congr 1
    have e : 256 ^ k = 256 ^ n * (256 * 256 ^ (k - n - 1)) := by
      rw [← Nat.mul_assoc, ← Nat.pow_succ, ← Nat.pow_add]; congr 1; omega
    rw [e, Nat.mod_mul_right_div_self, Nat.mod_mul_right_mod]
theorem be_beVal : ∀ l : List Nat, (∀ b ∈ l, b < 256) → be l.length (beVal l) = l
  | [], _ => rfl
  | c :: l, h => by
    have h1 : ∀ b ∈ l, b < 256 := fun b hb => h b (List.mem_cons_of_mem _ hb)
    have h2 := h c (by simp)
    have h3 := beVal_lt l h1
    have hp : 0 < 256 ^ l.length := by have : 0 < 256 := by decide
                                       exact Nat.pow_pos this
    rw [List.length_cons, be, beVal_cons]
    congr 1
    · rw [Nat.mul_comm, Nat.mul_add_div hp, Nat.div_eq_of_lt h3]; omega
    · rw [← be_mod l.length _ l.length (Nat.le_refl _), Nat.mul_comm, Nat.mul_add_mod, Nat.mod_eq_of_lt h3]
      exact be_beVal l h1

/-- What pack.Put's row is behind i rounds. -/
def putRow (l : List Nat) (n x i : Nat) : List Nat := l ++ (List.replicate (n - i) 0 ++ be i x)
theorem putRow_len (l : List Nat) (n x i : Nat) (h : i ≤ n) : (putRow l n x i).length = l.length + n := by
  unfold putRow; rw [List.length_append, List.length_append, List.length_replicate, be_len]; omega
theorem putRow_set (l : List Nat) (n x i : Nat) (h : i < n) : (putRow l n x i).set (l.length + n - 1 - i) (x / 256 ^ i % 256) = putRow l n x (i + 1) := by
  unfold putRow
  obtain ⟨m, hm⟩ : ∃ m, n - i = m + 1 := ⟨n - i - 1, by omega⟩
  rw [hm, show n - (i + 1) = m by omega, List.set_append_right _ _ (by omega), show l.length + n - 1 - i - l.length = m by omega]
  rw [List.replicate_succ', List.append_assoc, List.set_append_right _ _ (by simp), List.length_replicate, Nat.sub_self]
  rfl
theorem putRow_end (l : List Nat) (n x : Nat) : putRow l n x n = l ++ be n x := by unfold putRow; rw [Nat.sub_self]; rfl
end Go.Proofs.YtbjjpplhnibjdaaDoor
