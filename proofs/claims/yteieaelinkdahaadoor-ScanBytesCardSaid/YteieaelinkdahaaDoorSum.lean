/- Sums of bytes. -/
import Derived.Test.YteieaelinkdahaaDoorPackG
import Derived.Test.YteieaelinkdahaaDoorPack
namespace Go.Proofs.YteieaelinkdahaaDoor
open Go.RowKit

/-- One byte more: the low part and the high one, not yet cut down. -/
def aStep (s : Nat × Nat) (c : Nat) : Nat × Nat := (s.1 + c, s.2 + (s.1 + c))
def aSum (s : Nat × Nat) (l : List Nat) : Nat × Nat := l.foldl aStep s
def cutDown (s : Nat × Nat) : Nat × Nat := (s.1 % 65521, s.2 % 65521)
/-- A sum's number. -/
def sumNum (s : Nat × Nat) : Nat := 65536 * s.2 + s.1
def adler (s : Nat × Nat) (l : List Nat) : Nat × Nat := cutDown (aSum s l)
theorem aSum_snoc (s : Nat × Nat) (l : List Nat) (c : Nat) : aSum s (l ++ [c]) = aStep (aSum s l) c := by unfold aSum; rw [List.foldl_append]; rfl
theorem aSum_le : ∀ (l : List Nat) (s : Nat × Nat), (∀ b ∈ l, b < 256) → (aSum s l).1 ≤ s.1 + 255 * l.length ∧ 2 * (aSum s l).2 ≤ 2 * s.2 + 2 * (l.length * s.1) + 255 * (l.length * l.length + l.length)
  | [], s, _ => by simp [aSum]
  | c :: l, s, h => by
    have hc := h c (by simp)
    obtain ⟨h1, h2⟩ := aSum_le l (aStep s c) (fun b hb => h b (List.mem_cons_of_mem _ hb))
    have e : aSum s (c :: l) = aSum (aStep s c) l := rfl
    rw [e]
    simp only [aStep, List.length_cons] at h1 h2 ⊢
    refine ⟨by omega, Nat.le_trans h2 ?_⟩
    have k := Nat.mul_le_mul_left l.length (by omega : c ≤ 255)
    have e1 : l.length * (s.1 + c) = l.length * s.1 + l.length * c := Nat.mul_add _ _ _
    have e2 : (l.length + 1) * s.1 = l.length * s.1 + s.1 := by rw [Nat.add_mul, Nat.one_mul]
    have e3 : (l.length + 1) * (l.length + 1) = l.length * l.length + 2 * l.length + 1 := by
      rw [Nat.add_mul, Nat.mul_add]; omega
    rw [e1, e2, e3]
    generalize l.length * s.1 = p at *
    generalize l.length * c = q at *
    generalize l.length * l.length = r at *
    omega
theorem aSum_small {l : List Nat} {s : Nat × Nat} (h : ∀ b ∈ l, b < 256) (h1 : s.1 < 65521) (h2 : s.2 < 65521) (hm : l.length ≤ 5000) : (aSum s l).1 < 2 ^ 32 ∧ (aSum s l).2 < 2 ^ 32 := by
  obtain ⟨k1, k2⟩ := aSum_le l s h
  have e1 := Nat.mul_le_mul hm (by omega : s.1 ≤ 65520)
  have e2 := Nat.mul_le_mul hm hm
  generalize l.length * s.1 = p at *
  generalize l.length * l.length = r at *
  omega
/-- The same byte by byte, cut down each time. -/
def rStep (s : Nat × Nat) (c : Nat) : Nat × Nat := ((s.1 + c) % 65521, (s.2 + (s.1 + c) % 65521) % 65521)
def rSum (s : Nat × Nat) (l : List Nat) : Nat × Nat := l.foldl rStep s
theorem rSum_snoc (s : Nat × Nat) (l : List Nat) (c : Nat) : rSum s (l ++ [c]) = rStep (rSum s l) c := by unfold rSum; rw [List.foldl_append]; rfl
theorem rStep_cut (s : Nat × Nat) (c : Nat) : rStep (cutDown s) c = cutDown (aStep s c) := by
  unfold rStep cutDown aStep
  simp only
  congr 1 <;> omega
theorem rSum_cut : ∀ (l : List Nat) (s : Nat × Nat), rSum (cutDown s) l = cutDown (aSum s l)
  | [], _ => rfl
  | c :: l, s => by
    show rSum (rStep (cutDown s) c) l = cutDown (aSum (aStep s c) l)
    rw [rStep_cut, rSum_cut l]
theorem cutDown_self {s : Nat × Nat} (h1 : s.1 < 65521) (h2 : s.2 < 65521) : cutDown s = s := by
  unfold cutDown
  rw [Nat.mod_eq_of_lt h1, Nat.mod_eq_of_lt h2]
theorem rSum_adler {s : Nat × Nat} (h1 : s.1 < 65521) (h2 : s.2 < 65521) (l : List Nat) : rSum s l = adler s l := by
  unfold adler
  rw [← rSum_cut, cutDown_self h1 h2]
theorem adler_lt (s : Nat × Nat) (l : List Nat) : (adler s l).1 < 65521 ∧ (adler s l).2 < 65521 := ⟨Nat.mod_lt _ (by decide), Nat.mod_lt _ (by decide)⟩
theorem adler_more (s : Nat × Nat) (l m : List Nat) : adler (adler s l) m = adler s (l ++ m) := by
  have h := adler_lt s l
  rw [← rSum_adler h.1 h.2]
  unfold adler
  rw [rSum_cut]
  unfold aSum
  rw [List.foldl_append]
/-- The sum of bytes. -/
def sumB (l : List Nat) : Nat := sumNum (adler (1, 0) l)
end Go.Proofs.YteieaelinkdahaaDoor
