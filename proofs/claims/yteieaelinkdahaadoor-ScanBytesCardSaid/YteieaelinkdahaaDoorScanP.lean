/- A scan of a sector's bytes, in plain words. -/
import Derived.Test.YteieaelinkdahaaDoorRec2
import Derived.Test.YteieaelinkdahaaDoorRingGet
import Derived.Test.YteieaelinkdahaaDoorRingRT
import Derived.Test.YteieaelinkdahaaDoorRingW
import Derived.Test.YteieaelinkdahaaDoorGeo
import Derived.Test.YteieaelinkdahaaDoorSumG
namespace Go.Proofs.YteieaelinkdahaaDoor
open Go.RowKit Flo

/-- What is read of a record. -/
def readOf (l : List Nat) : Read :=
  let n1 := pNum l 8 0 0
  let n2 := pNum l 8 n1.2.1 n1.2.2
  let n3 := pNum l 1 n2.2.1 n2.2.2
  let n4 := pNum l 1 n3.2.1 n3.2.2
  let n5 := pNum l 3 n4.2.1 n4.2.2
  let n6 := pNum l 1 n5.2.1 n5.2.2
  let n7 := pTxt l 48 n6.2.1 n6.2.2
  ⟨n1, n2, n3, n4, n5, n6, n7, pTxt l 64 n7.2.1 n7.2.2⟩
theorem readOf_of (l : List Nat) : (readOf l).of l := by constructor <;> simp only [readOf]
noncomputable def gotE (l : List Nat) : Nat := (readOf l).err l.length
noncomputable def gotI (l : List Nat) : Item := if gotE l = 0 then (readOf l).item else zeroIt
theorem gotI_res (l : List Nat) : (readOf l).res l.length = (gotI l).val := rfl
theorem gotI_self (l : List Nat) : itemEq (gotI l) (gotI l) = true := by
  unfold gotI
  split
  · rename_i h
    refine itemEq_self ?_
    have hm : mayB (readOf l).item = true := by
      unfold gotE Read.err at h
      by_cases h6 : 1 < (readOf l).n6.1
      · rw [if_pos h6] at h; cases h
      · rw [if_neg h6] at h
        by_cases h8 : (readOf l).n8.2.2 ≠ 0
        · rw [if_pos h8] at h; exact absurd h h8
        · rw [if_neg h8] at h
          by_cases h9 : (readOf l).n8.2.1 < l.length
          · rw [if_pos h9] at h; cases h
          · rw [if_neg h9] at h
            cases hb : mayB (readOf l).item with
            | true => rfl
            | false => rw [if_pos hb] at h; cases h
    rw [mayB_rest, Bool.and_eq_true] at hm
    exact hm.1
  · exact zero_self

theorem recState_of (f : Nat) : recState f = 3 ∨ recState f = 4 ∨ recState f = 5 ∨ recState f = 6 := by
  unfold recState
  split <;> (try split) <;> (try split) <;> simp
/-- What stands at a place: nothing, no record, or a record. -/
theorem recClass_cases (l : List Nat) (a : Nat) : (recClass l a = (0, [], 0)) ∨ (recClass l a = (3, [], 0)) ∨
    (((recClass l a).1 = 4 ∨ (recClass l a).1 = 5 ∨ (recClass l a).1 = 6) ∧ a < (recClass l a).2.2 ∧ (recClass l a).2.2 ≤ l.length ∧ (recClass l a).2.1 = (l.drop (a + 7)).take (pGet l (a + 1) 2).1) := by
  unfold recClass
  split
  · exact .inr (.inl rfl)
  split
  · exact .inl rfl
  split
  · exact .inr (.inl rfl)
  rename_i h3
  split
  · exact .inr (.inl rfl)
  rename_i h4
  split
  · exact .inr (.inl rfl)
  refine .inr (.inr ⟨?_, ?_, ?_, rfl⟩)
  · have := recState_of (l.getD a 0)
    show recState (l.getD a 0) = 4 ∨ recState (l.getD a 0) = 5 ∨ recState (l.getD a 0) = 6
    omega
  · show a < a + 7 + (pGet l (a + 1) 2).1 + 1
    omega
  · show a + 7 + (pGet l (a + 1) 2).1 + 1 ≤ l.length
    omega
theorem recClass_lt {l : List Nat} (hl : ∀ b ∈ l, b < 256) (a : Nat) : ∀ b ∈ (recClass l a).2.1, b < 256 := by
  rcases recClass_cases l a with h | h | ⟨-, -, -, h⟩
  · rw [h]; intro b hb; cases hb
  · rw [h]; intro b hb; cases hb
  · rw [h]; intro b hb; exact hl b (List.mem_of_mem_drop (List.mem_of_mem_take hb))
theorem recClass_len (l : List Nat) (a : Nat) : (recClass l a).2.1.length ≤ l.length := by
  rcases recClass_cases l a with h | h | ⟨-, -, -, h⟩
  · rw [h]; exact Nat.zero_le _
  · rw [h]; exact Nat.zero_le _
  · rw [h, List.length_take, List.length_drop]; omega

/-- What is found at a place. -/
noncomputable def oneAt (s : Nat) (l : List Nat) (a : Nat) : Found := ⟨near s, near a, ((recClass l a).2.2 : Int) - a, decide ((recClass l a).1 = 5), gotI (recClass l a).2.1⟩
/-- What is found from a place on, and where that ends. -/
noncomputable def scanN (s : Nat) (l : List Nat) : Nat → Nat → List Found → Nat × List Found
  | 0, a, fs => (a, fs)
  | k + 1, a, fs => if (recClass l a).1 = 6 then scanN s l k (recClass l a).2.2 fs
      else if ((recClass l a).1 = 4 ∨ (recClass l a).1 = 5) ∧ gotE (recClass l a).2.1 = 0 then scanN s l k (recClass l a).2.2 (fs ++ [oneAt s l a])
      else (a, fs)
theorem scanN_skip {s : Nat} {l : List Nat} {k a : Nat} {fs : List Found} (hk : l.length < a + k) (ha : a ≤ l.length) (h : (recClass l a).1 = 6) :
    ∃ k', l.length < (recClass l a).2.2 + k' ∧ scanN s l k a fs = scanN s l k' (recClass l a).2.2 fs := by
  cases k with
  | zero => omega
  | succ k =>
    refine ⟨k, ?_, ?_⟩
    · rcases recClass_cases l a with e | e | ⟨-, e1, e2, -⟩
      · rw [e] at h; cases h
      · rw [e] at h; cases h
      · omega
    · rw [scanN, if_pos h]
theorem scanN_take {s : Nat} {l : List Nat} {k a : Nat} {fs : List Found} (hk : l.length < a + k) (ha : a ≤ l.length) (h : (recClass l a).1 = 4 ∨ (recClass l a).1 = 5) (he : gotE (recClass l a).2.1 = 0) :
    ∃ k', l.length < (recClass l a).2.2 + k' ∧ scanN s l k a fs = scanN s l k' (recClass l a).2.2 (fs ++ [oneAt s l a]) := by
  cases k with
  | zero => omega
  | succ k =>
    refine ⟨k, ?_, ?_⟩
    · rcases recClass_cases l a with e | e | ⟨-, e1, e2, -⟩
      · rw [e] at h; rcases h with h | h <;> cases h
      · rw [e] at h; rcases h with h | h <;> cases h
      · omega
    · rw [scanN, if_neg (by omega), if_pos ⟨h, he⟩]
theorem scanN_stop {s : Nat} {l : List Nat} {k a : Nat} {fs : List Found} (h6 : ¬ (recClass l a).1 = 6) (h : ¬ (((recClass l a).1 = 4 ∨ (recClass l a).1 = 5) ∧ gotE (recClass l a).2.1 = 0)) :
    scanN s l k a fs = (a, fs) := by
  cases k with
  | zero => rfl
  | succ k => rw [scanN, if_neg h6, if_neg h]

/-- The class of a sector's bytes. -/
def geoN (s z : Int) (l : List Nat) : Bool := geoB s z && ((l.length : Int) == z)
def mark : List Nat := [84, 120, 78, 82]
def headOf (s z : Nat) : List Nat := mark ++ be 4 (sumB (mark ++ be 2 s ++ be 2 z))
theorem headOf_len (s z : Nat) : (headOf s z).length = 8 := by unfold headOf mark; simp [be_len]
theorem headOf_lt (s z : Nat) : ∀ b ∈ headOf s z, b < 256 := by
  intro b hb
  unfold headOf at hb
  rcases List.mem_append.1 hb with h | h
  · unfold mark at h; simp at h; omega
  · exact be_lt _ _ _ h
def classB (s z : Int) (l : List Nat) : Nat :=
  if geoN s z l = false then 2 else if l.take 8 = headOf s.toNat z.toNat then 1 else if blankB l then 0 else 2
/-- A sector's scan. -/
structure Scan where
  cls : Nat
  stop : Nat
  full : Bool
  found : List Found
noncomputable def scanB (s z : Int) (k : Nat) (l : List Nat) : Scan :=
  if classB s z l = 1 then ⟨1, (scanN k l (l.length + 1) 8 []).1, (!decide ((recClass l (scanN k l (l.length + 1) 8 []).1).1 = 0)) || decide (l.length ≤ (scanN k l (l.length + 1) 8 []).1), (scanN k l (l.length + 1) 8 []).2⟩
  else ⟨classB s z l, 0, decide (classB s z l = 2), []⟩
end Go.Proofs.YteieaelinkdahaaDoor
