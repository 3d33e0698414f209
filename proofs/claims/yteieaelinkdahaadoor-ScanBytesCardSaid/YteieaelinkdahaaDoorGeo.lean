/- place.May and place.Within, and the reference's: may a geometry be; are bytes in it? -/
import Derived.Test.YteieaelinkdahaaDoorPlace2
import Derived.Test.YteieaelinkdahaaDoorPh
namespace Go.Proofs.YteieaelinkdahaaDoor
open Go.RowKit Flo

/-- May a geometry be? -/
def geoB (s z : Int) : Bool := decide (6 ≤ s) && decide (s ≤ 64) && decide (512 ≤ z) && decide (z ≤ 4096)
abbrev geo (s z : Int) : Value := .agg #[i64 s, i64 z]
theorem geoB_yes {s z : Int} (h : geoB s z = true) : 6 ≤ s ∧ s ≤ 64 ∧ 512 ≤ z ∧ z ≤ 4096 := by
  unfold geoB at h
  simp at h
  omega

set_option maxHeartbeats 2000000 in
set_option maxRecDepth 100000 in
theorem placeMay_any (s z : Int) (w : World) : Makes 23 #[geo s z] w (.bool (geoB s z)) := by
  go_enter Tryd.func23, Tryd.ntmps23
  go_wp2_with fail
  all_goals
    go_ret
    exact ⟨retB (by simp [geoB]; omega), Base.al (Below.refl _ _) _⟩
set_option maxHeartbeats 2000000 in
set_option maxRecDepth 100000 in
theorem rMay_any (s z : Int) (w : World) : Makes 36 #[geo s z] w (.bool (geoB s z)) := by
  go_enter Tryd.func36, Tryd.ntmps36
  go_wp2_with fail
  all_goals
    go_ret
    exact ⟨retB (by simp [geoB]; omega), Base.al (Below.refl _ _) _⟩

/-- Are n bytes there? -/
noncomputable def withinB (s z : Int) (a b : Nat) (n : Int) : Bool :=
  match part? a, part? b with
  | some k, some o => decide ((k : Int) < s) && decide (0 ≤ n) && decide ((o : Int) ≤ z) && decide (n ≤ z - o)
  | _, _ => false
theorem within_yes {s z : Int} {a b k o : Nat} {n : Int} (ha : part? a = some k) (hb : part? b = some o) : withinB s z a b n = (decide ((k : Int) < s) && decide (0 ≤ n) && decide ((o : Int) ≤ z) && decide (n ≤ z - o)) := by
  unfold withinB; rw [ha, hb]
theorem within_no {s z : Int} {a b : Nat} {n : Int} (h : part? a = none ∨ part? b = none) : withinB s z a b n = false := by
  unfold withinB
  rcases h with h | h
  · rw [h]
  · rw [h]; cases part? a <;> rfl

end Go.Proofs.YteieaelinkdahaaDoor
