/- place.May and place.Within, and the reference's: may a geometry be; are bytes in it? -/
import Derived.Test.YtokpoogcoeodkaaGreatDoorMg1
import Derived.Test.YtokpoogcoeodkaaGreatDoorPh
namespace Go.Proofs.YtokpoogcoeodkaaGreatDoor
open Go.RowKit Flo

/-- May a geometry be? -/
def geoB (s z : Int) : Bool := decide (6 ≤ s) && decide (s ≤ 64) && decide (512 ≤ z) && decide (z ≤ 4096)
abbrev geo (s z : Int) : Value := .agg #[i64 s, i64 z]
theorem geoB_yes {s z : Int} (h : geoB s z = true) : 6 ≤ s ∧ s ≤ 64 ∧ 512 ≤ z ∧ z ≤ 4096 := by
  unfold geoB at h
  simp at h
  omega

set_option maxHeartbeats 2000000 in
set_option maxRecDepth 100000 in
theorem placeMay_any (s z : Int) (w : World) : Makes 17 #[geo s z] w (.bool (geoB s z)) := by
  go_enter Tryz.func17, Tryz.ntmps17
  go_wp2_with fail
  all_goals
    go_ret
    exact ⟨retB (by simp [geoB]; omega), Base.al (Below.refl _ _) _⟩
set_option maxHeartbeats 2000000 in
set_option maxRecDepth 100000 in
theorem rMay_any (s z : Int) (w : World) : Makes 24 #[geo s z] w (.bool (geoB s z)) := by
  go_enter Tryz.func24, Tryz.ntmps24
  go_wp2_with fail
  all_goals
    go_ret
    exact ⟨retB (by simp [geoB]; omega), Base.al (Below.refl _ _) _⟩

/-- Are n bytes there? -/
noncomputable def withinB (s z : Int) (a b : Nat) (n : Int) : Bool :=
  match part? a, part? b with
  | some k, some o => decide ((k : Int) < s) && decide (0 ≤ n) && decide ((o : Int) ≤ z) && decide (n ≤ z - o)
  | _, _ => false
theorem within_yes {s z : Int} {a b k o : Nat} {n : Int} (ha : part? a = some k) (hb : part? b = some o) : withinB s z a b n = (decide ((k : Int) < s) && decide (0 ≤ n) && decide ((o : Int) ≤ z) && decide (n ≤ z - o)) := by
  unfold withinB; rw [ha, hb]
theorem within_no {s z : Int} {a b : Nat} {n : Int} (h : part? a = none ∨ part? b = none) : withinB s z a b n = false := by
  unfold withinB
  rcases h with h | h
  · rw [h]
  · rw [h]; cases part? a <;> rfl

set_option maxHeartbeats 4000000 in
set_option maxRecDepth 100000 in
theorem within_any (s z : Int) (a b : Nat) (n : Int) (w : World) (h0 : 0 ≤ z) (h1 : z ≤ 1000000) : Makes 20 #[geo s z, cx a b, i64 n] w (.bool (withinB s z a b n)) := by
  by_cases hr : rightB a b = true
  · obtain ⟨k, o, ha, hb⟩ := right_yes hr
    have g1 := fun W => Lib.hid (parts_yes W ha hb)
    have ho := part_le hb
    have hv := @within_yes s z a b k o n ha hb
    have HV := Lib.hid hv
    clear hv ha hb hr
    go_enter Tryz.func20, Tryz.ntmps20
    go_wp2_with fail
    refine (g1 _).out.mono ?_; rintro e x1 ⟨rfl, rfl⟩
    go_wp2_with fail
    all_goals
      go_ret
      exact ⟨retB (by rw [HV.out]; simp; omega), Base.al (Below.refl _ _) _⟩
  · have hn := right_no (Bool.eq_false_iff.2 hr)
    have g1 := fun W => Lib.hid (parts_no W hn)
    have hv := @within_no s z a b n hn
    have HV := Lib.hid hv
    clear hv hn hr
    go_enter Tryz.func20, Tryz.ntmps20
    go_wp2_with fail
    refine (g1 _).out.mono ?_; rintro e x1 ⟨rfl, rfl⟩
    go_wp2_with fail
    all_goals
      go_ret
      exact ⟨retB (by rw [HV.out]), Base.al (Below.refl _ _) _⟩

set_option maxHeartbeats 4000000 in
set_option maxRecDepth 100000 in
theorem rwithin_any (s z : Int) (a b : Nat) (n : Int) (w : World) (h0 : 0 ≤ z) (h1 : z ≤ 1000000) : Makes 27 #[geo s z, cx a b, i64 n] w (.bool (withinB s z a b n)) := by
  have g0 := fun W => Lib.hid (right_any a b W)
  by_cases hr : rightB a b = true
  · obtain ⟨k, o, ha, hb⟩ := right_yes hr
    have g1 := fun W => Lib.hid (sector_in (b := b) W ha)
    have g2 := fun W => Lib.hid (offset_in (a := a) W hb)
    have ho := part_le hb
    have hk := part_le ha
    have hv := @within_yes s z a b k o n ha hb
    have HV := Lib.hid hv
    unfold rightB at hr
    rw [hr] at g0
    clear hv ha hb hr
    by_cases hall : 0 ≤ n ∧ (k : Int) < s ∧ (o : Int) ≤ z
    · obtain ⟨c1, c2, c3⟩ := hall
      have d1 : decide (n < 0) = decide (n < 0) := rfl
      have d2 : decide (s ≤ (k : Int)) = decide (s ≤ (k : Int)) := rfl
      have d3 : decide (z < (o : Int)) = decide (z < (o : Int)) := rfl
      conv at d1 => rhs; simp only [c1, Int.not_lt.2, decide_true, decide_false]
      conv at d2 => rhs; simp only [c2, Int.not_le.2, decide_true, decide_false]
      conv at d3 => rhs; simp only [c3, Int.not_lt.2, decide_true, decide_false]
      go_enter Tryz.func27, Tryz.ntmps27
      go_wp2_with fail
      have on0 := @on_rd0; have on1 := @on_rd1; have on2 := @on_rd2; have on3 := @on_new1; have on4 := @on_new2
      refine wp_region_quiet_on (by kernel_rfl) (by kernel_rfl) ?_
      repeat ((with_reducible refine wpQuiet_step (fun K hK => ?_)); go_simp; first | ((with_reducible refine hK _ ?_); clear hK K) | (rw [if_neg (by intro h; cases h)]; (with_reducible refine hK _ ?_); clear hK K) | (apply Exists.intro; refine ⟨fun _ => ?_, hK _ ?_⟩; (first | (with_reducible exact on_of_same (g0 _).out) | (with_reducible exact on_of_same (g1 _).out) | (with_reducible exact on_of_same (g2 _).out)); clear hK K))
      clear on0 on1 on2 on3 on4
      with_reducible refine wpQuiet_nil ?_
      intro _ hw'
      obtain ⟨pq, hw''⟩ := hw'
      subst hw''
      go_wp2_with fail
      have hB := blk_below (blk_new w (.cells #[i64 s, i64 z] 28)) pq.h
      have hb2 := Base.tr (Base.al (Below.refl _ _) _) pq.h
      generalize pq.v = w2 at *
      have z0 : w.heap.size < w2.heap.size := (Array.getElem?_eq_some_iff.1 hB).1
      have e1 : w2.cell? ⟨w.heap.size, 1, none⟩ = some (i64 z) := cell_blk hB 1
      have k1 := fun p => on_cell (w := w2) z0 e1 p
      clear d1 d2 d3 g0 g1 hB
      have on0 := @on_rd0; have on1 := @on_rd1; have on2 := @on_rd2; have on3 := @on_new1; have on4 := @on_new2
      refine wp_region_quiet_on (by kernel_rfl) (by kernel_rfl) ?_
      repeat ((with_reducible refine wpQuiet_step (fun K hK => ?_)); go_simp; first | ((with_reducible refine hK _ ?_); clear hK K) | (rw [if_neg (by intro h; cases h)]; (with_reducible refine hK _ ?_); clear hK K) | (apply Exists.intro; refine ⟨fun _ => ?_, hK _ ?_⟩; (first | (with_reducible exact on_of_same (g2 _).out)); clear hK K))
      clear on0 on1 on2 on3 on4
      with_reducible refine wpQuiet_nil ?_
      intro _ hw'
      obtain ⟨pq, hw''⟩ := hw'
      subst hw''
      go_wp2_with fail
      go_ret
      refine ⟨retB ?_, Base.tr hb2 pq.h⟩
      rw [HV.out, show IntKind.i64.wrap (z - (o : Int)) = z - o by rw [IntKind.wrap_i64]; omega, decide_eq_true c1, decide_eq_true c2, decide_eq_true c3]
      simp
    · cases d1 : decide (n < 0) <;> cases d2 : decide (s ≤ (k : Int)) <;> cases d3 : decide (z < (o : Int))
      all_goals
        have c1 := d1
        have c2 := d2
        have c3 := d3
        simp only [decide_eq_true_eq, decide_eq_false_iff_not] at c1 c2 c3
        first | (exfalso; omega) | skip
      all_goals
        go_enter Tryz.func27, Tryz.ntmps27
        go_wp2_with fail
        have on0 := @on_rd0; have on1 := @on_rd1; have on2 := @on_rd2; have on3 := @on_new1; have on4 := @on_new2
        refine wp_region_quiet_on (by kernel_rfl) (by kernel_rfl) ?_
        repeat ((with_reducible refine wpQuiet_step (fun K hK => ?_)); go_simp; first | ((with_reducible refine hK _ ?_); clear hK K) | (rw [if_neg (by intro h; cases h)]; (with_reducible refine hK _ ?_); clear hK K) | (apply Exists.intro; refine ⟨fun _ => ?_, hK _ ?_⟩; (first | (with_reducible exact on_of_same (g0 _).out) | (with_reducible exact on_of_same (g1 _).out) | (with_reducible exact on_of_same (g2 _).out)); clear hK K))
        clear on0 on1 on2 on3 on4
        with_reducible refine wpQuiet_nil ?_
        intro _ hw'
        obtain ⟨pq, hw''⟩ := hw'
        subst hw''
        go_wp2_with fail
        go_ret
        exact ⟨retB (by rw [HV.out]; simp; omega), Base.tr (Base.al (Below.refl _ _) _) pq.h⟩
  · have hf := Bool.eq_false_iff.2 hr
    have hn := right_no hf
    have hv := @within_no s z a b n hn
    have HV := Lib.hid hv
    unfold rightB at hf
    rw [hf] at g0
    clear hv hn hr
    go_enter Tryz.func27, Tryz.ntmps27
    go_wp2_with fail
    have on0 := @on_rd0; have on1 := @on_rd1; have on2 := @on_rd2; have on3 := @on_new1; have on4 := @on_new2
    refine wp_region_quiet_on (by kernel_rfl) (by kernel_rfl) ?_
    repeat ((with_reducible refine wpQuiet_step (fun K hK => ?_)); go_simp; first | ((with_reducible refine hK _ ?_); clear hK K) | (rw [if_neg (by intro h; cases h)]; (with_reducible refine hK _ ?_); clear hK K) | (apply Exists.intro; refine ⟨fun _ => ?_, hK _ ?_⟩; (first | (with_reducible exact on_of_same (g0 _).out)); clear hK K))
    clear on0 on1 on2 on3 on4
    with_reducible refine wpQuiet_nil ?_
    intro _ hw'
    obtain ⟨pq, hw''⟩ := hw'
    subst hw''
    go_wp2_with fail
    all_goals
      go_ret
      exact ⟨retB (by rw [HV.out]), Base.tr (Base.al (Below.refl _ _) _) pq.h⟩
end Go.Proofs.YtokpoogcoeodkaaGreatDoor
