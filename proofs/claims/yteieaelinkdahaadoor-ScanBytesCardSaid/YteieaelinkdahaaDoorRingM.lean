/- The reference of layer 7: may an item be? -/
import Derived.Test.YteieaelinkdahaaDoorRingF
namespace Go.Proofs.YteieaelinkdahaaDoor
open Go.RowKit Flo
attribute [local go_sem] run_store_complex

set_option maxHeartbeats 4000000 in
set_option maxRecDepth 100000 in
theorem refMay_place (x : Item) (w : World) (h : placeOk x.a x.b = false) : Makes 41 #[x.val] w (.bool false) := by
  obtain ⟨seq, ver, index, count, a, b, gone, key, value⟩ := x
  simp only at h
  unfold placeOk parts? at h
  have hr := fun W => right_any a b W
  cases ha : part? a with
  | none =>
    rw [ha] at hr
    have g := fun W => Lib.hid (hr W)
    clear h ha hr
    go_enter Tryd.func41, Tryd.ntmps41
    go_wp2_with fail
    refine (g _).out.mono ?_; rintro e w1 ⟨rfl, rfl⟩
    go_wp2_with fail
    go_ret
    exact ⟨rfl, Base.al (Below.refl _ _) _⟩
  | some s =>
    cases hb : part? b with
    | none =>
      rw [ha, hb] at hr
      have g := fun W => Lib.hid (hr W)
      clear h ha hb hr
      go_enter Tryd.func41, Tryd.ntmps41
      go_wp2_with fail
      refine (g _).out.mono ?_; rintro e w1 ⟨rfl, rfl⟩
      go_wp2_with fail
      go_ret
      exact ⟨rfl, Base.al (Below.refl _ _) _⟩
    | some o =>
      rw [ha, hb] at h hr
      have g := fun W => Lib.hid (hr W)
      have g1 := fun W => Lib.hid (sector_in (b := b) W ha)
      have g2 := fun W => Lib.hid (offset_in (a := a) W hb)
      clear ha hb hr
      by_cases hs : s ≤ 254
      · have ho : ¬ o ≤ 65535 := by simpa [hs] using h
        have t1 : decide ((255 : Int) ≤ (s : Int)) = false := decide_eq_false (by omega)
        have t2 : decide ((65536 : Int) ≤ (o : Int)) = true := decide_eq_true (by omega)
        clear h hs ho
        go_enter Tryd.func41, Tryd.ntmps41
        go_wp2_with fail
        refine (g _).out.mono ?_; rintro e w1 ⟨rfl, rfl⟩
        go_wp2_with fail
        refine (g1 _).out.mono ?_; rintro e w1 ⟨rfl, rfl⟩
        go_wp2_with fail
        refine (g2 _).out.mono ?_; rintro e w1 ⟨rfl, rfl⟩
        go_wp2_with fail
        go_ret
        exact ⟨rfl, Base.al (Below.refl _ _) _⟩
      · have t1 : decide ((255 : Int) ≤ (s : Int)) = true := decide_eq_true (by omega)
        clear h hs
        go_enter Tryd.func41, Tryd.ntmps41
        go_wp2_with fail
        refine (g _).out.mono ?_; rintro e w1 ⟨rfl, rfl⟩
        go_wp2_with fail
        refine (g1 _).out.mono ?_; rintro e w1 ⟨rfl, rfl⟩
        go_wp2_with fail
        go_ret
        exact ⟨rfl, Base.al (Below.refl _ _) _⟩

/-- What May says of an item at a right place. -/
def restB (x : Item) : Bool := (decide (1 ≤ x.count) && decide (x.count ≤ 255) && decide (0 ≤ x.index) && decide (x.index < x.count)) && !decide (x.key.toList = []) && decide (0 < sizeB x.key x.value) && (!x.gone || decide (x.value.toList = []))

theorem restB_iff (x : Item) : restB x = true ↔ (1 ≤ x.count ∧ x.count ≤ 255 ∧ 0 ≤ x.index ∧ x.index < x.count) ∧ x.key.toList ≠ [] ∧ (x.key.size : Int) ≤ 48 ∧ (x.value.size : Int) ≤ 64 ∧ (x.gone = false ∨ x.value.toList = []) := by
  have hs : (0 < sizeB x.key x.value) ↔ ((x.key.size : Int) ≤ 48 ∧ (x.value.size : Int) ≤ 64) := by
    unfold sizeB
    split <;> omega
  unfold restB
  simp only [Bool.and_eq_true, Bool.or_eq_true, Bool.not_eq_true', decide_eq_true_eq, decide_eq_false_iff_not, hs, and_assoc]
theorem mayB_rest (x : Item) : mayB x = (placeOk x.a x.b && restB x) := by
  unfold mayB restB
  cases placeOk x.a x.b <;> simp

set_option maxHeartbeats 8000000 in
set_option maxRecDepth 100000 in
theorem refMay_rest (x : Item) (w : World) (h : placeOk x.a x.b = true) : Makes 41 #[x.val] w (.bool (restB x)) := by
  obtain ⟨seq, ver, index, count, a, b, gone, key, value⟩ := x
  simp only at h
  unfold placeOk parts? at h
  have hr := fun W => right_any a b W
  cases ha : part? a with
  | none => rw [ha] at h; cases h
  | some s =>
    cases hb : part? b with
    | none => rw [ha, hb] at h; cases h
    | some o =>
      rw [ha, hb] at h hr
      have g := fun W => Lib.hid (hr W)
      have g1 := fun W => Lib.hid (sector_in (b := b) W ha)
      have g2 := fun W => Lib.hid (offset_in (a := a) W hb)
      have hso : s ≤ 254 ∧ o ≤ 65535 := by simpa using h
      have t1 : decide ((255 : Int) ≤ (s : Int)) = false := decide_eq_false (by omega)
      have t2 : decide ((65536 : Int) ≤ (o : Int)) = false := decide_eq_false (by omega)
      clear ha hb hr h hso
      obtain ⟨res, hres⟩ : ∃ res, res = restB ⟨seq, ver, index, count, a, b, gone, key, value⟩ := ⟨_, rfl⟩
      have hiff := restB_iff ⟨seq, ver, index, count, a, b, gone, key, value⟩
      rw [← hres] at hiff ⊢
      clear hres
      simp only at hiff
      have hz0 : 0 ≤ key.size := Nat.zero_le _
      have hz1 : 0 ≤ value.size := Nat.zero_le _
      cases gone
      all_goals
        have HR := Lib.hid hiff
        clear hiff
        go_enter Tryd.func41, Tryd.ntmps41
        go_wp2_with fail
        refine (g _).out.mono ?_; rintro e w1 ⟨rfl, rfl⟩
        go_wp2_with fail
        refine (g1 _).out.mono ?_; rintro e w1 ⟨rfl, rfl⟩
        go_wp2_with fail
        refine (g2 _).out.mono ?_; rintro e w1 ⟨rfl, rfl⟩
        go_wp2_with fail
        all_goals
          go_ret
          refine ⟨retB ?_, Base.al (Below.refl _ _) _⟩
          rw [Bool.eq_iff_iff, HR.out]
          first | (simp_all; done) | (simp_all; omega)

theorem refMay_any (x : Item) (w : World) : Makes 41 #[x.val] w (.bool (mayB x)) := by
  rw [mayB_rest]
  cases hp : placeOk x.a x.b
  · exact refMay_place x w hp
  · exact refMay_rest x w hp
end Go.Proofs.YteieaelinkdahaaDoor
