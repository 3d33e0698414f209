/- The reference of layer 11. -/
import Derived.Test.YtbbiohgillhmnaaPick5
namespace Go.Proofs.Ytbbiohgillhmnaa
open Go.RowKit

set_option maxHeartbeats 400000 in
theorem rmay_any (x : Info) (w : World) : Makes 75 #[x.val] w (.bool (canErase x)) := by
  unfold canErase
  cases hb : x.held <;> cases ho : x.isOpen <;> by_cases hc : x.cls = 0
  all_goals
    go_enter Try.func75, Try.ntmps75
    go_wp2_with fail
    all_goals go_ret
    all_goals exact ⟨ret_bool (by simp [hc]), Base.al (Below.refl _ _) _⟩

set_option maxHeartbeats 400000 in
theorem rneedless_any (x : Info) (w : World) : Makes 76 #[x.val] w (.bool (noNeed x)) := by
  unfold noNeed
  by_cases hb : x.need = 0 <;> by_cases hc : x.cls = 2
  all_goals
    go_enter Try.func76, Try.ntmps76
    go_wp2_with fail
    all_goals go_ret
    all_goals exact ⟨ret_bool (by simp [hb, hc]), Base.al (Below.refl _ _) _⟩

/-- The first one that is best, of the first k. -/
def rb (p : Info → Bool) (lt : Info → Info → Bool) (l : List Info) : Nat → Int
  | 0 => -1
  | k + 1 => if p (gi l k) && (decide (rb p lt l k < 0) || lt (gi l k) (gi l (rb p lt l k))) then k else rb p lt l k
theorem rb_range (p : Info → Bool) (lt : Info → Info → Bool) (l : List Info) : ∀ k, -1 ≤ rb p lt l k ∧ rb p lt l k < k
  | 0 => ⟨Int.le_refl _, by simp [rb]⟩
  | k + 1 => by have := rb_range p lt l k; unfold rb; split <;> omega
def ltWear (x y : Info) : Bool := decide (x.wear < y.wear)
def ltAge (x y : Info) : Bool := decide (x.age < y.age)

set_option maxHeartbeats 4000000 in
set_option maxRecDepth 100000 in
theorem rWrite_any (A : Option Addr) (n cap : Nat) (l : List Info) (w : World) (h : Infos w (.slice A n cap) l) : Makes 42 #[.slice A n cap] w (i64 (rb canBlank ltWear l l.length)) := by
  have hn := h.len
  rw [List.length_map] at hn
  subst hn
  have hm := h.max
  rw [List.length_map] at hm
  unfold maxLen at hm
  go_enter Try.func42, Try.ntmps42
  go_wp2_with fail
  go_loopw [3, 7] (fun best i wr => ∃ k : Nat, k ≤ l.length ∧ i = i64 (k : Int) ∧ best = i64 (rb canBlank ltWear l k) ∧ Below w.heap.size w wr) (fun _ i _ => l.length - (intOf i).toNat)
  case atStart => exact ⟨0, by omega, rfl, rfl, Below.refl _ _⟩
  case round =>
    obtain ⟨k, hk, rfl, rfl, hb⟩ := hrel
    by_cases hlt : k < l.length
    · obtain ⟨b, off, rfl, hbs, hc⟩ := gi_cells (Sl.below h hb) hlt
      have hr := rb_range canBlank ltWear l k
      have hs : rb canBlank ltWear l (k + 1) = if canBlank (gi l k) && (decide (rb canBlank ltWear l k < 0) || ltWear (gi l k) (gi l (rb canBlank ltWear l k))) then (k : Int) else rb canBlank ltWear l k := rfl
      generalize rb canBlank ltWear l k = m at *
      have e0 := hc k hlt 0 _ rfl
      rw [Nat.add_zero] at e0
      have e2 := hc k hlt 2 _ rfl
      have e5 := hc k hlt 5 _ rfl
      have HS := Lib.hid hs
      have HC := Lib.hid hc
      clear hs hc
      have fin : ∀ (W : World) (q : Int), Below w.heap.size w W → q = rb canBlank ltWear l (k + 1) → (∃ k' : Nat, k' ≤ l.length ∧ i64 ((k : Int) + 1) = i64 (k' : Int) ∧ i64 q = i64 (rb canBlank ltWear l k') ∧ Below w.heap.size w W) := fun W q hW hq => ⟨k + 1, by omega, by push_cast; rfl, by rw [hq], hW⟩
      have FIN := Lib.hid fin
      clear fin
      by_cases hcl : (gi l k).cls = 0
      · cases hh : (gi l k).held
        · by_cases hm0 : m < 0
          · rw [hh] at e5
            have hq : (k : Int) = rb canBlank ltWear l (k + 1) := by rw [HS.out]; simp [canBlank, hcl, hh, hm0]
            have HQ := Lib.hid hq
            clear hq hh
            go_wp2_with fail
            go_quiet (fail)
            go_wp2_with fail
            exact ⟨FIN.out _ _ (Base.dn hb _) HQ.out, by simp [intOf]; omega⟩
          · obtain ⟨j, rfl⟩ : ∃ j : Nat, m = j := ⟨m.toNat, by omega⟩
            have hj : j < l.length := by omega
            have hj2 : (j : Int) < (l.length : Int) := by omega
            have f2 := HC.out j hj 2 _ rfl
            rw [hh] at e5
            by_cases hw : (gi l k).wear < (gi l j).wear
            · have hq : (k : Int) = rb canBlank ltWear l (k + 1) := by rw [HS.out]; simp [canBlank, hcl, hh, ltWear, hw]
              have HQ := Lib.hid hq
              clear hq hh hm0
              go_wp2_with fail
              go_quiet (fail)
              go_wp2_with fail
              exact ⟨FIN.out _ _ (Base.dn hb _) HQ.out, by simp [intOf]; omega⟩
            · have hq : (j : Int) = rb canBlank ltWear l (k + 1) := by rw [HS.out, if_neg (by simp [canBlank, hcl, hh, ltWear, hw])]
              have HQ := Lib.hid hq
              clear hq hh hm0
              go_wp2_with fail
              go_quiet (fail)
              go_wp2_with fail
              exact ⟨FIN.out _ _ (Base.dn hb _) HQ.out, by simp [intOf]; omega⟩
        · rw [hh] at e5
          have hq : m = rb canBlank ltWear l (k + 1) := by rw [HS.out]; simp [canBlank, hh]
          have HQ := Lib.hid hq
          clear hq hh
          go_wp2_with fail
          go_quiet (fail)
          go_wp2_with fail
          exact ⟨FIN.out _ _ (Base.dn hb _) HQ.out, by simp [intOf]; omega⟩
      · have hq : m = rb canBlank ltWear l (k + 1) := by rw [HS.out]; simp [canBlank, hcl]
        have HQ := Lib.hid hq
        have hcb : ((gi l k).cls == 0) = false := beq_eq_false_iff_ne.2 hcl
        clear hq hcl e2 e5
        go_wp2_with fail
        go_quiet (fail)
        go_wp2_with fail
        exact ⟨FIN.out _ _ (Base.dn hb _) HQ.out, by simp [intOf]; omega⟩
    · have hke : k = l.length := by omega
      subst hke
      go_wp2_with fail
      go_ret
      exact ⟨rfl, hb⟩
end Go.Proofs.Ytbbiohgillhmnaa
