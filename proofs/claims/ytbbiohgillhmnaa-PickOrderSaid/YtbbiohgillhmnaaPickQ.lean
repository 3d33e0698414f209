/- The reference of layer 11: AtOnce, Oldest. -/
import Derived.Test.YtbbiohgillhmnaaPickR
import Derived.Test.YtbbiohgillhmnaaQuiet
namespace Go.Proofs.Ytbbiohgillhmnaa
open Go.RowKit

set_option maxHeartbeats 4000000 in
set_option maxRecDepth 100000 in
theorem rOldest_any (A : Option Addr) (n cap : Nat) (l : List Info) (w : World) (h : Infos w (.slice A n cap) l) : Makes 45 #[.slice A n cap] w (i64 (rb canErase ltAge l l.length)) := by
  have hn := h.len
  rw [List.length_map] at hn
  subst hn
  have hm := h.max
  rw [List.length_map] at hm
  unfold maxLen at hm
  go_enter Try.func45, Try.ntmps45
  go_wp2_with fail
  go_loopw [3, 7] (fun best i wr => ∃ k : Nat, k ≤ l.length ∧ i = i64 (k : Int) ∧ best = i64 (rb canErase ltAge l k) ∧ Below w.heap.size w wr) (fun _ i _ => l.length - (intOf i).toNat)
  case atStart => exact ⟨0, by omega, rfl, rfl, Below.refl _ _⟩
  case round =>
    obtain ⟨k, hk, rfl, rfl, hb⟩ := hrel
    by_cases hlt : k < l.length
    · obtain ⟨b, off, rfl, hbs, hc⟩ := gi_cells (Sl.below h hb) hlt
      have hr := rb_range canErase ltAge l k
      have hs : rb canErase ltAge l (k + 1) = if canErase (gi l k) && (decide (rb canErase ltAge l k < 0) || ltAge (gi l k) (gi l (rb canErase ltAge l k))) then (k : Int) else rb canErase ltAge l k := rfl
      generalize rb canErase ltAge l k = m at *
      have e0 := hc k hlt 0 _ rfl
      rw [Nat.add_zero] at e0
      have e1 := hc k hlt 1 _ rfl
      have e2 := hc k hlt 2 _ rfl
      have e3 := hc k hlt 3 _ rfl
      have e4 := hc k hlt 4 _ rfl
      have e5 := hc k hlt 5 _ rfl
      have HS := Lib.hid hs
      have g1 := fun W => rmay_any (gi l k) W
      have g2 := fun W => rneedless_any (gi l k) W
      have k0 := fun p => on_cell hbs e0 p
      have k1 := fun p => on_cell hbs e1 p
      have k2 := fun p => on_cell hbs e2 p
      have k3 := fun p => on_cell hbs e3 p
      have k4 := fun p => on_cell hbs e4 p
      have k5 := fun p => on_cell hbs e5 p
      have HC := Lib.hid hc
      clear hc e0 e1 e2 e3 e4 e5
      clear hs
      have fin : ∀ (W : World) (q : Int), Below wr.heap.size wr W → q = rb canErase ltAge l (k + 1) → (∃ k' : Nat, k' ≤ l.length ∧ i64 ((k : Int) + 1) = i64 (k' : Int) ∧ i64 q = i64 (rb canErase ltAge l k') ∧ Below w.heap.size w W) := fun W q hW hq => ⟨k + 1, by omega, by push_cast; rfl, by rw [hq], Base.tr hb hW⟩
      have FIN := Lib.hid fin
      clear fin
      have hP : canErase (gi l k) = canErase (gi l k) ∨ canErase (gi l k) = (canErase (gi l k) && noNeed (gi l k)) := by first | exact Or.inl rfl | exact Or.inr rfl
      cases hp1 : canErase (gi l k)
      · have hp : canErase (gi l k) = false := by rcases hP with h | h <;> rw [h, hp1] <;> rfl
        rw [hp1] at g1
        have G1 := fun W => Lib.hid (g1 W)
        have G2 := fun W => Lib.hid (g2 W)
        clear hP hp1 g1 g2
        have hq : m = rb canErase ltAge l (k + 1) := by rw [HS.out, hp]; simp
        have HQ := Lib.hid hq
        clear hq
        go_wp2_with fail
        refine wp_region_quiet_on (by kernel_rfl) (by kernel_rfl) ?_
        repeat ((with_reducible refine wpQuiet_step (fun K hK => ?_)); go_simp; first | ((with_reducible refine hK _ ?_); clear hK K) | (rw [if_neg (by intro h; cases h)]; (with_reducible refine hK _ ?_); clear hK K) | (apply Exists.intro; refine ⟨fun _ => ?_, hK _ ?_⟩; (first | (with_reducible exact on_of (G1 _).out) | (with_reducible exact on_of (G2 _).out)); clear hK K))
        with_reducible refine wpQuiet_nil ?_
        intro _ hw'
        obtain ⟨pq, hw''⟩ := hw'
        subst hw''
        go_wp2_with fail
        exact ⟨FIN.out _ _ pq.h HQ.out, by simp [intOf]; omega⟩
      · rw [hp1] at g1
        have G1 := fun W => Lib.hid (g1 W)
        have HP1 := Lib.hid hp1
        clear g1 hp1
        cases hp2 : noNeed (gi l k)
        all_goals
          rw [hp2] at g2
          have G2 := fun W => Lib.hid (g2 W)
          have HP2 := Lib.hid hp2
          clear g2 hp2
          cases hp : canErase (gi l k)
          · first
            | (exfalso; first | (rw [HP1.out] at hp; cases hp; done) | (unfold onceB at hp; rw [HP1.out, HP2.out] at hp; cases hp; done))
            | skip
            all_goals
              have hq : m = rb canErase ltAge l (k + 1) := by rw [HS.out, hp]; simp
              have HQ := Lib.hid hq
              clear hq hP
              go_wp2_with fail
              refine wp_region_quiet_on (by kernel_rfl) (by kernel_rfl) ?_
              repeat ((with_reducible refine wpQuiet_step (fun K hK => ?_)); go_simp; first | ((with_reducible refine hK _ ?_); clear hK K) | (rw [if_neg (by intro h; cases h)]; (with_reducible refine hK _ ?_); clear hK K) | (apply Exists.intro; refine ⟨fun _ => ?_, hK _ ?_⟩; (first | (with_reducible exact on_of (G1 _).out) | (with_reducible exact on_of (G2 _).out)); clear hK K))
              with_reducible refine wpQuiet_nil ?_
              intro _ hw'
              obtain ⟨pq, hw''⟩ := hw'
              subst hw''
              go_wp2_with fail
              exact ⟨FIN.out _ _ pq.h HQ.out, by simp [intOf]; omega⟩
          · first
            | (exfalso; first | (rw [HP1.out] at hp; cases hp; done) | (unfold onceB at hp; rw [HP1.out, HP2.out] at hp; cases hp; done))
            | skip
            all_goals
              clear hP
              by_cases hm0 : m < 0
              · have hq : (k : Int) = rb canErase ltAge l (k + 1) := by rw [HS.out, hp]; simp [hm0]
                have HQ := Lib.hid hq
                clear hq
                go_wp2_with fail
                refine wp_region_quiet_on (by kernel_rfl) (by kernel_rfl) ?_
                repeat ((with_reducible refine wpQuiet_step (fun K hK => ?_)); go_simp; first | ((with_reducible refine hK _ ?_); clear hK K) | (rw [if_neg (by intro h; cases h)]; (with_reducible refine hK _ ?_); clear hK K) | (apply Exists.intro; refine ⟨fun _ => ?_, hK _ ?_⟩; (first | (with_reducible exact on_of (G1 _).out) | (with_reducible exact on_of (G2 _).out)); clear hK K))
                with_reducible refine wpQuiet_nil ?_
                intro _ hw'
                obtain ⟨pq, hw''⟩ := hw'
                subst hw''
                go_wp2_with fail
                exact ⟨FIN.out _ _ pq.h HQ.out, by simp [intOf]; omega⟩
              · obtain ⟨j, rfl⟩ : ∃ j : Nat, m = j := ⟨m.toNat, by omega⟩
                have hj : j < l.length := by omega
                have hj2 : (j : Int) < (l.length : Int) := by omega
                have f2 := fun p => on_cell hbs (HC.out j hj 3 _ rfl) p
                by_cases hw : (gi l k).age < (gi l j).age
                · have hq : (k : Int) = rb canErase ltAge l (k + 1) := by rw [HS.out, hp]; simp [ltAge, hw]
                  have HQ := Lib.hid hq
                  clear hq hm0
                  go_wp2_with fail
                  refine wp_region_quiet_on (by kernel_rfl) (by kernel_rfl) ?_
                  repeat ((with_reducible refine wpQuiet_step (fun K hK => ?_)); go_simp; first | ((with_reducible refine hK _ ?_); clear hK K) | (rw [if_neg (by intro h; cases h)]; (with_reducible refine hK _ ?_); clear hK K) | (apply Exists.intro; refine ⟨fun _ => ?_, hK _ ?_⟩; (first | (with_reducible exact on_of (G1 _).out) | (with_reducible exact on_of (G2 _).out)); clear hK K))
                  with_reducible refine wpQuiet_nil ?_
                  intro _ hw'
                  obtain ⟨pq, hw''⟩ := hw'
                  subst hw''
                  go_wp2_with fail
                  exact ⟨FIN.out _ _ pq.h HQ.out, by simp [intOf]; omega⟩
                · have hq : (j : Int) = rb canErase ltAge l (k + 1) := by rw [HS.out, if_neg (by simp [hp, ltAge, hw])]
                  have HQ := Lib.hid hq
                  clear hq hm0
                  go_wp2_with fail
                  refine wp_region_quiet_on (by kernel_rfl) (by kernel_rfl) ?_
                  repeat ((with_reducible refine wpQuiet_step (fun K hK => ?_)); go_simp; first | ((with_reducible refine hK _ ?_); clear hK K) | (rw [if_neg (by intro h; cases h)]; (with_reducible refine hK _ ?_); clear hK K) | (apply Exists.intro; refine ⟨fun _ => ?_, hK _ ?_⟩; (first | (with_reducible exact on_of (G1 _).out) | (with_reducible exact on_of (G2 _).out)); clear hK K))
                  with_reducible refine wpQuiet_nil ?_
                  intro _ hw'
                  obtain ⟨pq, hw''⟩ := hw'
                  subst hw''
                  go_wp2_with fail
                  exact ⟨FIN.out _ _ pq.h HQ.out, by simp [intOf]; omega⟩
    · have hke : k = l.length := by omega
      subst hke
      go_wp2_with fail
      go_ret
      exact ⟨rfl, hb⟩
set_option maxHeartbeats 4000000 in
set_option maxRecDepth 100000 in
theorem rAtOnce_any (A : Option Addr) (n cap : Nat) (l : List Info) (w : World) (h : Infos w (.slice A n cap) l) : Makes 44 #[.slice A n cap] w (i64 (rb onceB ltWear l l.length)) := by
  have hn := h.len
  rw [List.length_map] at hn
  subst hn
  have hm := h.max
  rw [List.length_map] at hm
  unfold maxLen at hm
  go_enter Try.func44, Try.ntmps44
  go_wp2_with fail
  go_loopw [3, 7] (fun best i wr => ∃ k : Nat, k ≤ l.length ∧ i = i64 (k : Int) ∧ best = i64 (rb onceB ltWear l k) ∧ Below w.heap.size w wr) (fun _ i _ => l.length - (intOf i).toNat)
  case atStart => exact ⟨0, by omega, rfl, rfl, Below.refl _ _⟩
  case round =>
    obtain ⟨k, hk, rfl, rfl, hb⟩ := hrel
    by_cases hlt : k < l.length
    · obtain ⟨b, off, rfl, hbs, hc⟩ := gi_cells (Sl.below h hb) hlt
      have hr := rb_range onceB ltWear l k
      have hs : rb onceB ltWear l (k + 1) = if onceB (gi l k) && (decide (rb onceB ltWear l k < 0) || ltWear (gi l k) (gi l (rb onceB ltWear l k))) then (k : Int) else rb onceB ltWear l k := rfl
      generalize rb onceB ltWear l k = m at *
      have e0 := hc k hlt 0 _ rfl
      rw [Nat.add_zero] at e0
      have e1 := hc k hlt 1 _ rfl
      have e2 := hc k hlt 2 _ rfl
      have e3 := hc k hlt 3 _ rfl
      have e4 := hc k hlt 4 _ rfl
      have e5 := hc k hlt 5 _ rfl
      have HS := Lib.hid hs
      have g1 := fun W => rmay_any (gi l k) W
      have g2 := fun W => rneedless_any (gi l k) W
      have k0 := fun p => on_cell hbs e0 p
      have k1 := fun p => on_cell hbs e1 p
      have k2 := fun p => on_cell hbs e2 p
      have k3 := fun p => on_cell hbs e3 p
      have k4 := fun p => on_cell hbs e4 p
      have k5 := fun p => on_cell hbs e5 p
      have HC := Lib.hid hc
      clear hc e0 e1 e2 e3 e4 e5
      clear hs
      have fin : ∀ (W : World) (q : Int), Below wr.heap.size wr W → q = rb onceB ltWear l (k + 1) → (∃ k' : Nat, k' ≤ l.length ∧ i64 ((k : Int) + 1) = i64 (k' : Int) ∧ i64 q = i64 (rb onceB ltWear l k') ∧ Below w.heap.size w W) := fun W q hW hq => ⟨k + 1, by omega, by push_cast; rfl, by rw [hq], Base.tr hb hW⟩
      have FIN := Lib.hid fin
      clear fin
      have hP : onceB (gi l k) = canErase (gi l k) ∨ onceB (gi l k) = (canErase (gi l k) && noNeed (gi l k)) := by first | exact Or.inl rfl | exact Or.inr rfl
      cases hp1 : canErase (gi l k)
      · have hp : onceB (gi l k) = false := by rcases hP with h | h <;> rw [h, hp1] <;> rfl
        rw [hp1] at g1
        have G1 := fun W => Lib.hid (g1 W)
        have G2 := fun W => Lib.hid (g2 W)
        clear hP hp1 g1 g2
        have hq : m = rb onceB ltWear l (k + 1) := by rw [HS.out, hp]; simp
        have HQ := Lib.hid hq
        clear hq
        go_wp2_with fail
        refine wp_region_quiet_on (by kernel_rfl) (by kernel_rfl) ?_
        repeat ((with_reducible refine wpQuiet_step (fun K hK => ?_)); go_simp; first | ((with_reducible refine hK _ ?_); clear hK K) | (rw [if_neg (by intro h; cases h)]; (with_reducible refine hK _ ?_); clear hK K) | (apply Exists.intro; refine ⟨fun _ => ?_, hK _ ?_⟩; (first | (with_reducible exact on_of (G1 _).out) | (with_reducible exact on_of (G2 _).out)); clear hK K))
        with_reducible refine wpQuiet_nil ?_
        intro _ hw'
        obtain ⟨pq, hw''⟩ := hw'
        subst hw''
        go_wp2_with fail
        exact ⟨FIN.out _ _ pq.h HQ.out, by simp [intOf]; omega⟩
      · rw [hp1] at g1
        have G1 := fun W => Lib.hid (g1 W)
        have HP1 := Lib.hid hp1
        clear g1 hp1
        cases hp2 : noNeed (gi l k)
        all_goals
          rw [hp2] at g2
          have G2 := fun W => Lib.hid (g2 W)
          have HP2 := Lib.hid hp2
          clear g2 hp2
          cases hp : onceB (gi l k)
          · first
            | (exfalso; first | (rw [HP1.out] at hp; cases hp; done) | (unfold onceB at hp; rw [HP1.out, HP2.out] at hp; cases hp; done))
            | skip
            all_goals
              have hq : m = rb onceB ltWear l (k + 1) := by rw [HS.out, hp]; simp
              have HQ := Lib.hid hq
              clear hq hP
              go_wp2_with fail
              refine wp_region_quiet_on (by kernel_rfl) (by kernel_rfl) ?_
              repeat ((with_reducible refine wpQuiet_step (fun K hK => ?_)); go_simp; first | ((with_reducible refine hK _ ?_); clear hK K) | (rw [if_neg (by intro h; cases h)]; (with_reducible refine hK _ ?_); clear hK K) | (apply Exists.intro; refine ⟨fun _ => ?_, hK _ ?_⟩; (first | (with_reducible exact on_of (G1 _).out) | (with_reducible exact on_of (G2 _).out)); clear hK K))
              with_reducible refine wpQuiet_nil ?_
              intro _ hw'
              obtain ⟨pq, hw''⟩ := hw'
              subst hw''
              go_wp2_with fail
              exact ⟨FIN.out _ _ pq.h HQ.out, by simp [intOf]; omega⟩
          · first
            | (exfalso; first | (rw [HP1.out] at hp; cases hp; done) | (unfold onceB at hp; rw [HP1.out, HP2.out] at hp; cases hp; done))
            | skip
            all_goals
              clear hP
              by_cases hm0 : m < 0
              · have hq : (k : Int) = rb onceB ltWear l (k + 1) := by rw [HS.out, hp]; simp [hm0]
                have HQ := Lib.hid hq
                clear hq
                go_wp2_with fail
                refine wp_region_quiet_on (by kernel_rfl) (by kernel_rfl) ?_
                repeat ((with_reducible refine wpQuiet_step (fun K hK => ?_)); go_simp; first | ((with_reducible refine hK _ ?_); clear hK K) | (rw [if_neg (by intro h; cases h)]; (with_reducible refine hK _ ?_); clear hK K) | (apply Exists.intro; refine ⟨fun _ => ?_, hK _ ?_⟩; (first | (with_reducible exact on_of (G1 _).out) | (with_reducible exact on_of (G2 _).out)); clear hK K))
                with_reducible refine wpQuiet_nil ?_
                intro _ hw'
                obtain ⟨pq, hw''⟩ := hw'
                subst hw''
                go_wp2_with fail
                exact ⟨FIN.out _ _ pq.h HQ.out, by simp [intOf]; omega⟩
              · obtain ⟨j, rfl⟩ : ∃ j : Nat, m = j := ⟨m.toNat, by omega⟩
                have hj : j < l.length := by omega
                have hj2 : (j : Int) < (l.length : Int) := by omega
                have f2 := fun p => on_cell hbs (HC.out j hj 2 _ rfl) p
                by_cases hw : (gi l k).wear < (gi l j).wear
                · have hq : (k : Int) = rb onceB ltWear l (k + 1) := by rw [HS.out, hp]; simp [ltWear, hw]
                  have HQ := Lib.hid hq
                  clear hq hm0
                  go_wp2_with fail
                  refine wp_region_quiet_on (by kernel_rfl) (by kernel_rfl) ?_
                  repeat ((with_reducible refine wpQuiet_step (fun K hK => ?_)); go_simp; first | ((with_reducible refine hK _ ?_); clear hK K) | (rw [if_neg (by intro h; cases h)]; (with_reducible refine hK _ ?_); clear hK K) | (apply Exists.intro; refine ⟨fun _ => ?_, hK _ ?_⟩; (first | (with_reducible exact on_of (G1 _).out) | (with_reducible exact on_of (G2 _).out)); clear hK K))
                  with_reducible refine wpQuiet_nil ?_
                  intro _ hw'
                  obtain ⟨pq, hw''⟩ := hw'
                  subst hw''
                  go_wp2_with fail
                  exact ⟨FIN.out _ _ pq.h HQ.out, by simp [intOf]; omega⟩
                · have hq : (j : Int) = rb onceB ltWear l (k + 1) := by rw [HS.out, if_neg (by simp [hp, ltWear, hw])]
                  have HQ := Lib.hid hq
                  clear hq hm0
                  go_wp2_with fail
                  refine wp_region_quiet_on (by kernel_rfl) (by kernel_rfl) ?_
                  repeat ((with_reducible refine wpQuiet_step (fun K hK => ?_)); go_simp; first | ((with_reducible refine hK _ ?_); clear hK K) | (rw [if_neg (by intro h; cases h)]; (with_reducible refine hK _ ?_); clear hK K) | (apply Exists.intro; refine ⟨fun _ => ?_, hK _ ?_⟩; (first | (with_reducible exact on_of (G1 _).out) | (with_reducible exact on_of (G2 _).out)); clear hK K))
                  with_reducible refine wpQuiet_nil ?_
                  intro _ hw'
                  obtain ⟨pq, hw''⟩ := hw'
                  subst hw''
                  go_wp2_with fail
                  exact ⟨FIN.out _ _ pq.h HQ.out, by simp [intOf]; omega⟩
    · have hke : k = l.length := by omega
      subst hke
      go_wp2_with fail
      go_ret
      exact ⟨rfl, hb⟩
end Go.Proofs.Ytbbiohgillhmnaa
