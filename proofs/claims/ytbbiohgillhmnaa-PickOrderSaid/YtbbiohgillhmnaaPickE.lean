/- The reference of layer 11: near, pass, Erase. -/
import Derived.Test.YtbbiohgillhmnaaPickQ
namespace Go.Proofs.Ytbbiohgillhmnaa
open Go.RowKit

def nearB (a b : Int) : Bool := decide (a < b + 4)
set_option maxHeartbeats 1000000 in
set_option maxRecDepth 100000 in
theorem near_any (a b : Int) (w : World) (b0 : -1099511627776 ≤ b) (b1 : b ≤ 1099511627776) : Makes 85 #[i64 a, i64 b] w (.bool (nearB a b)) := by
  have B0 := Lib.hid b0
  have B1 := Lib.hid b1
  clear b0 b1
  go_enter Try.func85, Try.ntmps85
  go_wp2_with fail
  go_loopw [5] (fun i wr => ∃ k : Nat, k ≤ 4 ∧ i = i64 (k : Int) ∧ Hid (∀ j : Nat, j < k → a ≠ b + j) ∧ Below w.heap.size w wr) (fun i _ => 4 - (intOf i).toNat)
  case atStart => exact ⟨0, by omega, rfl, (fun j hj => by omega), Below.refl _ _⟩
  case round =>
    obtain ⟨k, hk, rfl, hne, hb⟩ := hrel
    by_cases hlt : k < 4
    · have hwr : IntKind.i64.wrap (b + k) = b + k := by have := B0.out; have := B1.out; rw [IntKind.wrap_i64]; omega
      by_cases he : a = b + k
      · have hv : nearB a b = true := decide_eq_true (by omega)
        have heb : (a == b + (k : Int)) = true := by rw [beq_iff_eq]; exact he
        have HV := Lib.hid hv
        clear he hv
        go_wp2_with fail
        go_ret
        exact ⟨ret_bool HV.out.symm, hb⟩
      · have heb : (a == b + (k : Int)) = false := by rw [beq_eq_false_iff_ne]; exact he
        have HE := Lib.hid he
        clear he
        go_wp2_with fail
        refine ⟨⟨k + 1, by omega, by go_num, ?_, hb⟩, by simp [intOf]; omega⟩
        intro j hj
        by_cases hjk : j = k
        · subst hjk; exact HE.out
        · exact hne.out j (by omega)
    · have hk4 : k = 4 := by omega
      subst hk4
      have hv : nearB a b = decide (a < b) := by
        have h := hne.out
        have h0 := h 0 (by omega)
        have h1 := h 1 (by omega)
        have h2 := h 2 (by omega)
        have h3 := h 3 (by omega)
        unfold nearB
        exact decide_eq_decide.2 (by omega)
      have HV := Lib.hid hv
      clear hv
      go_wp2_with fail
      go_ret
      exact ⟨ret_bool HV.out.symm, hb⟩

def passB (x : Info) (least : Int) (n : Int) : Bool := canErase x && (decide (n = 2) || nearB x.wear least) && (decide (0 < n) || noNeed x)

set_option maxHeartbeats 2000000 in
set_option maxRecDepth 100000 in
theorem pass_any (x : Info) (b : Int) (n : Int) (hn : n = 0 ∨ n = 1 ∨ n = 2) (w : World) (b0 : -1099511627776 ≤ b) (b1 : b ≤ 1099511627776) : Makes 74 #[x.val, i64 b, i64 n] w (.bool (passB x b n)) := by
  have g1 := fun W => rmay_any x W
  have g2 := fun W => near_any x.wear b W b0 b1
  have g3 := fun W => rneedless_any x W
  unfold passB
  clear b0 b1
  cases h1 : canErase x <;> cases h2 : nearB x.wear b <;> cases h3 : noNeed x <;> rcases hn with rfl | rfl | rfl
  all_goals
    rw [h1] at g1
    rw [h2] at g2
    rw [h3] at g3
    have G1 := fun W => Lib.hid (g1 W)
    have G2 := fun W => Lib.hid (g2 W)
    have G3 := fun W => Lib.hid (g3 W)
    clear g1 g2 g3 h1 h2 h3
    go_enter Try.func74, Try.ntmps74
    go_wp2_with fail
    refine (G1 _).out.mono ?_
    rintro e w1 ⟨rfl, hb1⟩
    obtain ⟨hc1, hf1⟩ := bcell hb1
    have hz1 : w.heap.size < w1.heap.size := by have := hb1.size; simp at this; omega
    go_wp2_with fail
    try
      refine (G2 _).out.mono ?_
      rintro e w2 ⟨rfl, hb2⟩
      obtain ⟨hc2, hf2⟩ := bcell hb2
      go_wp2_with fail
    try
      refine (G3 _).out.mono ?_
      rintro e w3 ⟨rfl, hb3⟩
      go_wp2_with fail
    go_ret
    exact ⟨rfl, by repeat (first | exact Below.refl _ _ | (refine Base.tr ?_ (by assumption)) | refine Base.dn ?_ _ | refine Base.al ?_ _)⟩

/-! ### Erase -/
def rl (l : List Info) : Nat → Int × Bool
  | 0 => (0, false)
  | k + 1 => if !(gi l k).held && (!(rl l k).2 || decide ((gi l k).wear < (rl l k).1)) then ((gi l k).wear, true) else rl l k
def rin (l : List Info) (least n : Int) : Nat → Int
  | 0 => -1
  | k + 1 =>
    let b := rin l least n k
    if !passB (gi l k) least n then b
    else if b < 0 then k
    else if n = 2 ∧ (gi l k).wear ≠ (gi l b).wear then (if (gi l k).wear < (gi l b).wear then k else b)
    else if (gi l k).age < (gi l b).age then k else b
theorem rin_range (l : List Info) (least n : Int) : ∀ k, -1 ≤ rin l least n k ∧ rin l least n k < k
  | 0 => ⟨Int.le_refl _, by simp [rin]⟩
  | k + 1 => by
    have := rin_range l least n k
    simp only [rin]
    repeat' split
    all_goals omega
theorem rl_mild {l : List Info} (hm : Mild l) : ∀ k, -1099511627776 ≤ (rl l k).1 ∧ (rl l k).1 ≤ 1099511627776
  | 0 => by simp [rl]
  | k + 1 => by
    have := rl_mild hm k
    have := hm.gi k
    unfold rl
    split <;> assumption
def rErase (l : List Info) : Int :=
  let b := fun n => rin l (rl l l.length).1 n l.length
  if 0 ≤ b 0 then b 0 else if 0 ≤ b 1 then b 1 else if 0 ≤ b 2 then b 2 else -1

set_option maxHeartbeats 4000000 in
set_option maxRecDepth 100000 in
theorem rErase_any (A : Option Addr) (n cap : Nat) (l : List Info) (hmild : Mild l) (w : World) (h : Infos w (.slice A n cap) l) : Makes 43 #[.slice A n cap] w (i64 (rErase l)) := by
  have hn := h.len
  rw [List.length_map] at hn
  subst hn
  have hm := h.max
  rw [List.length_map] at hm
  unfold maxLen at hm
  go_enter Try.func43, Try.ntmps43
  go_wp2_with fail
  go_loopw [3, 4, 11] (fun least found i wr => ∃ k : Nat, k ≤ l.length ∧ i = i64 (k : Int) ∧ least = i64 (rl l k).1 ∧ found = .bool (rl l k).2 ∧ Below w.heap.size w wr) (fun _ _ i _ => l.length - (intOf i).toNat)
  case atStart => exact ⟨0, by omega, rfl, rfl, rfl, Below.refl _ _⟩
  case round =>
    obtain ⟨k, hk, rfl, rfl, rfl, hb⟩ := hrel
    by_cases hlt : k < l.length
    · obtain ⟨b, off, rfl, hbs, hc⟩ := gi_cells (Sl.below h hb) hlt
      have hs : rl l (k + 1) = if !(gi l k).held && (!(rl l k).2 || decide ((gi l k).wear < (rl l k).1)) then ((gi l k).wear, true) else rl l k := rfl
      have HS := Lib.hid hs
      have fin : ∀ (W : World) (q : Int × Bool), Below w.heap.size w W → q = rl l (k + 1) → (∃ k' : Nat, k' ≤ l.length ∧ i64 ((k : Int) + 1) = i64 (k' : Int) ∧ i64 q.1 = i64 (rl l k').1 ∧ Value.bool q.2 = .bool (rl l k').2 ∧ Below w.heap.size w W) := fun W q hW hq => ⟨k + 1, by omega, by push_cast; rfl, by rw [hq], by rw [hq], hW⟩
      have FIN := Lib.hid fin
      obtain ⟨r1, r2⟩ : ∃ q : Int × Bool, q = rl l k := ⟨_, rfl⟩
      generalize rl l k = q at *
      obtain ⟨q1, q2⟩ := q
      clear r1 r2 hs fin
      have e2 := hc k hlt 2 _ rfl
      have e5 := hc k hlt 5 _ rfl
      clear hc
      cases hh : (gi l k).held
      all_goals
        rw [hh] at e5
        have HH := Lib.hid hh
        clear hh
      · cases q2
        · have hq : ((gi l k).wear, true) = rl l (k + 1) := by rw [HS.out, HH.out]; rfl
          have HQ := Lib.hid hq
          clear hq
          go_wp2_with fail
          exact ⟨FIN.out _ _ hb HQ.out, by simp [intOf]; omega⟩
        · by_cases hw : (gi l k).wear < q1
          · have hq : ((gi l k).wear, true) = rl l (k + 1) := by rw [HS.out, HH.out]; simp [hw]
            have HQ := Lib.hid hq
            clear hq
            go_wp2_with fail
            exact ⟨FIN.out _ _ hb HQ.out, by simp [intOf]; omega⟩
          · have hq : (q1, true) = rl l (k + 1) := by rw [HS.out, HH.out]; simp [hw]
            have HQ := Lib.hid hq
            clear hq
            go_wp2_with fail
            exact ⟨FIN.out _ _ hb HQ.out, by simp [intOf]; omega⟩
      · have hq : (q1, q2) = rl l (k + 1) := by rw [HS.out, HH.out]; rfl
        have HQ := Lib.hid hq
        clear hq
        go_wp2_with fail
        exact ⟨FIN.out _ _ hb HQ.out, by simp [intOf]; omega⟩
    · have hke : k = l.length := by omega
      subst hke
      obtain ⟨b0, b1⟩ := rl_mild hmild l.length
      have hres : rErase l = if 0 ≤ rin l (rl l l.length).1 0 l.length then rin l (rl l l.length).1 0 l.length else if 0 ≤ rin l (rl l l.length).1 1 l.length then rin l (rl l l.length).1 1 l.length else if 0 ≤ rin l (rl l l.length).1 2 l.length then rin l (rl l l.length).1 2 l.length else -1 := rfl
      generalize rl l l.length = q at *
      obtain ⟨lst, fd⟩ := q
      simp only at hres b0 b1
      have HRES := Lib.hid hres
      have g1 := fun (x : Info) (n : Int) (hn : n = 0 ∨ n = 1 ∨ n = 2) W => Lib.hid (pass_any x lst n hn W b0 b1)
      clear hres b0 b1 hlt hk
      go_wp2_with fail
      go_loopw [6] (fun n wr => ∃ j : Nat, j ≤ 3 ∧ n = i64 (j : Int) ∧ Hid (∀ i : Nat, i < j → rin l lst i l.length < 0) ∧ Below w.heap.size w wr) (fun i _ => 3 - (intOf i).toNat)
      case atStart => exact ⟨0, by omega, rfl, (fun i hi => by omega), hb⟩
      case round =>
        clear hb
        obtain ⟨j, hj, rfl, hneg, hb⟩ := hrel
        by_cases hlt : j < 3
        · have hj012 : (j : Int) = 0 ∨ (j : Int) = 1 ∨ (j : Int) = 2 := by omega
          have hltb : decide ((j : Int) < 3) = true := decide_eq_true (by omega)
          have HLT := Lib.hid hlt
          clear hlt
          go_wp2_with fail
          go_loopw [7, 45] (fun best i wr => ∃ k : Nat, k ≤ l.length ∧ i = i64 (k : Int) ∧ best = i64 (rin l lst j k) ∧ Below w.heap.size w wr) (fun _ i _ => l.length - (intOf i).toNat)
          case atStart => exact ⟨0, by omega, rfl, rfl, hb⟩
          case round =>
            clear hb
            obtain ⟨k, hk, rfl, rfl, hb⟩ := hrel
            by_cases hlt2 : k < l.length
            · obtain ⟨b, off, rfl, hbs, hc⟩ := gi_cells (Sl.below h hb) hlt2
              have hr := rin_range l lst j k
              have hs : rin l lst j (k + 1) = if !passB (gi l k) lst j then rin l lst j k else if rin l lst j k < 0 then (k : Int) else if (j : Int) = 2 ∧ (gi l k).wear ≠ (gi l (rin l lst j k)).wear then (if (gi l k).wear < (gi l (rin l lst j k)).wear then (k : Int) else rin l lst j k) else if (gi l k).age < (gi l (rin l lst j k)).age then (k : Int) else rin l lst j k := rfl
              have fin : ∀ (W : World) (q : Int), Below w.heap.size w W → q = rin l lst j (k + 1) → (∃ k' : Nat, k' ≤ l.length ∧ i64 ((k : Int) + 1) = i64 (k' : Int) ∧ i64 q = i64 (rin l lst j k') ∧ Below w.heap.size w W) := fun W q hW hq => ⟨k + 1, by omega, by push_cast; rfl, by rw [hq], hW⟩
              generalize rin l lst j k = m at *
              have HS := Lib.hid hs
              have FIN := Lib.hid fin
              have g2 := fun W => (g1 (gi l k) j hj012 W).out
              have e0 := hc k hlt2 0 _ rfl
              rw [Nat.add_zero] at e0
              have e1 := hc k hlt2 1 _ rfl
              have e2 := hc k hlt2 2 _ rfl
              have e3 := hc k hlt2 3 _ rfl
              have e4 := hc k hlt2 4 _ rfl
              have e5 := hc k hlt2 5 _ rfl
              have HC := Lib.hid hc
              clear hs fin hc
              cases hp : passB (gi l k) lst j
              · have hq : m = rin l lst j (k + 1) := by rw [HS.out, hp]; rfl
                have HQ := Lib.hid hq
                rw [hp] at g2
                have G2 := fun W => Lib.hid (g2 W)
                clear hq hp g2
                go_wp2_with fail
                refine (G2 _).out.mono ?_
                rintro e w1 ⟨rfl, hb1⟩
                have HB := Base.tr hb hb1
                go_wp2_with fail
                first | exact ⟨FIN.out _ _ HB HQ.out, by simp [intOf]; omega⟩ | (go_roundw; (case rel => exact FIN.out _ _ HB HQ.out); (case measure => simp [intOf]; omega))
              · rw [hp] at g2
                have G2 := fun W => Lib.hid (g2 W)
                have HP := Lib.hid hp
                clear g2 hp
                by_cases hm0 : m < 0
                · have hq : (k : Int) = rin l lst j (k + 1) := by rw [HS.out, HP.out, if_neg (by decide), if_pos hm0]
                  have HQ := Lib.hid hq
                  clear hq
                  go_wp2_with fail
                  refine (G2 _).out.mono ?_
                  rintro e w1 ⟨rfl, hb1⟩
                  have HB := Base.tr hb hb1
                  go_wp2_with fail
                  first | exact ⟨FIN.out _ _ HB HQ.out, by simp [intOf]; omega⟩ | (go_roundw; (case rel => exact FIN.out _ _ HB HQ.out); (case measure => simp [intOf]; omega))
                · obtain ⟨i, rfl⟩ : ∃ i : Nat, m = i := ⟨m.toNat, by omega⟩
                  have hi : i < l.length := by omega
                  have hi2 : (i : Int) < (l.length : Int) := by omega
                  have f2 := HC.out i hi 2 _ rfl
                  have f3 := HC.out i hi 3 _ rfl
                  have HS2 : Hid (rin l lst j (k + 1) = if (j : Int) = 2 ∧ (gi l k).wear ≠ (gi l i).wear then (if (gi l k).wear < (gi l i).wear then (k : Int) else i) else if (gi l k).age < (gi l i).age then (k : Int) else i) := Lib.hid (by rw [HS.out, HP.out, if_neg (by decide), if_neg hm0])
                  clear HS hm0 hr
                  go_wp2_with fail
                  refine (G2 _).out.mono ?_
                  rintro e w1 ⟨rfl, hb1⟩
                  rw [← hb1.cell (p := ⟨b, _, none⟩) hbs] at e2 e3 f2 f3
                  have HB := Base.tr hb hb1
                  have hbs1 : b < w1.heap.size := Nat.lt_of_lt_of_le hbs hb1.size
                  have k2 := fun p => on_cell hbs1 e2 p
                  have k3 := fun p => on_cell hbs1 e3 p
                  have m2 := fun p => on_cell hbs1 f2 p
                  have m3 := fun p => on_cell hbs1 f3 p
                  clear e0 e1 e2 e3 e4 e5 f2 f3 hb hb1 G2 HP
                  obtain ⟨t2, ht2⟩ : ∃ t, ((j : Int) == 2) = t := ⟨_, rfl⟩
                  obtain ⟨tn, htn⟩ : ∃ t, ((gi l k).wear != (gi l i).wear) = t := ⟨_, rfl⟩
                  have hcond : ((j : Int) = 2 ∧ (gi l k).wear ≠ (gi l i).wear) ↔ (t2 && tn) = true := by rw [← ht2, ← htn]; simp
                  have HC2 := Lib.hid hcond
                  clear hcond
                  cases t2
                  · have HC3 : Hid (¬ ((j : Int) = 2 ∧ (gi l k).wear ≠ (gi l i).wear)) := Lib.hid (by rw [HC2.out]; simp)
                    go_wp2_with fail
                    refine wp_region_quiet_on (by kernel_rfl) (by kernel_rfl) ?_
                    repeat ((with_reducible refine wpQuiet_step (fun K hK => ?_)); go_simp; first | ((with_reducible refine hK _ ?_); clear hK K) | (rw [if_neg (by intro h; cases h)]; (with_reducible refine hK _ ?_); clear hK K) | (apply Exists.intro; refine ⟨fun _ => ?_, hK _ ?_⟩; (fail); clear hK K))
                    with_reducible refine wpQuiet_nil ?_
                    intro _ hw'
                    obtain ⟨pq, hw''⟩ := hw'
                    subst hw''
                    have u3 := fun p => on_cell (Nat.lt_of_lt_of_le hbs1 pq.h.size) (k3 pq) p
                    have v3 := fun p => on_cell (Nat.lt_of_lt_of_le hbs1 pq.h.size) (m3 pq) p
                    have HB := Base.tr HB pq.h
                    by_cases hage : (gi l k).age < (gi l i).age
                    · have HQ : Hid ((k : Int) = rin l lst j (k + 1)) := Lib.hid (by rw [HS2.out, if_neg HC3.out, if_pos hage])
                      go_wp2_with fail
                      refine wp_region_quiet_on (by kernel_rfl) (by kernel_rfl) ?_
                      repeat ((with_reducible refine wpQuiet_step (fun K hK => ?_)); go_simp; first | ((with_reducible refine hK _ ?_); clear hK K) | (rw [if_neg (by intro h; cases h)]; (with_reducible refine hK _ ?_); clear hK K) | (apply Exists.intro; refine ⟨fun _ => ?_, hK _ ?_⟩; (fail); clear hK K))
                      with_reducible refine wpQuiet_nil ?_
                      intro _ hw'
                      obtain ⟨pq, hw''⟩ := hw'
                      subst hw''
                      have HB := Base.tr HB pq.h
                      go_wp2_with fail
                      first | exact ⟨FIN.out _ _ HB HQ.out, by simp [intOf]; omega⟩ | (go_roundw; (case rel => exact FIN.out _ _ HB HQ.out); (case measure => simp [intOf]; omega))
                    · have HQ : Hid ((i : Int) = rin l lst j (k + 1)) := Lib.hid (by rw [HS2.out, if_neg HC3.out, if_neg hage])
                      go_wp2_with fail
                      refine wp_region_quiet_on (by kernel_rfl) (by kernel_rfl) ?_
                      repeat ((with_reducible refine wpQuiet_step (fun K hK => ?_)); go_simp; first | ((with_reducible refine hK _ ?_); clear hK K) | (rw [if_neg (by intro h; cases h)]; (with_reducible refine hK _ ?_); clear hK K) | (apply Exists.intro; refine ⟨fun _ => ?_, hK _ ?_⟩; (fail); clear hK K))
                      with_reducible refine wpQuiet_nil ?_
                      intro _ hw'
                      obtain ⟨pq, hw''⟩ := hw'
                      subst hw''
                      have HB := Base.tr HB pq.h
                      go_wp2_with fail
                      first | exact ⟨FIN.out _ _ HB HQ.out, by simp [intOf]; omega⟩ | (go_roundw; (case rel => exact FIN.out _ _ HB HQ.out); (case measure => simp [intOf]; omega))
                  · cases tn
                    · have HC3 : Hid (¬ ((j : Int) = 2 ∧ (gi l k).wear ≠ (gi l i).wear)) := Lib.hid (by rw [HC2.out]; simp)
                      go_wp2_with fail
                      refine wp_region_quiet_on (by kernel_rfl) (by kernel_rfl) ?_
                      repeat ((with_reducible refine wpQuiet_step (fun K hK => ?_)); go_simp; first | ((with_reducible refine hK _ ?_); clear hK K) | (rw [if_neg (by intro h; cases h)]; (with_reducible refine hK _ ?_); clear hK K) | (apply Exists.intro; refine ⟨fun _ => ?_, hK _ ?_⟩; (fail); clear hK K))
                      with_reducible refine wpQuiet_nil ?_
                      intro _ hw'
                      obtain ⟨pq, hw''⟩ := hw'
                      subst hw''
                      have u3 := fun p => on_cell (Nat.lt_of_lt_of_le hbs1 pq.h.size) (k3 pq) p
                      have v3 := fun p => on_cell (Nat.lt_of_lt_of_le hbs1 pq.h.size) (m3 pq) p
                      have HB := Base.tr HB pq.h
                      by_cases hage : (gi l k).age < (gi l i).age
                      · have HQ : Hid ((k : Int) = rin l lst j (k + 1)) := Lib.hid (by rw [HS2.out, if_neg HC3.out, if_pos hage])
                        go_wp2_with fail
                        refine wp_region_quiet_on (by kernel_rfl) (by kernel_rfl) ?_
                        repeat ((with_reducible refine wpQuiet_step (fun K hK => ?_)); go_simp; first | ((with_reducible refine hK _ ?_); clear hK K) | (rw [if_neg (by intro h; cases h)]; (with_reducible refine hK _ ?_); clear hK K) | (apply Exists.intro; refine ⟨fun _ => ?_, hK _ ?_⟩; (fail); clear hK K))
                        with_reducible refine wpQuiet_nil ?_
                        intro _ hw'
                        obtain ⟨pq, hw''⟩ := hw'
                        subst hw''
                        have HB := Base.tr HB pq.h
                        go_wp2_with fail
                        first | exact ⟨FIN.out _ _ HB HQ.out, by simp [intOf]; omega⟩ | (go_roundw; (case rel => exact FIN.out _ _ HB HQ.out); (case measure => simp [intOf]; omega))
                      · have HQ : Hid ((i : Int) = rin l lst j (k + 1)) := Lib.hid (by rw [HS2.out, if_neg HC3.out, if_neg hage])
                        go_wp2_with fail
                        refine wp_region_quiet_on (by kernel_rfl) (by kernel_rfl) ?_
                        repeat ((with_reducible refine wpQuiet_step (fun K hK => ?_)); go_simp; first | ((with_reducible refine hK _ ?_); clear hK K) | (rw [if_neg (by intro h; cases h)]; (with_reducible refine hK _ ?_); clear hK K) | (apply Exists.intro; refine ⟨fun _ => ?_, hK _ ?_⟩; (fail); clear hK K))
                        with_reducible refine wpQuiet_nil ?_
                        intro _ hw'
                        obtain ⟨pq, hw''⟩ := hw'
                        subst hw''
                        have HB := Base.tr HB pq.h
                        go_wp2_with fail
                        first | exact ⟨FIN.out _ _ HB HQ.out, by simp [intOf]; omega⟩ | (go_roundw; (case rel => exact FIN.out _ _ HB HQ.out); (case measure => simp [intOf]; omega))
                    · have HC3 : Hid ((j : Int) = 2 ∧ (gi l k).wear ≠ (gi l i).wear) := Lib.hid (by rw [HC2.out]; simp)
                      go_wp2_with fail
                      refine wp_region_quiet_on (by kernel_rfl) (by kernel_rfl) ?_
                      repeat ((with_reducible refine wpQuiet_step (fun K hK => ?_)); go_simp; first | ((with_reducible refine hK _ ?_); clear hK K) | (rw [if_neg (by intro h; cases h)]; (with_reducible refine hK _ ?_); clear hK K) | (apply Exists.intro; refine ⟨fun _ => ?_, hK _ ?_⟩; (fail); clear hK K))
                      with_reducible refine wpQuiet_nil ?_
                      intro _ hw'
                      obtain ⟨pq, hw''⟩ := hw'
                      subst hw''
                      have u2 := fun p => on_cell (Nat.lt_of_lt_of_le hbs1 pq.h.size) (k2 pq) p
                      have v2 := fun p => on_cell (Nat.lt_of_lt_of_le hbs1 pq.h.size) (m2 pq) p
                      have HB := Base.tr HB pq.h
                      by_cases hwe : (gi l k).wear < (gi l i).wear
                      · have HQ : Hid ((k : Int) = rin l lst j (k + 1)) := Lib.hid (by rw [HS2.out, if_pos HC3.out, if_pos hwe])
                        go_wp2_with fail
                        refine wp_region_quiet_on (by kernel_rfl) (by kernel_rfl) ?_
                        repeat ((with_reducible refine wpQuiet_step (fun K hK => ?_)); go_simp; first | ((with_reducible refine hK _ ?_); clear hK K) | (rw [if_neg (by intro h; cases h)]; (with_reducible refine hK _ ?_); clear hK K) | (apply Exists.intro; refine ⟨fun _ => ?_, hK _ ?_⟩; (fail); clear hK K))
                        with_reducible refine wpQuiet_nil ?_
                        intro _ hw'
                        obtain ⟨pq, hw''⟩ := hw'
                        subst hw''
                        have HB := Base.tr HB pq.h
                        go_wp2_with fail
                        first | exact ⟨FIN.out _ _ HB HQ.out, by simp [intOf]; omega⟩ | (go_roundw; (case rel => exact FIN.out _ _ HB HQ.out); (case measure => simp [intOf]; omega))
                      · have HQ : Hid ((i : Int) = rin l lst j (k + 1)) := Lib.hid (by rw [HS2.out, if_pos HC3.out, if_neg hwe])
                        go_wp2_with fail
                        refine wp_region_quiet_on (by kernel_rfl) (by kernel_rfl) ?_
                        repeat ((with_reducible refine wpQuiet_step (fun K hK => ?_)); go_simp; first | ((with_reducible refine hK _ ?_); clear hK K) | (rw [if_neg (by intro h; cases h)]; (with_reducible refine hK _ ?_); clear hK K) | (apply Exists.intro; refine ⟨fun _ => ?_, hK _ ?_⟩; (fail); clear hK K))
                        with_reducible refine wpQuiet_nil ?_
                        intro _ hw'
                        obtain ⟨pq, hw''⟩ := hw'
                        subst hw''
                        have HB := Base.tr HB pq.h
                        go_wp2_with fail
                        first | exact ⟨FIN.out _ _ HB HQ.out, by simp [intOf]; omega⟩ | (go_roundw; (case rel => exact FIN.out _ _ HB HQ.out); (case measure => simp [intOf]; omega))
            · have hke : k = l.length := by omega
              subst hke
              generalize hm : rin l lst j l.length = m at *
              have HM := Lib.hid hm
              clear hm
              by_cases hm0 : 0 ≤ m
              · have hv : rErase l = m := by
                  have hn := hneg.out
                  have hh := HM.out
                  rw [HRES.out]
                  rcases hj012 with h | h | h
                  · rw [h] at hh; rw [hh, if_pos hm0]
                  · rw [h] at hh
                    have h0 : rin l lst 0 l.length < 0 := hn 0 (by omega)
                    rw [hh, if_neg (by omega), if_pos hm0]
                  · rw [h] at hh
                    have h0 : rin l lst 0 l.length < 0 := hn 0 (by omega)
                    have h1 : rin l lst 1 l.length < 0 := hn 1 (by omega)
                    rw [hh, if_neg (by omega), if_neg (by omega), if_pos hm0]
                have HV := Lib.hid hv
                clear hv
                go_wp2_with fail
                go_ret
                exact ⟨ret_int HV.out.symm, hb⟩
              · have hnew : Hid (∀ i : Nat, i < j + 1 → rin l lst i l.length < 0) := Lib.hid (by
                  intro i hi
                  by_cases hij : i = j
                  · subst hij; rw [HM.out]; omega
                  · exact hneg.out i (by omega))
                go_wp2_with fail
                exact ⟨⟨j + 1, by have := HLT.out; omega, by go_num, hnew, hb⟩, by have := HLT.out; simp [intOf]; omega⟩
        · have hj3 : j = 3 := by omega
          subst hj3
          have hv : rErase l = -1 := by
            have h := hneg.out
            have h0 : rin l lst 0 l.length < 0 := h 0 (by omega)
            have h1 : rin l lst 1 l.length < 0 := h 1 (by omega)
            have h2 : rin l lst 2 l.length < 0 := h 2 (by omega)
            rw [HRES.out, if_neg (by omega), if_neg (by omega), if_neg (by omega)]
          have HV := Lib.hid hv
          clear hv
          go_wp2_with fail
          go_ret
          exact ⟨ret_int HV.out.symm, hb⟩
end Go.Proofs.Ytbbiohgillhmnaa
