/- Package text: a number. -/
import Derived.Test.YtbjjpplhnibjdaaDoorText3
namespace Go.Proofs.YtbjjpplhnibjdaaDoor
open Go Go.RowKit

/-- Would a number with a digit more be too great? -/
def bigB (n d : Nat) : Bool := decide (((4611686018427387904 : Int) - (d : Int)) / 10 < (n : Int))
def numGo : Nat → List Nat → Option Nat
  | n, [] => some n
  | n, c :: cs => if bigB n (c - 48) then none else numGo (10 * n + (c - 48)) cs
def minusB (l : List Nat) (a : Nat) : Bool := decide (a < l.length) && decide (l.getD a 0 = 45)
def numD (m : Bool) (l : List Nat) (a : Nat) : Except Nat (Int × Nat) :=
  if runL 48 57 l a = [] then (if a + runN 48 57 (l.drop a) < l.length then .error 2 else .error 3)
  else if (runL 48 57 l a).getD 0 0 = 48 ∧ (1 < (runL 48 57 l a).length ∨ m = true) then .error 2
  else match numGo 0 (runL 48 57 l a) with
    | none => .error 5
    | some n => .ok (if m then -(n : Int) else (n : Int), a + runN 48 57 (l.drop a))
/-- A number that stands at a place, and the place behind it. -/
def tNumber (l : List Nat) (a : Nat) : Except Nat (Int × Nat) := if minusB l a then numD true l (a + 1) else numD false l a

theorem runN_mem (f t : Nat) : ∀ (l : List Nat), ∀ x ∈ l.take (runN f t l), f ≤ x ∧ x ≤ t
  | [] => by intro x hx; simp at hx
  | c :: r => by
    unfold runN
    split
    · rename_i hc
      intro x hx
      rw [List.take_succ_cons] at hx
      rcases List.mem_cons.1 hx with rfl | hx
      · exact hc
      · exact runN_mem f t r x hx
    · intro x hx; simp at hx
theorem runL_mem (f t : Nat) (l : List Nat) (a : Nat) : ∀ x ∈ runL f t l a, f ≤ x ∧ x ≤ t := runN_mem f t (l.drop a)
theorem runL_len (f t : Nat) (l : List Nat) (a : Nat) : (runL f t l a).length = runN f t (l.drop a) := by
  unfold runL
  rw [List.length_take]
  exact Nat.min_eq_left (runN_le _ _ _)
theorem bigB_no {n d : Nat} (h : bigB n d = false) : 10 * n + d ≤ 4611686018427387904 := by
  unfold bigB at h
  have h := of_decide_eq_false h
  omega

theorem toB_get {l : List Nat} (hl : ∀ x ∈ l, x < 256) {i : Nat} (h : i < (toB l).size) : ((toB l)[i]).toNat = l.getD i 0 := by
  have := sb_get (s := toB l) h
  rw [sb_toB l hl] at this
  exact this

theorem toB_nil : toB [] = { data := #[] } := rfl
theorem digit_at {ds : List Nat} (h : ∀ x ∈ ds, 48 ≤ x ∧ x ≤ 57) {i : Nat} (hi : i < ds.length) : ∃ d, ds.getD i 0 = 48 + d ∧ ds.drop i = (48 + d) :: ds.drop (i + 1) ∧ d ≤ 9 := by
  have hx := h ds[i] (List.getElem_mem hi)
  refine ⟨ds[i] - 48, ?_, ?_, by omega⟩
  · rw [List.getD_eq_getElem?_getD, List.getElem?_eq_getElem hi]; show ds[i] = _; omega
  · rw [List.drop_eq_getElem_cons hi]; congr 1; omega

set_option maxHeartbeats 8000000 in
set_option maxRecDepth 100000 in
theorem number_minus (r : Nat) (s : ByteArray) (a : Nat) (w : World) (h : RdT w r s a) (hm : s.size ≤ 60000) (hl : a < s.size) (h45 : (sb s).getD a 0 = 45) :
    Calls Tryd.prog 31 #[.pointer (some ⟨r, 0, none⟩)] w (RdPost w r s (fun y : Int × Nat => i64 y.1) (·.2) (numD true (sb s) (a + 1))) := by
  have hm1 : s.size ≤ 100000 := by omega
  have c0 : w.cell? ⟨r, 0, none⟩ = some (.string s) := cell_blk h 0
  have c1 : w.cell? ⟨r, 1, none⟩ = some (i64 a) := cell_blk h 1
  have hr := (Array.getElem?_eq_some_iff.1 h).1
  have k0 := fun p : OnOf w => on_cell hr c0 p
  have k1 := fun p : OnOf w => on_cell hr c1 p
  have kwa : IntKind.i64.wrap (a : Int) = (a : Int) := by rw [IntKind.wrap_i64]; omega
  have hai : (a : Int) < (s.size : Int) := by omega
  have t1 : decide ((a : Int) < (s.size : Int)) = true := decide_eq_true hai
  have hsb : s[a].toNat = 45 := by rw [← h45]; exact sb_get hl
  clear h45 c0 c1
  have HRun0 := fun W h' => run_any r s (a + 1) 48 57 W h' (by omega) hm1
  have hrange0 := runL_mem 48 57 (sb s) (a + 1)
  have hlen0 := runL_len 48 57 (sb s) (a + 1)
  have hrn := runN_le 48 57 ((sb s).drop (a + 1))
  rw [List.length_drop, sb_len] at hrn
  unfold numD
  obtain ⟨ds, hds⟩ : ∃ ds, runL 48 57 (sb s) (a + 1) = ds := ⟨_, rfl⟩
  obtain ⟨E, hE0⟩ : ∃ E, (a + 1) + runN 48 57 ((sb s).drop (a + 1)) = E := ⟨_, rfl⟩
  have hE : E ≤ s.size := by omega
  have hdl : ds.length ≤ 60000 := by rw [← hds, hlen0]; omega
  rw [hds] at HRun0 hrange0
  rw [hE0] at HRun0
  rw [hds, hE0]
  have HRun := fun W h' => Lib.hid (HRun0 W h')
  have hrange := Lib.hid hrange0
  have hget := fun i h' => toB_get (l := ds) (fun x hx => by have := (hrange0 x hx).2; omega) (i := i) h'
  have hds2 : ds = [] ∨ ∃ x, ds.getD 0 0 = x ∧ ds ≠ [] := by
    cases hq : ds with
    | nil => exact .inl rfl
    | cons x r => exact .inr ⟨_, rfl, by simp⟩
  obtain ⟨RES, hRES⟩ : ∃ RES, numGo 0 ds = RES := ⟨_, rfl⟩
  rw [hRES]
  have HRESX : Hid (numGo 0 (ds.drop 0) = RES) := Lib.hid hRES
  clear HRun0 hrange0 hlen0 hrn hds hE0 hRES
  rcases hds2 with hds2 | ⟨x, hx0, hne⟩
  · rw [if_pos hds2]
    by_cases hel : E < (sb s).length
    · rw [if_pos hel]
      have G := fun W h' => Lib.hid (next_any r s E W h' hE hm1)
      rw [show tNext (sb s) E = .ok ((sb s).getD E 0, E + 1) from by unfold tNext; rw [if_pos hel]] at G
      simp only [hds2] at HRun
      have hte0 : (toB []).toList.isEmpty = true := by rw [ByteArray.toList_eq]; rfl
      clear hds2 hel hrange hget HRESX
      go_enter Tryd.func31, Tryd.ntmps31
      go_wp2_with fail
      refine wp_region_quiet_on (by kernel_rfl) (by kernel_rfl) ?_
      repeat ((with_reducible refine wpQuiet_step (fun K hK => ?_)); go_simp; first | ((with_reducible refine hK _ ?_); clear hK K) | (rw [if_neg (by intro h; cases h)]; (with_reducible refine hK _ ?_); clear hK K) | (apply Exists.intro; refine ⟨fun _ => ?_, hK _ ?_⟩; (fail); clear hK K))
      with_reducible refine wpQuiet_nil ?_
      intro _ hw'
      obtain ⟨pq, hw''⟩ := hw'
      subst hw''
      have h2 := blk_below h pq.h
      have hg2 := grown_of_below (some r) pq.h
      generalize pq.v = w2 at *
      have d0 := cell_blk h2 0
      have d1 := cell_blk h2 1
      have fd := fun o => frozen_blk h2 o
      have kw1 : IntKind.i64.wrap ((a : Int) + 1) = (a : Int) + 1 := by rw [IntKind.wrap_i64]; omega
      clear k0 k1
      go_wp2_with fail
      have h3 : RdT (w2.setCell ⟨r, 1, none⟩ (.int .i64 ((a : Int) + 1))) r s (a + 1) := heap_setCell h2 1 (.int .i64 ((a : Int) + 1))
      have hg3 : w.grownBy (w2.setCell ⟨r, 1, none⟩ (.int .i64 ((a : Int) + 1))) (some r) := grown_setCell hg2 _ _
      refine (HRun _ h3).out.mono ?_; rintro e3 w3 ⟨rfl, hR3, hg3'⟩
      have hg3 := grown_trans hg3 hg3'
      clear hg3'
      go_wp2_with fail
      refine (G _ hR3).out.mono ?_; rintro e4 w4 ⟨rfl, hR4, hg4⟩
      go_wp2_with fail
      exact ⟨rfl, rfl, grown_trans hg3 hg4⟩
    · rw [if_neg hel]
      have G := fun W h' => Lib.hid (next_any r s E W h' hE hm1)
      rw [show tNext (sb s) E = .error 3 from by unfold tNext; rw [if_neg hel]] at G
      simp only [hds2] at HRun
      have hte0 : (toB []).toList.isEmpty = true := by rw [ByteArray.toList_eq]; rfl
      clear hds2 hel hrange hget HRESX
      go_enter Tryd.func31, Tryd.ntmps31
      go_wp2_with fail
      refine wp_region_quiet_on (by kernel_rfl) (by kernel_rfl) ?_
      repeat ((with_reducible refine wpQuiet_step (fun K hK => ?_)); go_simp; first | ((with_reducible refine hK _ ?_); clear hK K) | (rw [if_neg (by intro h; cases h)]; (with_reducible refine hK _ ?_); clear hK K) | (apply Exists.intro; refine ⟨fun _ => ?_, hK _ ?_⟩; (fail); clear hK K))
      with_reducible refine wpQuiet_nil ?_
      intro _ hw'
      obtain ⟨pq, hw''⟩ := hw'
      subst hw''
      have h2 := blk_below h pq.h
      have hg2 := grown_of_below (some r) pq.h
      generalize pq.v = w2 at *
      have d0 := cell_blk h2 0
      have d1 := cell_blk h2 1
      have fd := fun o => frozen_blk h2 o
      have kw1 : IntKind.i64.wrap ((a : Int) + 1) = (a : Int) + 1 := by rw [IntKind.wrap_i64]; omega
      clear k0 k1
      go_wp2_with fail
      have h3 : RdT (w2.setCell ⟨r, 1, none⟩ (.int .i64 ((a : Int) + 1))) r s (a + 1) := heap_setCell h2 1 (.int .i64 ((a : Int) + 1))
      have hg3 : w.grownBy (w2.setCell ⟨r, 1, none⟩ (.int .i64 ((a : Int) + 1))) (some r) := grown_setCell hg2 _ _
      refine (HRun _ h3).out.mono ?_; rintro e3 w3 ⟨rfl, hR3, hg3'⟩
      have hg3 := grown_trans hg3 hg3'
      clear hg3'
      go_wp2_with fail
      refine (G _ hR3).out.mono ?_; rintro e4 w4 ⟨rfl, hg4⟩
      go_wp2_with fail
      exact ⟨rfl, rfl, grown_trans hg3 hg4⟩
  rw [if_neg hne]
  have hnz : 0 < ds.length := List.length_pos_iff.2 hne
  have hte : (toB ds).toList.isEmpty = false := by
    rw [ByteArray.toList_eq, List.isEmpty_eq_false_iff]
    intro e
    have e2 := congrArg List.length e
    rw [Array.length_toList] at e2
    have e3 : (toB ds).size = 0 := e2
    rw [toB_size] at e3
    omega
  have hT0 : (0 : Int) < ((toB ds).size : Int) := by rw [toB_size]; omega
  have hTs : ((toB ds).size : Int) = (ds.length : Int) := by rw [toB_size]
  have hg0 := hget 0 (by rw [toB_size]; exact hnz)
  rw [hx0] at hg0
  rw [hx0]
  clear hx0 hne
  by_cases h48 : x = 48
  · subst h48
    by_cases h1 : 1 < ds.length
    · rw [if_pos ⟨rfl, .inl h1⟩]
      have t51 : decide ((1 : Int) < (ds.length : Int)) = true := decide_eq_true (by omega)
      clear hrange hget HRESX
      go_enter Tryd.func31, Tryd.ntmps31
      go_wp2_with fail
      refine wp_region_quiet_on (by kernel_rfl) (by kernel_rfl) ?_
      repeat ((with_reducible refine wpQuiet_step (fun K hK => ?_)); go_simp; first | ((with_reducible refine hK _ ?_); clear hK K) | (rw [if_neg (by intro h; cases h)]; (with_reducible refine hK _ ?_); clear hK K) | (apply Exists.intro; refine ⟨fun _ => ?_, hK _ ?_⟩; (fail); clear hK K))
      with_reducible refine wpQuiet_nil ?_
      intro _ hw'
      obtain ⟨pq, hw''⟩ := hw'
      subst hw''
      have h2 := blk_below h pq.h
      have hg2 := grown_of_below (some r) pq.h
      generalize pq.v = w2 at *
      have d0 := cell_blk h2 0
      have d1 := cell_blk h2 1
      have fd := fun o => frozen_blk h2 o
      have kw1 : IntKind.i64.wrap ((a : Int) + 1) = (a : Int) + 1 := by rw [IntKind.wrap_i64]; omega
      clear k0 k1
      go_wp2_with fail
      have h3 : RdT (w2.setCell ⟨r, 1, none⟩ (.int .i64 ((a : Int) + 1))) r s (a + 1) := heap_setCell h2 1 (.int .i64 ((a : Int) + 1))
      have hg3 : w.grownBy (w2.setCell ⟨r, 1, none⟩ (.int .i64 ((a : Int) + 1))) (some r) := grown_setCell hg2 _ _
      refine (HRun _ h3).out.mono ?_; rintro e3 w3 ⟨rfl, hR3, hg3'⟩
      have hg3 := grown_trans hg3 hg3'
      clear hg3'
      go_wp2_with fail
      exact ⟨rfl, rfl, hg3⟩
    · rw [if_pos ⟨rfl, .inr rfl⟩]
      have t51 : decide ((1 : Int) < (ds.length : Int)) = false := decide_eq_false (by omega)
      clear hrange hget HRESX
      go_enter Tryd.func31, Tryd.ntmps31
      go_wp2_with fail
      refine wp_region_quiet_on (by kernel_rfl) (by kernel_rfl) ?_
      repeat ((with_reducible refine wpQuiet_step (fun K hK => ?_)); go_simp; first | ((with_reducible refine hK _ ?_); clear hK K) | (rw [if_neg (by intro h; cases h)]; (with_reducible refine hK _ ?_); clear hK K) | (apply Exists.intro; refine ⟨fun _ => ?_, hK _ ?_⟩; (fail); clear hK K))
      with_reducible refine wpQuiet_nil ?_
      intro _ hw'
      obtain ⟨pq, hw''⟩ := hw'
      subst hw''
      have h2 := blk_below h pq.h
      have hg2 := grown_of_below (some r) pq.h
      generalize pq.v = w2 at *
      have d0 := cell_blk h2 0
      have d1 := cell_blk h2 1
      have fd := fun o => frozen_blk h2 o
      have kw1 : IntKind.i64.wrap ((a : Int) + 1) = (a : Int) + 1 := by rw [IntKind.wrap_i64]; omega
      clear k0 k1
      go_wp2_with fail
      have h3 : RdT (w2.setCell ⟨r, 1, none⟩ (.int .i64 ((a : Int) + 1))) r s (a + 1) := heap_setCell h2 1 (.int .i64 ((a : Int) + 1))
      have hg3 : w.grownBy (w2.setCell ⟨r, 1, none⟩ (.int .i64 ((a : Int) + 1))) (some r) := grown_setCell hg2 _ _
      refine (HRun _ h3).out.mono ?_; rintro e3 w3 ⟨rfl, hR3, hg3'⟩
      have hg3 := grown_trans hg3 hg3'
      clear hg3'
      go_wp2_with fail
      exact ⟨rfl, rfl, hg3⟩
  · rw [if_neg (by rintro ⟨h, _⟩; exact h48 h)]
    have t48 : ((x : Int) == 48) = false := by rw [beq_eq_false_iff_ne]; omega
    have HRES := HRESX
    clear HRESX
    have HG := Lib.hid hget
    clear hget
    obtain ⟨X, hX⟩ : ∃ X, (match RES with | none => (Except.error 5 : Except Nat (Int × Nat)) | some n => .ok (if true = true then -(n : Int) else (n : Int), E)) = X := ⟨_, rfl⟩
    rw [hX]
    have HX := Lib.hid hX
    clear hX
    go_enter Tryd.func31, Tryd.ntmps31
    go_wp2_with fail
    refine wp_region_quiet_on (by kernel_rfl) (by kernel_rfl) ?_
    repeat ((with_reducible refine wpQuiet_step (fun K hK => ?_)); go_simp; first | ((with_reducible refine hK _ ?_); clear hK K) | (rw [if_neg (by intro h; cases h)]; (with_reducible refine hK _ ?_); clear hK K) | (apply Exists.intro; refine ⟨fun _ => ?_, hK _ ?_⟩; (fail); clear hK K))
    with_reducible refine wpQuiet_nil ?_
    intro _ hw'
    obtain ⟨pq, hw''⟩ := hw'
    subst hw''
    have h2 := blk_below h pq.h
    have hg2 := grown_of_below (some r) pq.h
    generalize pq.v = w2 at *
    have d0 := cell_blk h2 0
    have d1 := cell_blk h2 1
    have fd := fun o => frozen_blk h2 o
    have kw1 : IntKind.i64.wrap ((a : Int) + 1) = (a : Int) + 1 := by rw [IntKind.wrap_i64]; omega
    clear k0 k1
    go_wp2_with fail
    have h3 : RdT (w2.setCell ⟨r, 1, none⟩ (.int .i64 ((a : Int) + 1))) r s (a + 1) := heap_setCell h2 1 (.int .i64 ((a : Int) + 1))
    have hg3 : w.grownBy (w2.setCell ⟨r, 1, none⟩ (.int .i64 ((a : Int) + 1))) (some r) := grown_setCell hg2 _ _
    refine (HRun _ h3).out.mono ?_; rintro e3 w3 ⟨rfl, hR3, hg3'⟩
    have hg3 := grown_trans hg3 hg3'
    clear hg3'
    go_wp2_with fail
    go_loopw [5, 59] (fun nv iv wr => ∃ n i : Nat, nv = .int .i64 n ∧ iv = .int .i64 i ∧ i ≤ ds.length ∧ Hid (n ≤ 4611686018427387904) ∧ Hid (numGo n (ds.drop i) = RES) ∧ wr = w3) (fun _ iv _ => ds.length - (intOf iv).toNat)
    case atStart => exact ⟨0, 0, rfl, rfl, Nat.zero_le _, Lib.hid (Nat.zero_le _), HRES, rfl⟩
    case round =>
      obtain ⟨n, i, rfl, rfl, hi, hn, hgo, rfl⟩ := hrel
      clear HRES
      by_cases hlt : i < ds.length
      · obtain ⟨d, hTi, hdr, hd9⟩ := digit_at hrange.out hlt
        have hii : (i : Int) < ((toB ds).size : Int) := by rw [toB_size]; omega
        have hgi := HG.out i (by rw [toB_size]; exact hlt)
        rw [hTi] at hgi
        have hgo1 := hgo.out
        rw [hdr, numGo, show 48 + d - 48 = d by omega] at hgo1
        have kwd : IntKind.i64.wrap (d : Int) = (d : Int) := by rw [IntKind.wrap_i64]; omega
        have kwB : IntKind.i64.wrap (4611686018427387904 - (d : Int)) = 4611686018427387904 - (d : Int) := by rw [IntKind.wrap_i64]; omega
        have kwi : IntKind.i64.wrap ((i : Int) + 1) = (i : Int) + 1 := by rw [IntKind.wrap_i64]; omega
        have kwii : IntKind.i64.wrap (i : Int) = (i : Int) := by rw [IntKind.wrap_i64]; omega
        have tlt : decide ((i : Int) < (ds.length : Int)) = true := decide_eq_true (by omega)
        have hnb := hn.out
        clear hTi hdr
        cases hbg : bigB n d
        · have hb2 := bigB_no hbg
          rw [hbg, if_neg (by decide)] at hgo1
          unfold bigB at hbg
          have hbg2 : (n : Int) ≤ (4611686018427387904 - (48 + (d : Int) - 48)) / 10 := by have := of_decide_eq_false hbg; omega
          have kw10 : IntKind.i64.wrap (10 * (n : Int)) = 10 * (n : Int) := by rw [IntKind.wrap_i64]; omega
          have kws : IntKind.i64.wrap (10 * (n : Int) + (d : Int)) = 10 * (n : Int) + (d : Int) := by rw [IntKind.wrap_i64]; omega
          have HB := Lib.hid hb2
          have HQ := Lib.hid hgo1
          have HLT := Lib.hid hlt
          clear hb2 hgo1 hgo hn hbg hnb
          go_wp2_with fail
          refine ⟨⟨10 * n + d, i + 1, by congr 1; push_cast; omega, by go_num, HLT.out, HB, HQ, trivial⟩, ?_⟩
          have := HLT.out
          simp [intOf]
          omega
        · rw [hbg, if_pos rfl] at hgo1
          unfold bigB at hbg
          have hbg2 : (4611686018427387904 - (48 + (d : Int) - 48)) / 10 < (n : Int) := by have := of_decide_eq_true hbg; omega
          have HQ := Lib.hid hgo1
          clear hgo1 hgo hn hbg hnb
          go_wp2_with fail
          rw [← HX.out, ← HQ.out]
          exact ⟨rfl, rfl, hg3⟩
      · have hie : i = ds.length := by omega
        have tlt : decide ((i : Int) < (ds.length : Int)) = false := decide_eq_false (by omega)
        have hgo1 := hgo.out
        rw [hie, List.drop_length, numGo] at hgo1
        have kwn : IntKind.i64.wrap (-(n : Int)) = -(n : Int) := by have := hn.out; rw [IntKind.wrap_i64]; omega
        have HQ := Lib.hid hgo1
        clear hgo1 hgo hn hie
        go_wp2_with fail
        go_ret
        rw [← HX.out, ← HQ.out]
        exact ⟨rfl, hR3, hg3⟩

set_option maxHeartbeats 8000000 in
set_option maxRecDepth 100000 in
theorem number_plus (r : Nat) (s : ByteArray) (a : Nat) (w : World) (h : RdT w r s a) (hm : s.size ≤ 60000) (hl : a < s.size) (h45 : ¬ (sb s).getD a 0 = 45) :
    Calls Tryd.prog 31 #[.pointer (some ⟨r, 0, none⟩)] w (RdPost w r s (fun y : Int × Nat => i64 y.1) (·.2) (numD false (sb s) (a))) := by
  have hm1 : s.size ≤ 100000 := by omega
  have c0 : w.cell? ⟨r, 0, none⟩ = some (.string s) := cell_blk h 0
  have c1 : w.cell? ⟨r, 1, none⟩ = some (i64 a) := cell_blk h 1
  have hr := (Array.getElem?_eq_some_iff.1 h).1
  have k0 := fun p : OnOf w => on_cell hr c0 p
  have k1 := fun p : OnOf w => on_cell hr c1 p
  have kwa : IntKind.i64.wrap (a : Int) = (a : Int) := by rw [IntKind.wrap_i64]; omega
  have hai : (a : Int) < (s.size : Int) := by omega
  have t1 : decide ((a : Int) < (s.size : Int)) = true := decide_eq_true hai
  have hsb0 : s[a].toNat = (sb s).getD a 0 := sb_get hl
  obtain ⟨y, hy⟩ : ∃ y, (sb s).getD a 0 = y := ⟨_, rfl⟩
  rw [hy] at h45 hsb0
  have t45 : ((y : Int) == 45) = false := by rw [beq_eq_false_iff_ne]; omega
  clear h45 hy c0 c1
  have HRun0 := fun W h' => run_any r s (a) 48 57 W h' (by omega) hm1
  have hrange0 := runL_mem 48 57 (sb s) (a)
  have hlen0 := runL_len 48 57 (sb s) (a)
  have hrn := runN_le 48 57 ((sb s).drop (a))
  rw [List.length_drop, sb_len] at hrn
  unfold numD
  obtain ⟨ds, hds⟩ : ∃ ds, runL 48 57 (sb s) (a) = ds := ⟨_, rfl⟩
  obtain ⟨E, hE0⟩ : ∃ E, (a) + runN 48 57 ((sb s).drop (a)) = E := ⟨_, rfl⟩
  have hE : E ≤ s.size := by omega
  have hdl : ds.length ≤ 60000 := by rw [← hds, hlen0]; omega
  rw [hds] at HRun0 hrange0
  rw [hE0] at HRun0
  rw [hds, hE0]
  have HRun := fun W h' => Lib.hid (HRun0 W h')
  have hrange := Lib.hid hrange0
  have hget := fun i h' => toB_get (l := ds) (fun x hx => by have := (hrange0 x hx).2; omega) (i := i) h'
  have hds2 : ds = [] ∨ ∃ x, ds.getD 0 0 = x ∧ ds ≠ [] := by
    cases hq : ds with
    | nil => exact .inl rfl
    | cons x r => exact .inr ⟨_, rfl, by simp⟩
  obtain ⟨RES, hRES⟩ : ∃ RES, numGo 0 ds = RES := ⟨_, rfl⟩
  rw [hRES]
  have HRESX : Hid (numGo 0 (ds.drop 0) = RES) := Lib.hid hRES
  clear HRun0 hrange0 hlen0 hrn hds hE0 hRES
  rcases hds2 with hds2 | ⟨x, hx0, hne⟩
  · rw [if_pos hds2]
    by_cases hel : E < (sb s).length
    · rw [if_pos hel]
      have G := fun W h' => Lib.hid (next_any r s E W h' hE hm1)
      rw [show tNext (sb s) E = .ok ((sb s).getD E 0, E + 1) from by unfold tNext; rw [if_pos hel]] at G
      simp only [hds2] at HRun
      have hte0 : (toB []).toList.isEmpty = true := by rw [ByteArray.toList_eq]; rfl
      clear hds2 hel hrange hget HRESX
      go_enter Tryd.func31, Tryd.ntmps31
      go_wp2_with fail
      refine wp_region_quiet_on (by kernel_rfl) (by kernel_rfl) ?_
      repeat ((with_reducible refine wpQuiet_step (fun K hK => ?_)); go_simp; first | ((with_reducible refine hK _ ?_); clear hK K) | (rw [if_neg (by intro h; cases h)]; (with_reducible refine hK _ ?_); clear hK K) | (apply Exists.intro; refine ⟨fun _ => ?_, hK _ ?_⟩; (fail); clear hK K))
      with_reducible refine wpQuiet_nil ?_
      intro _ hw'
      obtain ⟨pq, hw''⟩ := hw'
      subst hw''
      have h3 := blk_below h pq.h
      have hg3 := grown_of_below (some r) pq.h
      clear k0 k1
      go_wp2_with fail
      refine (HRun _ h3).out.mono ?_; rintro e3 w3 ⟨rfl, hR3, hg3'⟩
      have hg3 := grown_trans hg3 hg3'
      clear hg3'
      go_wp2_with fail
      refine (G _ hR3).out.mono ?_; rintro e4 w4 ⟨rfl, hR4, hg4⟩
      go_wp2_with fail
      exact ⟨rfl, rfl, grown_trans hg3 hg4⟩
    · rw [if_neg hel]
      have G := fun W h' => Lib.hid (next_any r s E W h' hE hm1)
      rw [show tNext (sb s) E = .error 3 from by unfold tNext; rw [if_neg hel]] at G
      simp only [hds2] at HRun
      have hte0 : (toB []).toList.isEmpty = true := by rw [ByteArray.toList_eq]; rfl
      clear hds2 hel hrange hget HRESX
      go_enter Tryd.func31, Tryd.ntmps31
      go_wp2_with fail
      refine wp_region_quiet_on (by kernel_rfl) (by kernel_rfl) ?_
      repeat ((with_reducible refine wpQuiet_step (fun K hK => ?_)); go_simp; first | ((with_reducible refine hK _ ?_); clear hK K) | (rw [if_neg (by intro h; cases h)]; (with_reducible refine hK _ ?_); clear hK K) | (apply Exists.intro; refine ⟨fun _ => ?_, hK _ ?_⟩; (fail); clear hK K))
      with_reducible refine wpQuiet_nil ?_
      intro _ hw'
      obtain ⟨pq, hw''⟩ := hw'
      subst hw''
      have h3 := blk_below h pq.h
      have hg3 := grown_of_below (some r) pq.h
      clear k0 k1
      go_wp2_with fail
      refine (HRun _ h3).out.mono ?_; rintro e3 w3 ⟨rfl, hR3, hg3'⟩
      have hg3 := grown_trans hg3 hg3'
      clear hg3'
      go_wp2_with fail
      refine (G _ hR3).out.mono ?_; rintro e4 w4 ⟨rfl, hg4⟩
      go_wp2_with fail
      exact ⟨rfl, rfl, grown_trans hg3 hg4⟩
  rw [if_neg hne]
  have hnz : 0 < ds.length := List.length_pos_iff.2 hne
  have hte : (toB ds).toList.isEmpty = false := by
    rw [ByteArray.toList_eq, List.isEmpty_eq_false_iff]
    intro e
    have e2 := congrArg List.length e
    rw [Array.length_toList] at e2
    have e3 : (toB ds).size = 0 := e2
    rw [toB_size] at e3
    omega
  have hT0 : (0 : Int) < ((toB ds).size : Int) := by rw [toB_size]; omega
  have hTs : ((toB ds).size : Int) = (ds.length : Int) := by rw [toB_size]
  have hg0 := hget 0 (by rw [toB_size]; exact hnz)
  rw [hx0] at hg0
  rw [hx0]
  clear hx0 hne
  by_cases h48 : x = 48
  · subst h48
    by_cases h1 : 1 < ds.length
    · rw [if_pos ⟨rfl, .inl h1⟩]
      have t51 : decide ((1 : Int) < (ds.length : Int)) = true := decide_eq_true (by omega)
      clear hrange hget HRESX
      go_enter Tryd.func31, Tryd.ntmps31
      go_wp2_with fail
      refine wp_region_quiet_on (by kernel_rfl) (by kernel_rfl) ?_
      repeat ((with_reducible refine wpQuiet_step (fun K hK => ?_)); go_simp; first | ((with_reducible refine hK _ ?_); clear hK K) | (rw [if_neg (by intro h; cases h)]; (with_reducible refine hK _ ?_); clear hK K) | (apply Exists.intro; refine ⟨fun _ => ?_, hK _ ?_⟩; (fail); clear hK K))
      with_reducible refine wpQuiet_nil ?_
      intro _ hw'
      obtain ⟨pq, hw''⟩ := hw'
      subst hw''
      have h3 := blk_below h pq.h
      have hg3 := grown_of_below (some r) pq.h
      clear k0 k1
      go_wp2_with fail
      refine (HRun _ h3).out.mono ?_; rintro e3 w3 ⟨rfl, hR3, hg3'⟩
      have hg3 := grown_trans hg3 hg3'
      clear hg3'
      go_wp2_with fail
      exact ⟨rfl, rfl, hg3⟩
    · rw [if_neg (by rintro ⟨_, h | h⟩; exact h1 h; cases h)]
      have t51 : decide ((1 : Int) < (ds.length : Int)) = false := decide_eq_false (by omega)
      have HRES := HRESX
      clear HRESX
      have HG := Lib.hid hget
      clear hget
      obtain ⟨X, hX⟩ : ∃ X, (match RES with | none => (Except.error 5 : Except Nat (Int × Nat)) | some n => .ok (if false = true then -(n : Int) else (n : Int), E)) = X := ⟨_, rfl⟩
      rw [hX]
      have HX := Lib.hid hX
      clear hX
      go_enter Tryd.func31, Tryd.ntmps31
      go_wp2_with fail
      refine wp_region_quiet_on (by kernel_rfl) (by kernel_rfl) ?_
      repeat ((with_reducible refine wpQuiet_step (fun K hK => ?_)); go_simp; first | ((with_reducible refine hK _ ?_); clear hK K) | (rw [if_neg (by intro h; cases h)]; (with_reducible refine hK _ ?_); clear hK K) | (apply Exists.intro; refine ⟨fun _ => ?_, hK _ ?_⟩; (fail); clear hK K))
      with_reducible refine wpQuiet_nil ?_
      intro _ hw'
      obtain ⟨pq, hw''⟩ := hw'
      subst hw''
      have h3 := blk_below h pq.h
      have hg3 := grown_of_below (some r) pq.h
      clear k0 k1
      go_wp2_with fail
      refine (HRun _ h3).out.mono ?_; rintro e3 w3 ⟨rfl, hR3, hg3'⟩
      have hg3 := grown_trans hg3 hg3'
      clear hg3'
      go_wp2_with fail
      go_loopw [5, 59] (fun nv iv wr => ∃ n i : Nat, nv = .int .i64 n ∧ iv = .int .i64 i ∧ i ≤ ds.length ∧ Hid (n ≤ 4611686018427387904) ∧ Hid (numGo n (ds.drop i) = RES) ∧ wr = w3) (fun _ iv _ => ds.length - (intOf iv).toNat)
      case atStart => exact ⟨0, 0, rfl, rfl, Nat.zero_le _, Lib.hid (Nat.zero_le _), HRES, rfl⟩
      case round =>
        obtain ⟨n, i, rfl, rfl, hi, hn, hgo, rfl⟩ := hrel
        clear HRES
        by_cases hlt : i < ds.length
        · obtain ⟨d, hTi, hdr, hd9⟩ := digit_at hrange.out hlt
          have hii : (i : Int) < ((toB ds).size : Int) := by rw [toB_size]; omega
          have hgi := HG.out i (by rw [toB_size]; exact hlt)
          rw [hTi] at hgi
          have hgo1 := hgo.out
          rw [hdr, numGo, show 48 + d - 48 = d by omega] at hgo1
          have kwd : IntKind.i64.wrap (d : Int) = (d : Int) := by rw [IntKind.wrap_i64]; omega
          have kwB : IntKind.i64.wrap (4611686018427387904 - (d : Int)) = 4611686018427387904 - (d : Int) := by rw [IntKind.wrap_i64]; omega
          have kwi : IntKind.i64.wrap ((i : Int) + 1) = (i : Int) + 1 := by rw [IntKind.wrap_i64]; omega
          have kwii : IntKind.i64.wrap (i : Int) = (i : Int) := by rw [IntKind.wrap_i64]; omega
          have tlt : decide ((i : Int) < (ds.length : Int)) = true := decide_eq_true (by omega)
          have hnb := hn.out
          clear hTi hdr
          cases hbg : bigB n d
          · have hb2 := bigB_no hbg
            rw [hbg, if_neg (by decide)] at hgo1
            unfold bigB at hbg
            have hbg2 : (n : Int) ≤ (4611686018427387904 - (48 + (d : Int) - 48)) / 10 := by have := of_decide_eq_false hbg; omega
            have kw10 : IntKind.i64.wrap (10 * (n : Int)) = 10 * (n : Int) := by rw [IntKind.wrap_i64]; omega
            have kws : IntKind.i64.wrap (10 * (n : Int) + (d : Int)) = 10 * (n : Int) + (d : Int) := by rw [IntKind.wrap_i64]; omega
            have HB := Lib.hid hb2
            have HQ := Lib.hid hgo1
            have HLT := Lib.hid hlt
            clear hb2 hgo1 hgo hn hbg hnb
            go_wp2_with fail
            refine ⟨⟨10 * n + d, i + 1, by congr 1; push_cast; omega, by go_num, HLT.out, HB, HQ, trivial⟩, ?_⟩
            have := HLT.out
            simp [intOf]
            omega
          · rw [hbg, if_pos rfl] at hgo1
            unfold bigB at hbg
            have hbg2 : (4611686018427387904 - (48 + (d : Int) - 48)) / 10 < (n : Int) := by have := of_decide_eq_true hbg; omega
            have HQ := Lib.hid hgo1
            clear hgo1 hgo hn hbg hnb
            go_wp2_with fail
            rw [← HX.out, ← HQ.out]
            exact ⟨rfl, rfl, hg3⟩
        · have hie : i = ds.length := by omega
          have tlt : decide ((i : Int) < (ds.length : Int)) = false := decide_eq_false (by omega)
          have hgo1 := hgo.out
          rw [hie, List.drop_length, numGo] at hgo1
          have kwn : IntKind.i64.wrap (-(n : Int)) = -(n : Int) := by have := hn.out; rw [IntKind.wrap_i64]; omega
          have HQ := Lib.hid hgo1
          clear hgo1 hgo hn hie
          go_wp2_with fail
          go_ret
          rw [← HX.out, ← HQ.out]
          exact ⟨rfl, hR3, hg3⟩
  · rw [if_neg (by rintro ⟨h, _⟩; exact h48 h)]
    have t48 : ((x : Int) == 48) = false := by rw [beq_eq_false_iff_ne]; omega
    have HRES := HRESX
    clear HRESX
    have HG := Lib.hid hget
    clear hget
    obtain ⟨X, hX⟩ : ∃ X, (match RES with | none => (Except.error 5 : Except Nat (Int × Nat)) | some n => .ok (if false = true then -(n : Int) else (n : Int), E)) = X := ⟨_, rfl⟩
    rw [hX]
    have HX := Lib.hid hX
    clear hX
    go_enter Tryd.func31, Tryd.ntmps31
    go_wp2_with fail
    refine wp_region_quiet_on (by kernel_rfl) (by kernel_rfl) ?_
    repeat ((with_reducible refine wpQuiet_step (fun K hK => ?_)); go_simp; first | ((with_reducible refine hK _ ?_); clear hK K) | (rw [if_neg (by intro h; cases h)]; (with_reducible refine hK _ ?_); clear hK K) | (apply Exists.intro; refine ⟨fun _ => ?_, hK _ ?_⟩; (fail); clear hK K))
    with_reducible refine wpQuiet_nil ?_
    intro _ hw'
    obtain ⟨pq, hw''⟩ := hw'
    subst hw''
    have h3 := blk_below h pq.h
    have hg3 := grown_of_below (some r) pq.h
    clear k0 k1
    go_wp2_with fail
    refine (HRun _ h3).out.mono ?_; rintro e3 w3 ⟨rfl, hR3, hg3'⟩
    have hg3 := grown_trans hg3 hg3'
    clear hg3'
    go_wp2_with fail
    go_loopw [5, 59] (fun nv iv wr => ∃ n i : Nat, nv = .int .i64 n ∧ iv = .int .i64 i ∧ i ≤ ds.length ∧ Hid (n ≤ 4611686018427387904) ∧ Hid (numGo n (ds.drop i) = RES) ∧ wr = w3) (fun _ iv _ => ds.length - (intOf iv).toNat)
    case atStart => exact ⟨0, 0, rfl, rfl, Nat.zero_le _, Lib.hid (Nat.zero_le _), HRES, rfl⟩
    case round =>
      obtain ⟨n, i, rfl, rfl, hi, hn, hgo, rfl⟩ := hrel
      clear HRES
      by_cases hlt : i < ds.length
      · obtain ⟨d, hTi, hdr, hd9⟩ := digit_at hrange.out hlt
        have hii : (i : Int) < ((toB ds).size : Int) := by rw [toB_size]; omega
        have hgi := HG.out i (by rw [toB_size]; exact hlt)
        rw [hTi] at hgi
        have hgo1 := hgo.out
        rw [hdr, numGo, show 48 + d - 48 = d by omega] at hgo1
        have kwd : IntKind.i64.wrap (d : Int) = (d : Int) := by rw [IntKind.wrap_i64]; omega
        have kwB : IntKind.i64.wrap (4611686018427387904 - (d : Int)) = 4611686018427387904 - (d : Int) := by rw [IntKind.wrap_i64]; omega
        have kwi : IntKind.i64.wrap ((i : Int) + 1) = (i : Int) + 1 := by rw [IntKind.wrap_i64]; omega
        have kwii : IntKind.i64.wrap (i : Int) = (i : Int) := by rw [IntKind.wrap_i64]; omega
        have tlt : decide ((i : Int) < (ds.length : Int)) = true := decide_eq_true (by omega)
        have hnb := hn.out
        clear hTi hdr
        cases hbg : bigB n d
        · have hb2 := bigB_no hbg
          rw [hbg, if_neg (by decide)] at hgo1
          unfold bigB at hbg
          have hbg2 : (n : Int) ≤ (4611686018427387904 - (48 + (d : Int) - 48)) / 10 := by have := of_decide_eq_false hbg; omega
          have kw10 : IntKind.i64.wrap (10 * (n : Int)) = 10 * (n : Int) := by rw [IntKind.wrap_i64]; omega
          have kws : IntKind.i64.wrap (10 * (n : Int) + (d : Int)) = 10 * (n : Int) + (d : Int) := by rw [IntKind.wrap_i64]; omega
          have HB := Lib.hid hb2
          have HQ := Lib.hid hgo1
          have HLT := Lib.hid hlt
          clear hb2 hgo1 hgo hn hbg hnb
          go_wp2_with fail
          refine ⟨⟨10 * n + d, i + 1, by congr 1; push_cast; omega, by go_num, HLT.out, HB, HQ, trivial⟩, ?_⟩
          have := HLT.out
          simp [intOf]
          omega
        · rw [hbg, if_pos rfl] at hgo1
          unfold bigB at hbg
          have hbg2 : (4611686018427387904 - (48 + (d : Int) - 48)) / 10 < (n : Int) := by have := of_decide_eq_true hbg; omega
          have HQ := Lib.hid hgo1
          clear hgo1 hgo hn hbg hnb
          go_wp2_with fail
          rw [← HX.out, ← HQ.out]
          exact ⟨rfl, rfl, hg3⟩
      · have hie : i = ds.length := by omega
        have tlt : decide ((i : Int) < (ds.length : Int)) = false := decide_eq_false (by omega)
        have hgo1 := hgo.out
        rw [hie, List.drop_length, numGo] at hgo1
        have kwn : IntKind.i64.wrap (-(n : Int)) = -(n : Int) := by have := hn.out; rw [IntKind.wrap_i64]; omega
        have HQ := Lib.hid hgo1
        clear hgo1 hgo hn hie
        go_wp2_with fail
        go_ret
        rw [← HX.out, ← HQ.out]
        exact ⟨rfl, hR3, hg3⟩

set_option maxHeartbeats 8000000 in
set_option maxRecDepth 100000 in
theorem number_end (r : Nat) (s : ByteArray) (a : Nat) (w : World) (h : RdT w r s a) (hm : s.size ≤ 60000) (hl : a = s.size) :
    Calls Tryd.prog 31 #[.pointer (some ⟨r, 0, none⟩)] w (RdPost w r s (fun y : Int × Nat => i64 y.1) (·.2) (numD false (sb s) (a))) := by
  have hm1 : s.size ≤ 100000 := by omega
  have c0 : w.cell? ⟨r, 0, none⟩ = some (.string s) := cell_blk h 0
  have c1 : w.cell? ⟨r, 1, none⟩ = some (i64 a) := cell_blk h 1
  have hr := (Array.getElem?_eq_some_iff.1 h).1
  have k0 := fun p : OnOf w => on_cell hr c0 p
  have k1 := fun p : OnOf w => on_cell hr c1 p
  have kwa : IntKind.i64.wrap (a : Int) = (a : Int) := by rw [IntKind.wrap_i64]; omega
  have t1 : decide ((a : Int) < (s.size : Int)) = false := decide_eq_false (by omega)
  have hae : a ≤ s.size := by omega
  have hnl : ¬ a < s.size := by omega
  clear hl c0 c1
  have HRun0 := fun W h' => run_any r s (a) 48 57 W h' (by omega) hm1
  have hrange0 := runL_mem 48 57 (sb s) (a)
  have hlen0 := runL_len 48 57 (sb s) (a)
  have hrn := runN_le 48 57 ((sb s).drop (a))
  rw [List.length_drop, sb_len] at hrn
  unfold numD
  obtain ⟨ds, hds⟩ : ∃ ds, runL 48 57 (sb s) (a) = ds := ⟨_, rfl⟩
  obtain ⟨E, hE0⟩ : ∃ E, (a) + runN 48 57 ((sb s).drop (a)) = E := ⟨_, rfl⟩
  have hE : E ≤ s.size := by omega
  have hdl : ds.length ≤ 60000 := by rw [← hds, hlen0]; omega
  rw [hds] at HRun0 hrange0
  rw [hE0] at HRun0
  rw [hds, hE0]
  have HRun := fun W h' => Lib.hid (HRun0 W h')
  have hrange := Lib.hid hrange0
  have hget := fun i h' => toB_get (l := ds) (fun x hx => by have := (hrange0 x hx).2; omega) (i := i) h'
  have hds2 : ds = [] ∨ ∃ x, ds.getD 0 0 = x ∧ ds ≠ [] := by
    cases hq : ds with
    | nil => exact .inl rfl
    | cons x r => exact .inr ⟨_, rfl, by simp⟩
  obtain ⟨RES, hRES⟩ : ∃ RES, numGo 0 ds = RES := ⟨_, rfl⟩
  rw [hRES]
  have HRESX : Hid (numGo 0 (ds.drop 0) = RES) := Lib.hid hRES
  clear HRun0 hrange0 hlen0 hrn hds hE0 hRES
  rcases hds2 with hds2 | ⟨x, hx0, hne⟩
  · rw [if_pos hds2]
    by_cases hel : E < (sb s).length
    · rw [if_pos hel]
      have G := fun W h' => Lib.hid (next_any r s E W h' hE hm1)
      rw [show tNext (sb s) E = .ok ((sb s).getD E 0, E + 1) from by unfold tNext; rw [if_pos hel]] at G
      simp only [hds2] at HRun
      have hte0 : (toB []).toList.isEmpty = true := by rw [ByteArray.toList_eq]; rfl
      clear hds2 hel hrange hget HRESX
      go_enter Tryd.func31, Tryd.ntmps31
      go_wp2_with fail
      refine wp_region_quiet_on (by kernel_rfl) (by kernel_rfl) ?_
      repeat ((with_reducible refine wpQuiet_step (fun K hK => ?_)); go_simp; first | ((with_reducible refine hK _ ?_); clear hK K) | (rw [if_neg (by intro h; cases h)]; (with_reducible refine hK _ ?_); clear hK K) | (apply Exists.intro; refine ⟨fun _ => ?_, hK _ ?_⟩; (fail); clear hK K))
      with_reducible refine wpQuiet_nil ?_
      intro _ hw'
      obtain ⟨pq, hw''⟩ := hw'
      subst hw''
      have h3 := blk_below h pq.h
      have hg3 := grown_of_below (some r) pq.h
      clear k0 k1
      go_wp2_with fail
      refine (HRun _ h3).out.mono ?_; rintro e3 w3 ⟨rfl, hR3, hg3'⟩
      have hg3 := grown_trans hg3 hg3'
      clear hg3'
      go_wp2_with fail
      refine (G _ hR3).out.mono ?_; rintro e4 w4 ⟨rfl, hR4, hg4⟩
      go_wp2_with fail
      exact ⟨rfl, rfl, grown_trans hg3 hg4⟩
    · rw [if_neg hel]
      have G := fun W h' => Lib.hid (next_any r s E W h' hE hm1)
      rw [show tNext (sb s) E = .error 3 from by unfold tNext; rw [if_neg hel]] at G
      simp only [hds2] at HRun
      have hte0 : (toB []).toList.isEmpty = true := by rw [ByteArray.toList_eq]; rfl
      clear hds2 hel hrange hget HRESX
      go_enter Tryd.func31, Tryd.ntmps31
      go_wp2_with fail
      refine wp_region_quiet_on (by kernel_rfl) (by kernel_rfl) ?_
      repeat ((with_reducible refine wpQuiet_step (fun K hK => ?_)); go_simp; first | ((with_reducible refine hK _ ?_); clear hK K) | (rw [if_neg (by intro h; cases h)]; (with_reducible refine hK _ ?_); clear hK K) | (apply Exists.intro; refine ⟨fun _ => ?_, hK _ ?_⟩; (fail); clear hK K))
      with_reducible refine wpQuiet_nil ?_
      intro _ hw'
      obtain ⟨pq, hw''⟩ := hw'
      subst hw''
      have h3 := blk_below h pq.h
      have hg3 := grown_of_below (some r) pq.h
      clear k0 k1
      go_wp2_with fail
      refine (HRun _ h3).out.mono ?_; rintro e3 w3 ⟨rfl, hR3, hg3'⟩
      have hg3 := grown_trans hg3 hg3'
      clear hg3'
      go_wp2_with fail
      refine (G _ hR3).out.mono ?_; rintro e4 w4 ⟨rfl, hg4⟩
      go_wp2_with fail
      exact ⟨rfl, rfl, grown_trans hg3 hg4⟩
  rw [if_neg hne]
  have hnz : 0 < ds.length := List.length_pos_iff.2 hne
  have hte : (toB ds).toList.isEmpty = false := by
    rw [ByteArray.toList_eq, List.isEmpty_eq_false_iff]
    intro e
    have e2 := congrArg List.length e
    rw [Array.length_toList] at e2
    have e3 : (toB ds).size = 0 := e2
    rw [toB_size] at e3
    omega
  have hT0 : (0 : Int) < ((toB ds).size : Int) := by rw [toB_size]; omega
  have hTs : ((toB ds).size : Int) = (ds.length : Int) := by rw [toB_size]
  have hg0 := hget 0 (by rw [toB_size]; exact hnz)
  rw [hx0] at hg0
  rw [hx0]
  clear hx0 hne
  by_cases h48 : x = 48
  · subst h48
    by_cases h1 : 1 < ds.length
    · rw [if_pos ⟨rfl, .inl h1⟩]
      have t51 : decide ((1 : Int) < (ds.length : Int)) = true := decide_eq_true (by omega)
      clear hrange hget HRESX
      go_enter Tryd.func31, Tryd.ntmps31
      go_wp2_with fail
      refine wp_region_quiet_on (by kernel_rfl) (by kernel_rfl) ?_
      repeat ((with_reducible refine wpQuiet_step (fun K hK => ?_)); go_simp; first | ((with_reducible refine hK _ ?_); clear hK K) | (rw [if_neg (by intro h; cases h)]; (with_reducible refine hK _ ?_); clear hK K) | (apply Exists.intro; refine ⟨fun _ => ?_, hK _ ?_⟩; (fail); clear hK K))
      with_reducible refine wpQuiet_nil ?_
      intro _ hw'
      obtain ⟨pq, hw''⟩ := hw'
      subst hw''
      have h3 := blk_below h pq.h
      have hg3 := grown_of_below (some r) pq.h
      clear k0 k1
      go_wp2_with fail
      refine (HRun _ h3).out.mono ?_; rintro e3 w3 ⟨rfl, hR3, hg3'⟩
      have hg3 := grown_trans hg3 hg3'
      clear hg3'
      go_wp2_with fail
      exact ⟨rfl, rfl, hg3⟩
    · rw [if_neg (by rintro ⟨_, h | h⟩; exact h1 h; cases h)]
      have t51 : decide ((1 : Int) < (ds.length : Int)) = false := decide_eq_false (by omega)
      have HRES := HRESX
      clear HRESX
      have HG := Lib.hid hget
      clear hget
      obtain ⟨X, hX⟩ : ∃ X, (match RES with | none => (Except.error 5 : Except Nat (Int × Nat)) | some n => .ok (if false = true then -(n : Int) else (n : Int), E)) = X := ⟨_, rfl⟩
      rw [hX]
      have HX := Lib.hid hX
      clear hX
      go_enter Tryd.func31, Tryd.ntmps31
      go_wp2_with fail
      refine wp_region_quiet_on (by kernel_rfl) (by kernel_rfl) ?_
      repeat ((with_reducible refine wpQuiet_step (fun K hK => ?_)); go_simp; first | ((with_reducible refine hK _ ?_); clear hK K) | (rw [if_neg (by intro h; cases h)]; (with_reducible refine hK _ ?_); clear hK K) | (apply Exists.intro; refine ⟨fun _ => ?_, hK _ ?_⟩; (fail); clear hK K))
      with_reducible refine wpQuiet_nil ?_
      intro _ hw'
      obtain ⟨pq, hw''⟩ := hw'
      subst hw''
      have h3 := blk_below h pq.h
      have hg3 := grown_of_below (some r) pq.h
      clear k0 k1
      go_wp2_with fail
      refine (HRun _ h3).out.mono ?_; rintro e3 w3 ⟨rfl, hR3, hg3'⟩
      have hg3 := grown_trans hg3 hg3'
      clear hg3'
      go_wp2_with fail
      go_loopw [5, 59] (fun nv iv wr => ∃ n i : Nat, nv = .int .i64 n ∧ iv = .int .i64 i ∧ i ≤ ds.length ∧ Hid (n ≤ 4611686018427387904) ∧ Hid (numGo n (ds.drop i) = RES) ∧ wr = w3) (fun _ iv _ => ds.length - (intOf iv).toNat)
      case atStart => exact ⟨0, 0, rfl, rfl, Nat.zero_le _, Lib.hid (Nat.zero_le _), HRES, rfl⟩
      case round =>
        obtain ⟨n, i, rfl, rfl, hi, hn, hgo, rfl⟩ := hrel
        clear HRES
        by_cases hlt : i < ds.length
        · obtain ⟨d, hTi, hdr, hd9⟩ := digit_at hrange.out hlt
          have hii : (i : Int) < ((toB ds).size : Int) := by rw [toB_size]; omega
          have hgi := HG.out i (by rw [toB_size]; exact hlt)
          rw [hTi] at hgi
          have hgo1 := hgo.out
          rw [hdr, numGo, show 48 + d - 48 = d by omega] at hgo1
          have kwd : IntKind.i64.wrap (d : Int) = (d : Int) := by rw [IntKind.wrap_i64]; omega
          have kwB : IntKind.i64.wrap (4611686018427387904 - (d : Int)) = 4611686018427387904 - (d : Int) := by rw [IntKind.wrap_i64]; omega
          have kwi : IntKind.i64.wrap ((i : Int) + 1) = (i : Int) + 1 := by rw [IntKind.wrap_i64]; omega
          have kwii : IntKind.i64.wrap (i : Int) = (i : Int) := by rw [IntKind.wrap_i64]; omega
          have tlt : decide ((i : Int) < (ds.length : Int)) = true := decide_eq_true (by omega)
          have hnb := hn.out
          clear hTi hdr
          cases hbg : bigB n d
          · have hb2 := bigB_no hbg
            rw [hbg, if_neg (by decide)] at hgo1
            unfold bigB at hbg
            have hbg2 : (n : Int) ≤ (4611686018427387904 - (48 + (d : Int) - 48)) / 10 := by have := of_decide_eq_false hbg; omega
            have kw10 : IntKind.i64.wrap (10 * (n : Int)) = 10 * (n : Int) := by rw [IntKind.wrap_i64]; omega
            have kws : IntKind.i64.wrap (10 * (n : Int) + (d : Int)) = 10 * (n : Int) + (d : Int) := by rw [IntKind.wrap_i64]; omega
            have HB := Lib.hid hb2
            have HQ := Lib.hid hgo1
            have HLT := Lib.hid hlt
            clear hb2 hgo1 hgo hn hbg hnb
            go_wp2_with fail
            refine ⟨⟨10 * n + d, i + 1, by congr 1; push_cast; omega, by go_num, HLT.out, HB, HQ, trivial⟩, ?_⟩
            have := HLT.out
            simp [intOf]
            omega
          · rw [hbg, if_pos rfl] at hgo1
            unfold bigB at hbg
            have hbg2 : (4611686018427387904 - (48 + (d : Int) - 48)) / 10 < (n : Int) := by have := of_decide_eq_true hbg; omega
            have HQ := Lib.hid hgo1
            clear hgo1 hgo hn hbg hnb
            go_wp2_with fail
            rw [← HX.out, ← HQ.out]
            exact ⟨rfl, rfl, hg3⟩
        · have hie : i = ds.length := by omega
          have tlt : decide ((i : Int) < (ds.length : Int)) = false := decide_eq_false (by omega)
          have hgo1 := hgo.out
          rw [hie, List.drop_length, numGo] at hgo1
          have kwn : IntKind.i64.wrap (-(n : Int)) = -(n : Int) := by have := hn.out; rw [IntKind.wrap_i64]; omega
          have HQ := Lib.hid hgo1
          clear hgo1 hgo hn hie
          go_wp2_with fail
          go_ret
          rw [← HX.out, ← HQ.out]
          exact ⟨rfl, hR3, hg3⟩
  · rw [if_neg (by rintro ⟨h, _⟩; exact h48 h)]
    have t48 : ((x : Int) == 48) = false := by rw [beq_eq_false_iff_ne]; omega
    have HRES := HRESX
    clear HRESX
    have HG := Lib.hid hget
    clear hget
    obtain ⟨X, hX⟩ : ∃ X, (match RES with | none => (Except.error 5 : Except Nat (Int × Nat)) | some n => .ok (if false = true then -(n : Int) else (n : Int), E)) = X := ⟨_, rfl⟩
    rw [hX]
    have HX := Lib.hid hX
    clear hX
    go_enter Tryd.func31, Tryd.ntmps31
    go_wp2_with fail
    refine wp_region_quiet_on (by kernel_rfl) (by kernel_rfl) ?_
    repeat ((with_reducible refine wpQuiet_step (fun K hK => ?_)); go_simp; first | ((with_reducible refine hK _ ?_); clear hK K) | (rw [if_neg (by intro h; cases h)]; (with_reducible refine hK _ ?_); clear hK K) | (apply Exists.intro; refine ⟨fun _ => ?_, hK _ ?_⟩; (fail); clear hK K))
    with_reducible refine wpQuiet_nil ?_
    intro _ hw'
    obtain ⟨pq, hw''⟩ := hw'
    subst hw''
    have h3 := blk_below h pq.h
    have hg3 := grown_of_below (some r) pq.h
    clear k0 k1
    go_wp2_with fail
    refine (HRun _ h3).out.mono ?_; rintro e3 w3 ⟨rfl, hR3, hg3'⟩
    have hg3 := grown_trans hg3 hg3'
    clear hg3'
    go_wp2_with fail
    go_loopw [5, 59] (fun nv iv wr => ∃ n i : Nat, nv = .int .i64 n ∧ iv = .int .i64 i ∧ i ≤ ds.length ∧ Hid (n ≤ 4611686018427387904) ∧ Hid (numGo n (ds.drop i) = RES) ∧ wr = w3) (fun _ iv _ => ds.length - (intOf iv).toNat)
    case atStart => exact ⟨0, 0, rfl, rfl, Nat.zero_le _, Lib.hid (Nat.zero_le _), HRES, rfl⟩
    case round =>
      obtain ⟨n, i, rfl, rfl, hi, hn, hgo, rfl⟩ := hrel
      clear HRES
      by_cases hlt : i < ds.length
      · obtain ⟨d, hTi, hdr, hd9⟩ := digit_at hrange.out hlt
        have hii : (i : Int) < ((toB ds).size : Int) := by rw [toB_size]; omega
        have hgi := HG.out i (by rw [toB_size]; exact hlt)
        rw [hTi] at hgi
        have hgo1 := hgo.out
        rw [hdr, numGo, show 48 + d - 48 = d by omega] at hgo1
        have kwd : IntKind.i64.wrap (d : Int) = (d : Int) := by rw [IntKind.wrap_i64]; omega
        have kwB : IntKind.i64.wrap (4611686018427387904 - (d : Int)) = 4611686018427387904 - (d : Int) := by rw [IntKind.wrap_i64]; omega
        have kwi : IntKind.i64.wrap ((i : Int) + 1) = (i : Int) + 1 := by rw [IntKind.wrap_i64]; omega
        have kwii : IntKind.i64.wrap (i : Int) = (i : Int) := by rw [IntKind.wrap_i64]; omega
        have tlt : decide ((i : Int) < (ds.length : Int)) = true := decide_eq_true (by omega)
        have hnb := hn.out
        clear hTi hdr
        cases hbg : bigB n d
        · have hb2 := bigB_no hbg
          rw [hbg, if_neg (by decide)] at hgo1
          unfold bigB at hbg
          have hbg2 : (n : Int) ≤ (4611686018427387904 - (48 + (d : Int) - 48)) / 10 := by have := of_decide_eq_false hbg; omega
          have kw10 : IntKind.i64.wrap (10 * (n : Int)) = 10 * (n : Int) := by rw [IntKind.wrap_i64]; omega
          have kws : IntKind.i64.wrap (10 * (n : Int) + (d : Int)) = 10 * (n : Int) + (d : Int) := by rw [IntKind.wrap_i64]; omega
          have HB := Lib.hid hb2
          have HQ := Lib.hid hgo1
          have HLT := Lib.hid hlt
          clear hb2 hgo1 hgo hn hbg hnb
          go_wp2_with fail
          refine ⟨⟨10 * n + d, i + 1, by congr 1; push_cast; omega, by go_num, HLT.out, HB, HQ, trivial⟩, ?_⟩
          have := HLT.out
          simp [intOf]
          omega
        · rw [hbg, if_pos rfl] at hgo1
          unfold bigB at hbg
          have hbg2 : (4611686018427387904 - (48 + (d : Int) - 48)) / 10 < (n : Int) := by have := of_decide_eq_true hbg; omega
          have HQ := Lib.hid hgo1
          clear hgo1 hgo hn hbg hnb
          go_wp2_with fail
          rw [← HX.out, ← HQ.out]
          exact ⟨rfl, rfl, hg3⟩
      · have hie : i = ds.length := by omega
        have tlt : decide ((i : Int) < (ds.length : Int)) = false := decide_eq_false (by omega)
        have hgo1 := hgo.out
        rw [hie, List.drop_length, numGo] at hgo1
        have kwn : IntKind.i64.wrap (-(n : Int)) = -(n : Int) := by have := hn.out; rw [IntKind.wrap_i64]; omega
        have HQ := Lib.hid hgo1
        clear hgo1 hgo hn hie
        go_wp2_with fail
        go_ret
        rw [← HX.out, ← HQ.out]
        exact ⟨rfl, hR3, hg3⟩

theorem number_any (r : Nat) (s : ByteArray) (a : Nat) (w : World) (h : RdT w r s a) (ha : a ≤ s.size) (hm : s.size ≤ 60000) :
    Calls Tryd.prog 31 #[.pointer (some ⟨r, 0, none⟩)] w (RdPost w r s (fun y : Int × Nat => i64 y.1) (·.2) (tNumber (sb s) a)) := by
  unfold tNumber minusB
  rw [sb_len]
  by_cases hl : a < s.size
  · by_cases h45 : (sb s).getD a 0 = 45
    · rw [decide_eq_true hl, decide_eq_true h45, if_pos (by decide)]
      exact number_minus r s a w h hm hl h45
    · rw [decide_eq_true hl, decide_eq_false h45, if_neg (by decide)]
      exact number_plus r s a w h hm hl h45
  · rw [decide_eq_false hl, if_neg (by simp)]
    exact number_end r s a w h hm (by omega)
end Go.Proofs.YtbjjpplhnibjdaaDoor
