/- Package text: what a line's reader does, in plain words; its smallest functions. -/
import Derived.Test.YtbjjpplhnibjdaaDoorPackR
import Derived.Test.YtbjjpplhnibjdaaDoorPh2
import Derived.Test.YtbjjpplhnibjdaaDoorSets
namespace Go.Proofs.YtbjjpplhnibjdaaDoor
open Go Go.RowKit

/-- The next byte. -/
def tNext (l : List Nat) (a : Nat) : Except Nat (Nat × Nat) := if a < l.length then .ok (l.getD a 0, a + 1) else .error 3
def tNeed (l : List Nat) (a c : Nat) : Except Nat Nat := if a < l.length then (if l.getD a 0 = c then .ok (a + 1) else .error 2) else .error 3
/-- The value of a digit of sixteen. -/
def hexV (c : Nat) : Option Nat := if 48 ≤ c ∧ c ≤ 57 then some (c - 48) else if 65 ≤ c ∧ c ≤ 70 then some (c - 55) else none
def tDigit (l : List Nat) (a : Nat) : Except Nat (Nat × Nat) := if a < l.length then (match hexV (l.getD a 0) with | some d => .ok (d, a + 1) | none => .error 2) else .error 3
def plainB (c : Nat) : Bool := decide (32 ≤ c) && decide (c ≤ 126) && !decide (c = 34) && !decide (c = 37)
/-- How many bytes from a place on are from one to another one. -/
def runN (f t : Nat) : List Nat → Nat
  | [] => 0
  | c :: r => if f ≤ c ∧ c ≤ t then runN f t r + 1 else 0
theorem runN_le (f t : Nat) : ∀ l : List Nat, runN f t l ≤ l.length
  | [] => Nat.le_refl _
  | c :: r => by
    unfold runN
    split
    · have := runN_le f t r; simp; omega
    · exact Nat.zero_le _

/-- A line's reader in memory: it stands at a. -/
abbrev RdT (w : World) (r : Nat) (s : ByteArray) (a : Nat) : Prop := w.heap[r]? = some (.cells #[.string s, i64 a] 48 (0, 0))
/-- What is thrown. -/
abbrev thrown (k : Nat) : List PanicEntry := [{ v := .iface 44 (i64 k), recovered := false }]
/-- A call of the reader's: a value and a new place; or an error that is thrown. -/
def RdPost {α : Type} (w : World) (r : Nat) (s : ByteArray) (v : α → Value) (p : α → Nat) (x : Except Nat α) (e : Ending) (w' : World) : Prop :=
  match x with
  | .ok y => e = .returned (v y) ∧ RdT w' r s (p y) ∧ w.grownBy w' (some r)
  | .error k => e = .panicked (thrown k) ∧ w.grownBy w' (some r)

theorem sb_get {s : ByteArray} {a : Nat} (h : a < s.size) : (s.data[a]'h).toNat = (sb s).getD a 0 := by
  unfold sb
  rw [List.getD_eq_getElem?_getD, List.getElem?_map]
  have : s.data.toList[a]? = some s.data[a] := by rw [Array.getElem?_toList]; exact Array.getElem?_eq_getElem h
  rw [this]; rfl

set_option maxHeartbeats 2000000 in
set_option maxRecDepth 100000 in
theorem next_any (r : Nat) (s : ByteArray) (a : Nat) (w : World) (h : RdT w r s a) (ha : a ≤ s.size) (hm : s.size ≤ 100000) :
    Calls Tryd.prog 39 #[.pointer (some ⟨r, 0, none⟩)] w (RdPost w r s (fun y : Nat × Nat => bv y.1) (·.2) (tNext (sb s) a)) := by
  have c0 : w.cell? ⟨r, 0, none⟩ = some (.string s) := cell_blk h 0
  have c1 : w.cell? ⟨r, 1, none⟩ = some (i64 a) := cell_blk h 1
  have fr := fun o => frozen_blk h o
  have hr := (Array.getElem?_eq_some_iff.1 h).1
  have k0 := fun p : OnOf w => on_cell hr c0 p
  have k1 := fun p : OnOf w => on_cell hr c1 p
  by_cases hl : a < s.size
  · have hv : tNext (sb s) a = .ok ((sb s).getD a 0, a + 1) := by unfold tNext; rw [if_pos (by rw [sb_len]; exact hl)]
    rw [hv]
    have t1 : ((a : Int) == (s.size : Int)) = false := by rw [beq_eq_false_iff_ne]; omega
    clear hv
    go_enter Tryd.func39, Tryd.ntmps39
    go_wp2_with fail
    refine wp_region_quiet_on (by kernel_rfl) (by kernel_rfl) ?_
    repeat ((with_reducible refine wpQuiet_step (fun K hK => ?_)); go_simp; first | ((with_reducible refine hK _ ?_); clear hK K) | (rw [if_neg (by intro h; cases h)]; (with_reducible refine hK _ ?_); clear hK K) | (apply Exists.intro; refine ⟨fun _ => ?_, hK _ ?_⟩; (fail); clear hK K))
    with_reducible refine wpQuiet_nil ?_
    intro _ hw'
    obtain ⟨pq, hw''⟩ := hw'
    subst hw''
    have h2 := blk_below h pq.h
    have hb2 := pq.h
    generalize pq.v = w2 at *
    have d0 := cell_blk h2 0
    have d1 := cell_blk h2 1
    have fd := fun o => frozen_blk h2 o
    have kw : IntKind.i64.wrap ((a : Int) + 1) = (a : Int) + 1 := by rw [IntKind.wrap_i64]; omega
    have kw2 : IntKind.i64.wrap (a : Int) = (a : Int) := by rw [IntKind.wrap_i64]; omega
    have hg := sb_get hl
    have hai : (a : Int) < (s.size : Int) := by omega
    clear k0 k1 c0 c1 fr
    go_wp2_with fail
    have h3 := heap_setCell h2 1 (.int .i64 ((a : Int) + 1))
    have hg3 : w.grownBy (w2.setCell ⟨r, 1, none⟩ (.int .i64 ((a : Int) + 1))) (some r) := grown_setCell (grown_of_below _ hb2) _ _
    generalize w2.setCell ⟨r, 1, none⟩ (.int .i64 ((a : Int) + 1)) = w3 at *
    have hr3 := (Array.getElem?_eq_some_iff.1 h3).1
    have e0 : w3.cell? ⟨r, 0, none⟩ = some (.string s) := cell_blk h3 0
    have e1 : w3.cell? ⟨r, 1, none⟩ = some (.int .i64 ((a : Int) + 1)) := cell_blk h3 1
    have k0 := fun p : OnOf w3 => on_cell hr3 e0 p
    have k1 := fun p : OnOf w3 => on_cell hr3 e1 p
    clear h2 hb2 d0 d1 fd e0 e1
    refine wp_region_quiet_on (by kernel_rfl) (by kernel_rfl) ?_
    repeat ((with_reducible refine wpQuiet_step (fun K hK => ?_)); go_simp; first | ((with_reducible refine hK _ ?_); clear hK K) | (rw [if_neg (by intro h; cases h)]; (with_reducible refine hK _ ?_); clear hK K) | (apply Exists.intro; refine ⟨fun _ => ?_, hK _ ?_⟩; (fail); clear hK K))
    with_reducible refine wpQuiet_nil ?_
    intro _ hw'
    obtain ⟨pq, hw''⟩ := hw'
    subst hw''
    have h5 := blk_below h3 pq.h
    have hg5 := grown_below hg3 pq.h
    go_wp2_with fail
    go_ret
    refine ⟨?_, h5, hg5⟩
    rw [← sb_get hl]
    rfl
  · have he : a = s.size := by omega
    subst he
    have hv : tNext (sb s) s.size = .error 3 := by unfold tNext; rw [if_neg (by rw [sb_len]; omega)]
    rw [hv]
    have t1 : ((s.size : Int) == (s.size : Int)) = true := beq_self_eq_true _
    clear hv hl
    go_enter Tryd.func39, Tryd.ntmps39
    go_wp2_with fail
    refine wp_region_quiet_on (by kernel_rfl) (by kernel_rfl) ?_
    repeat ((with_reducible refine wpQuiet_step (fun K hK => ?_)); go_simp; first | ((with_reducible refine hK _ ?_); clear hK K) | (rw [if_neg (by intro h; cases h)]; (with_reducible refine hK _ ?_); clear hK K) | (apply Exists.intro; refine ⟨fun _ => ?_, hK _ ?_⟩; (fail); clear hK K))
    with_reducible refine wpQuiet_nil ?_
    intro _ hw'
    obtain ⟨pq, hw''⟩ := hw'
    subst hw''
    go_wp2_with fail
    exact ⟨rfl, rfl, grown_of_below _ pq.h⟩
end Go.Proofs.YtbjjpplhnibjdaaDoor
