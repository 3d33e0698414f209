/- Which word and which fields a kind has: the document's; text.Word at all kinds. -/
import Derived.Test.YtbjjpplhnibjdaaDoorQuoQ
namespace Go.Proofs.YtbjjpplhnibjdaaDoor
open Go Go.RowKit

def wordOf (k : Nat) : List Nat := if k ≤ 16 then wordsL.getD k [] else []
theorem kind_cases {k : Nat} (h : k ≤ 16) : k = 0 ∨ k = 1 ∨ k = 2 ∨ k = 3 ∨ k = 4 ∨ k = 5 ∨ k = 6 ∨ k = 7 ∨ k = 8 ∨ k = 9 ∨ k = 10 ∨ k = 11 ∨ k = 12 ∨ k = 13 ∨ k = 14 ∨ k = 15 ∨ k = 16 := by omega

set_option maxHeartbeats 2000000 in
set_option maxRecDepth 100000 in
theorem wordAt_any (k : Nat) (hk : k ≤ 255) (w : World) (hw : WordsIn w) : Gives 11 #[bv k] w (.string (toB (wordOf k))) := by
  by_cases h16 : k ≤ 16
  · unfold wordOf
    rw [if_pos h16]
    refine word_any k h16 _ ?_ w hw
    have : wordsL.length = 17 := by decide
    rw [List.getD_eq_getElem?_getD, List.getElem?_eq_getElem (by omega)]
    rfl
  · unfold wordOf
    rw [if_neg h16]
    have t1 : decide ((17 : Int) ≤ (k : Int)) = true := decide_eq_true (by omega)
    have kw : IntKind.i64.wrap (k : Int) = (k : Int) := by rw [IntKind.wrap_i64]; omega
    go_enter Tryd.func11, Tryd.ntmps11
    go_wp2_with fail
    all_goals first | omega | (go_ret; exact ⟨rfl, rfl⟩)

set_option maxHeartbeats 8000000 in
set_option maxRecDepth 100000 in
theorem rword_any (k : Nat) (hk : k ≤ 255) (w : World) : Makes 12 #[i64 k] w (.string (toB (wordOf k))) := by
  by_cases h16 : k ≤ 16
  · rcases kind_cases h16 with rfl | rfl | rfl | rfl | rfl | rfl | rfl | rfl | rfl | rfl | rfl | rfl | rfl | rfl | rfl | rfl | rfl
    all_goals
      clear hk h16
      go_enter Tryd.func12, Tryd.ntmps12
      go_wp2_with fail
      go_ret
      exact ⟨rfl, Base.al (Below.refl _ w) _⟩
  · unfold wordOf
    rw [if_neg h16]
    have t1 : decide ((k : Int) < 1) = false := decide_eq_false (by omega)
    have t2 : decide ((16 : Int) < (k : Int)) = true := decide_eq_true (by omega)
    go_enter Tryd.func12, Tryd.ntmps12
    go_wp2_with fail
    all_goals first | omega | (go_ret; exact ⟨rfl, Base.al (Below.refl _ w) _⟩)

/-- Which fields: paths, a handle, from, a number, bytes. -/
def hasT (k : Nat) : Nat × Bool × Bool × Bool × Bool :=
  if k = 4 ∨ k = 5 ∨ k = 6 ∨ k = 13 ∨ k = 14 ∨ k = 15 ∨ k = 16 then (1, false, false, false, false) else if k = 11 ∨ k = 12 then (2, false, false, false, false) else if k = 7 then (0, true, false, false, false) else if k = 8 then (0, true, true, true, false) else if k = 9 then (0, true, true, false, true) else if k = 10 then (0, true, false, true, false) else (0, false, false, false, false)
theorem results_tmp5 {fn : Func} {t u v x y : Tmp} (h : fn.results = #[.tmp t, .tmp u, .tmp v, .tmp x, .tmp y]) (tmps : Array Value) (P : Program) (w : World) :
    (results fn tmps).run P w = .ok (.tuple #[tmps.getD t undef, tmps.getD u undef, tmps.getD v undef, tmps.getD x undef, tmps.getD y undef]) w := by
  simp [results, h]
def hasV (t : Nat × Bool × Bool × Bool × Bool) : Value := .tuple #[i64 t.1, .bool t.2.1, .bool t.2.2.1, .bool t.2.2.2.1, .bool t.2.2.2.2]
set_option maxHeartbeats 8000000 in
set_option maxRecDepth 100000 in
theorem has_any (k : Nat) (w : World) : Gives 22 #[bv k] w (hasV (hasT k)) := by
  by_cases h16 : k ≤ 16
  · rcases kind_cases h16 with rfl | rfl | rfl | rfl | rfl | rfl | rfl | rfl | rfl | rfl | rfl | rfl | rfl | rfl | rfl | rfl | rfl
    all_goals
      clear h16
      go_enter Tryd.func22, Tryd.ntmps22
      go_wp2_with fail
      (try simp only [Exit.inBlock, Exit.then])
      refine bodyPost_ret (results_tmp5 rfl _ _ _) rfl ?_
      exact ⟨rfl, rfl⟩
  · have hv : hasT k = (0, false, false, false, false) := by unfold hasT; rw [if_neg (by omega), if_neg (by omega), if_neg (by omega), if_neg (by omega), if_neg (by omega), if_neg (by omega)]
    rw [hv]
    have t4 : ((k : Int) == 4) = false := by rw [beq_eq_false_iff_ne]; omega
    have t5 : ((k : Int) == 5) = false := by rw [beq_eq_false_iff_ne]; omega
    have t6 : ((k : Int) == 6) = false := by rw [beq_eq_false_iff_ne]; omega
    have t7 : ((k : Int) == 7) = false := by rw [beq_eq_false_iff_ne]; omega
    have t8 : ((k : Int) == 8) = false := by rw [beq_eq_false_iff_ne]; omega
    have t9 : ((k : Int) == 9) = false := by rw [beq_eq_false_iff_ne]; omega
    have t10 : ((k : Int) == 10) = false := by rw [beq_eq_false_iff_ne]; omega
    have t11 : ((k : Int) == 11) = false := by rw [beq_eq_false_iff_ne]; omega
    have t12 : ((k : Int) == 12) = false := by rw [beq_eq_false_iff_ne]; omega
    have t13 : ((k : Int) == 13) = false := by rw [beq_eq_false_iff_ne]; omega
    have t14 : ((k : Int) == 14) = false := by rw [beq_eq_false_iff_ne]; omega
    have t15 : ((k : Int) == 15) = false := by rw [beq_eq_false_iff_ne]; omega
    have t16 : ((k : Int) == 16) = false := by rw [beq_eq_false_iff_ne]; omega
    clear hv h16
    go_enter Tryd.func22, Tryd.ntmps22
    go_wp2_with fail
    (try simp only [Exit.inBlock, Exit.then])
    refine bodyPost_ret (results_tmp5 rfl _ _ _) rfl ?_
    exact ⟨rfl, rfl⟩
end Go.Proofs.YtbjjpplhnibjdaaDoor
