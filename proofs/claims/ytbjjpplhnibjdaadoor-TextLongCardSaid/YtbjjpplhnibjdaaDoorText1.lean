/- Package text: a byte that must stand there; plain bytes; digits of sixteen. -/
import Derived.Test.YtbjjpplhnibjdaaDoorText
import Derived.Lib.Bytealg
namespace Go.Proofs.YtbjjpplhnibjdaaDoor
open Go Go.RowKit

set_option maxHeartbeats 2000000 in
set_option maxRecDepth 100000 in
theorem need_any (r : Nat) (s : ByteArray) (a c : Nat) (w : World) (h : RdT w r s a) (ha : a ≤ s.size) (hm : s.size ≤ 100000) :
    Calls Tryd.prog 29 #[.pointer (some ⟨r, 0, none⟩), bv c] w (RdPost w r s (fun _ : Nat => .tuple #[]) (fun y => y) (tNeed (sb s) a c)) := by
  have G := Lib.hid (next_any r s a w h ha hm)
  by_cases hl : a < (sb s).length
  · have hv : tNext (sb s) a = .ok ((sb s).getD a 0, a + 1) := by unfold tNext; rw [if_pos hl]
    rw [hv] at G
    by_cases hc : (sb s).getD a 0 = c
    · have hv2 : tNeed (sb s) a c = .ok (a + 1) := by unfold tNeed; rw [if_pos hl, if_pos hc]
      rw [hv2]
      have t1 : (((sb s).getD a 0 : Int) == (c : Int)) = true := by rw [beq_iff_eq, hc]
      clear hv hv2 hl h hc
      generalize (sb s).getD a 0 = d at *
      go_enter Tryd.func29, Tryd.ntmps29
      go_wp2_with fail
      refine G.out.mono ?_; rintro e w1 ⟨rfl, h1, hg1⟩
      go_wp2_with fail
      go_end0
      exact ⟨rfl, h1, hg1⟩
    · have hv2 : tNeed (sb s) a c = .error 2 := by unfold tNeed; rw [if_pos hl, if_neg hc]
      rw [hv2]
      have t1 : (((sb s).getD a 0 : Int) == (c : Int)) = false := by rw [beq_eq_false_iff_ne]; omega
      clear hv hv2 hl h hc
      generalize (sb s).getD a 0 = d at *
      go_enter Tryd.func29, Tryd.ntmps29
      go_wp2_with fail
      refine G.out.mono ?_; rintro e w1 ⟨rfl, h1, hg1⟩
      go_wp2_with fail
      exact ⟨rfl, rfl, hg1⟩
  · have hv : tNext (sb s) a = .error 3 := by unfold tNext; rw [if_neg hl]
    have hv2 : tNeed (sb s) a c = .error 3 := by unfold tNeed; rw [if_neg hl]
    rw [hv] at G
    rw [hv2]
    clear hv hv2 hl h
    go_enter Tryd.func29, Tryd.ntmps29
    go_wp2_with fail
    refine G.out.mono ?_; rintro e w1 ⟨rfl, hg1⟩
    go_wp2_with fail
    exact ⟨rfl, rfl, hg1⟩

set_option maxHeartbeats 1000000 in
set_option maxRecDepth 100000 in
theorem plain_any (c : Nat) (w : World) : Gives 32 #[bv c] w (.bool (plainB c)) := by
  unfold plainB
  go_enter Tryd.func32, Tryd.ntmps32
  go_wp2_with fail
  all_goals
    go_ret
    refine ⟨retB ?_, rfl⟩
    rw [Bool.eq_iff_iff]
    first | (simp; omega) | simp | omega
end Go.Proofs.YtbjjpplhnibjdaaDoor
