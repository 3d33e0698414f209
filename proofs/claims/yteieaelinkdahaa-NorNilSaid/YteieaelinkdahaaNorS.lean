/- The device's small operations: is it on, on, off, its counts; and of none. -/
import Derived.Test.YteieaelinkdahaaNor
namespace Go.Proofs.Yteieaelinkdahaa
open Go.RowKit Flo

abbrev ptrD (N : Nor) : Value := .pointer (some ⟨N.D, 0, none⟩)
abbrev nilD : Value := .pointer none
/-- What a head's cells are. -/
theorem DevR.at {O : Nat → Prop} {w : World} {N : Nor} (h : DevR O w N) (i : Nat) : w.cell? ⟨N.D, i, none⟩ = N.cells[i]? := cell_blk h.hD i

theorem DevR.ltD {O : Nat → Prop} {w : World} {N : Nor} (h : DevR O w N) : N.D < w.heap.size := (Array.getElem?_eq_some_iff.1 h.hD).1

theorem isOn_nil (w : World) : Gives 20 #[nilD] w (.bool false) := by
  go_enter Try.func20, Try.ntmps20
  go_wp2_with fail
  go_ret
  exact ⟨rfl, rfl⟩
theorem isOn_any {O : Nat → Prop} {w : World} {N : Nor} (h : DevR O w N) : Gives 20 #[ptrD N] w (.bool (!N.off)) := by
  have c5 : w.cell? ⟨N.D, 5, none⟩ = some (.bool N.off) := h.at 5
  go_enter Try.func20, Try.ntmps20
  go_wp2_with fail
  go_ret
  exact ⟨rfl, rfl⟩
theorem acts_nil (w : World) : Gives 19 #[nilD] w (i64 0) := by
  go_enter Try.func19, Try.ntmps19
  go_wp2_with fail
  go_ret
  exact ⟨rfl, rfl⟩
theorem acts_any {O : Nat → Prop} {w : World} {N : Nor} (h : DevR O w N) : Gives 19 #[ptrD N] w (i64 N.acts) := by
  have c7 : w.cell? ⟨N.D, 7, none⟩ = some (i64 N.acts) := h.at 7
  go_enter Try.func19, Try.ntmps19
  go_wp2_with fail
  go_ret
  exact ⟨rfl, rfl⟩
theorem offs_nil (w : World) : Gives 21 #[nilD] w (i64 0) := by
  go_enter Try.func21, Try.ntmps21
  go_wp2_with fail
  go_ret
  exact ⟨rfl, rfl⟩
theorem offs_any {O : Nat → Prop} {w : World} {N : Nor} (h : DevR O w N) : Gives 21 #[ptrD N] w (i64 N.offs) := by
  have c6 : w.cell? ⟨N.D, 6, none⟩ = some (i64 N.offs) := h.at 6
  go_enter Try.func21, Try.ntmps21
  go_wp2_with fail
  go_ret
  exact ⟨rfl, rfl⟩
theorem geom_nil (w : World) : Makes 22 #[nilD] w (geo 0 0) := by
  go_enter Try.func22, Try.ntmps22
  go_wp2_with fail
  exact bodyPost_ret (v := geo 0 0) (by simp [results, Try.results22, go_sem]) rfl ⟨rfl, Base.al (Below.refl _ _) _⟩
theorem geom_any {O : Nat → Prop} {w : World} {N : Nor} (h : DevR O w N) : Makes 22 #[ptrD N] w (geo N.S N.Z) := by
  have c0 : w.cell? ⟨N.D, 0, none⟩ = some (i64 N.S) := h.at 0
  have c1 : w.cell? ⟨N.D, 1, none⟩ = some (i64 N.Z) := h.at 1
  have hlt := h.ltD
  go_enter Try.func22, Try.ntmps22
  go_wp2_with fail
  exact bodyPost_ret (v := geo N.S N.Z) (by simp [results, Try.results22, go_sem]) rfl ⟨rfl, Base.al (Below.refl _ _) _⟩
theorem on_nil (w : World) : Gives 14 #[nilD] w (.tuple #[]) := by
  go_enter Try.func14, Try.ntmps14
  go_wp2_with fail
  first | go_end0 | refine bodyPost_ret (results_none rfl _ _ _) rfl ?_
  exact ⟨rfl, rfl⟩
theorem on_any {O : Nat → Prop} {w : World} {N : Nor} (h : DevR O w N) : Calls Try.prog 14 #[ptrD N] w fun e w' => e = .returned (.tuple #[]) ∧ w' = w.setCell ⟨N.D, 5, none⟩ (.bool false) := by
  have c5 : w.cell? ⟨N.D, 5, none⟩ = some (.bool N.off) := h.at 5
  have hf := frozen_blk h.hD 5
  go_enter Try.func14, Try.ntmps14
  go_wp2_with fail
  first | go_end0 | refine bodyPost_ret (results_none rfl _ _ _) rfl ?_
  exact ⟨rfl, rfl⟩
theorem DevR.on {O : Nat → Prop} {w : World} {N : Nor} (h : DevR O w N) : DevR O (w.setCell ⟨N.D, 5, none⟩ (.bool false)) { N with off := false } :=
  h.setD 5 _ rfl (.inr rfl) rfl
theorem off_nil (w : World) : Gives 13 #[nilD] w (.tuple #[]) := by
  have g0 := fun W => Lib.hid (isOn_nil W)
  go_enter Try.func13, Try.ntmps13
  go_wp2_with fail
  refine (g0 _).out.mono ?_; rintro e x1 ⟨rfl, rfl⟩
  go_wp2_with fail
  first | go_end0 | refine bodyPost_ret (results_none rfl _ _ _) rfl ?_
  exact ⟨rfl, rfl⟩
/-- Off: what is left. -/
def Nor.turn (N : Nor) : Nor := if N.off then N else { N with off := true, cut := none, offs := N.offs + 1 }
set_option maxHeartbeats 2000000 in
theorem off_any {O : Nat → Prop} {w : World} {N : Nor} (h : DevR O w N) (hlim : N.offs ≤ 1000000) : Calls Try.prog 13 #[ptrD N] w fun e w' => e = .returned (.tuple #[]) ∧ DevR O w' N.turn ∧ Out O w w' := by
  have g0 := fun W (hW : DevR O W N) => Lib.hid (isOn_any hW)
  cases hoff : N.off
  · rw [hoff] at g0
    have c5 : w.cell? ⟨N.D, 5, none⟩ = some (.bool false) := by rw [← hoff]; exact h.at 5
    have c6 : w.cell? ⟨N.D, 6, none⟩ = some (i64 N.offs) := h.at 6
    have c8 : w.cell? ⟨N.D, 8, none⟩ = some N.cutv := h.at 8
    have hf := fun o => frozen_blk h.hD o
    have ht : N.turn = { N with off := true, cut := none, offs := N.offs + 1 } := by unfold Nor.turn; rw [hoff]; rfl
    go_enter Try.func13, Try.ntmps13
    go_wp2_with fail
    refine (g0 _ h).out.mono ?_; rintro e x1 ⟨rfl, rfl⟩
    go_wp2_with fail
    first | go_end0 | refine bodyPost_ret (results_none rfl _ _ _) rfl ?_
    refine ⟨rfl, ?_, ?_⟩
    · rw [ht]
      have h1 := h.setD (N' := { N with off := true }) 5 (.bool true) rfl (.inr rfl) rfl
      have h2 := h1.setD (N' := { N with off := true, cut := none }) 8 (.pointer none) rfl (.inl rfl) rfl
      exact h2.setD (N' := { N with off := true, cut := none, offs := N.offs + 1 }) 6 (i64 (N.offs + 1 : Nat)) rfl (.inl rfl) rfl
    · exact ((((Out.refl O _).set h.ownD _ _).set h.ownD _ _).set h.ownD _ _)
  · rw [hoff] at g0
    have ht : N.turn = N := by unfold Nor.turn; rw [hoff]; rfl
    go_enter Try.func13, Try.ntmps13
    go_wp2_with fail
    refine (g0 _ h).out.mono ?_; rintro e x1 ⟨rfl, rfl⟩
    go_wp2_with fail
    first | go_end0 | refine bodyPost_ret (results_none rfl _ _ _) rfl ?_
    exact ⟨rfl, by rw [ht]; exact h, Out.refl _ _⟩
end Go.Proofs.Yteieaelinkdahaa
