/- PickOnes: the row. -/
import Derived.Test.YtbbiohgillhmnaaOpenInfos
import Derived.Test.YtbbiohgillhmnaaRow
namespace Go.Proofs.Ytbbiohgillhmnaa
open Go.ChangeShapes Go.WideShapes Go.ChangeAt Go.RowKit

set_option maxRecDepth 100000 in
theorem pickOnes_law : LawCalls 12 Try.f12 := by
  intro H enc W base args ds p hval hA hsz hfz
  rw [Try.params12] at hA hval hsz
  obtain ⟨v0, vs0, d0, ds0, p0, q0, hargs, rfl, rfl, h0, r0⟩ := trodAll_cons hA
  obtain ⟨rfl, rfl, rfl⟩ := trodAll_nil r0
  obtain rfl : args = #[v0] := by cases args; simp_all
  obtain ⟨A, n, cap, rfl⟩ := okWide_slice Try.underlying50 (hval 0 50 v0 rfl rfl)
  obtain ⟨l, hl, hb⟩ := sized_infos (j := 0) hsz rfl rfl h0
  exact pickOnes_makes A n cap l W hl (plainOnes l) hb

set_option maxRecDepth 100000 in
theorem PickOnes_holds : Rows.PickOnesSaid :=
  OpenClaim.holds_of_wide 12 Try.f12 rfl rfl rfl rfl rfl rfl rfl ⟨rfl, rfl, rfl, rfl, rfl⟩ rfl rfl rfl rfl rfl (by kernel_rfl) Try.func12 (by kernel_rfl)
    (of_decide_eq_true (by kernel_rfl)) (by unfold Func.isWrapper; first | (rw [if_pos (by decide +kernel)]; kernel_rfl) | (rw [if_neg (by decide +kernel)]; exact ⟨rfl, rfl⟩))
    (fun os started H enc _ => law_lifted (fn := Try.f12) (spec := Rows.pickOnesSpec) Try.func12 (by kernel_rfl) rfl rfl Try.underlying4 (of_decide_eq_true (by kernel_rfl))
      (k := 1) (by kernel_rfl) (fun H ds h => by match ds, h with | [_], _ => rfl) os started H enc
      (ChangeSpec.witness6 (enc := enc) (C := Try.checked) false ⟨#[], #[.slice none 0 0], []⟩ 8 (by kernel_rfl) (by kernel_rfl) (by kernel_rfl) (by kernel_rfl)) pickOnes_law)
#print axioms PickOnes_holds
end Go.Proofs.Ytbbiohgillhmnaa
