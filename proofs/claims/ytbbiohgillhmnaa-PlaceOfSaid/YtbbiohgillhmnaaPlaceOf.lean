/- The place of any two numbers, made by the program, is the reference's: for every two integers, with no condition. -/
import Derived.Test.YtbbiohgillhmnaaPlace
import Derived.Test.YtbbiohgillhmnaaRow
namespace Go.Proofs.Ytbbiohgillhmnaa
open Go.ChangeShapes Go.WideShapes Go.ChangeAt Go.RowKit Flo

set_option maxHeartbeats 400000 in
theorem placeOf_walk (a b : Int) (w : World) (v : Value) (h1 : Gives 16 #[i64 a, i64 b] w v) (h2 : Gives 17 #[i64 a, i64 b] w v)
    (hv : ∃ x y, v = cx x y ∧ (eqF x x && eqF y y) = true) : Gives 3 #[i64 a, i64 b] w (.bool true) := by
  obtain ⟨x, y, rfl, he⟩ := hv
  rw [Bool.and_eq_true] at he
  obtain ⟨ex, ey⟩ := he
  have e1 : (FloatKind.f64.format.order x x == some Ordering.eq) = true := ex
  have e2 : (FloatKind.f64.format.order y y == some Ordering.eq) = true := ey
  have g1 := Lib.hid h1
  have g2 := Lib.hid h2
  have g3 := Lib.hid (fixed2 w)
  clear h1 h2 ex ey
  go_enter Try.func3, Try.ntmps3
  go_wp2_with fail
  refine g3.out.mono ?_; rintro e w' ⟨rfl, rfl⟩
  go_wp2_with fail
  refine g1.out.mono ?_; rintro e w' ⟨rfl, rfl⟩
  go_wp2_with fail
  refine g2.out.mono ?_; rintro e w' ⟨rfl, rfl⟩
  go_wp2_with fail
  go_ret
  exact ⟨rfl, rfl⟩

theorem placeOf_gives (a b : Int) (w : World) : Gives 3 #[i64 a, i64 b] w (.bool true) := by
  by_cases h : a < 0 ∨ 2147483647 < a ∨ b < 0 ∨ 2147483647 < b
  · exact placeOf_walk a b w _ (of_out a b w h) (rof_out a b w h) ⟨0, 0, rfl, by decide⟩
  · have ea : ((a.toNat : Nat) : Int) = a := by omega
    have eb : ((b.toNat : Nat) : Int) = b := by omega
    refine placeOf_walk a b w _ (of_in a b w (by omega) (by omega) (by omega) (by omega)) (rof_in a b w (by omega) (by omega) (by omega) (by omega)) ⟨_, _, rfl, ?_⟩
    have v1 := nearest_int a.toNat (by omega)
    have v2 := nearest_int b.toNat (by omega)
    rw [ea] at v1
    rw [eb] at v2
    rw [eqF_same v1 v1, eqF_same v2 v2]; rfl

set_option maxRecDepth 100000 in
theorem placeOf_law : LawCalls 3 Try.f3 := by
  intro H enc W base args ds p hval hA hsz _
  rw [Try.params3] at hA hval
  obtain ⟨v0, v1, d0, d1, p0, p1, hargs, rfl, rfl, h0, h1⟩ := trodAll_two hA
  obtain rfl : args = #[v0, v1] := by cases args; simp_all
  obtain ⟨a, rfl, rfl, rfl, wa⟩ := open_int Try.underlying3 (hval 0 3 v0 rfl rfl) h0
  obtain ⟨b, rfl, rfl, rfl, wb⟩ := open_int Try.underlying3 (hval 1 3 v1 rfl rfl) h1
  exact (placeOf_gives a b W).mono fun e W' ⟨he, hw⟩ => ⟨he, by subst hw; exact Below.refl _ _⟩

set_option maxRecDepth 100000 in
theorem PlaceOf_holds : Rows.PlaceOfSaid :=
  OpenClaim.holds_of_wide 3 Try.f3 rfl rfl rfl rfl rfl rfl rfl ⟨rfl, rfl, rfl, rfl, rfl⟩ rfl rfl rfl rfl rfl (by kernel_rfl) Try.func3 (by kernel_rfl)
    (of_decide_eq_true (by kernel_rfl)) (by unfold Func.isWrapper; first | (rw [if_pos (by decide +kernel)]; kernel_rfl) | (rw [if_neg (by decide +kernel)]; exact ⟨rfl, rfl⟩))
    (fun os started H enc _ => law_lifted (fn := Try.f3) (spec := Rows.placeOfSpec) Try.func3 (by kernel_rfl) rfl rfl Try.underlying4 (of_decide_eq_true (by kernel_rfl))
      (k := 2) (by kernel_rfl) (fun H ds h => by match ds, h with | [_, _], _ => rfl) os started H enc
      (ChangeSpec.witness6 (enc := enc) (C := Try.checked) false ⟨#[], #[.int .i64 0, .int .i64 0], []⟩ 8 (by kernel_rfl) (by kernel_rfl) (by kernel_rfl) (by kernel_rfl)) placeOf_law)
#print axioms PlaceOf_holds
end Go.Proofs.Ytbbiohgillhmnaa
