/- A place's two parts, and whether it is right, are the reference's, and of the parts the place is made again: for any two words, with no condition. -/
import Derived.Test.YtbbiohgillhmnaaPlace
import Derived.Test.YtbbiohgillhmnaaRow
namespace Go.Proofs.Ytbbiohgillhmnaa
open Go.ChangeShapes Go.WideShapes Go.ChangeAt Go.RowKit Flo

set_option maxHeartbeats 400000 in
theorem placeParts_no (a b : Int) (w : World) (h : part? a.toNat = none ∨ part? b.toNat = none) : Gives 7 #[.int .u64 a, .int .u64 b] w (.bool true) := by
  have g0 := Lib.hid (at_gives a b w)
  have g1 := Lib.hid (parts_no w h)
  have hr := right_any a.toNat b.toNat w
  have hb : ((part? a.toNat).isSome && (part? b.toNat).isSome) = false := by rcases h with h | h <;> simp [h]
  rw [hb] at hr
  have g2 := Lib.hid hr
  have g3 := Lib.hid (fixed2 w)
  clear h hr hb
  generalize a.toNat = x at g0 g1 g2
  generalize b.toNat = y at g0 g1 g2
  go_enter Try.func7, Try.ntmps7
  go_wp2_with fail
  refine g0.out.mono ?_; rintro e w' ⟨rfl, rfl⟩
  go_wp2_with fail
  refine g1.out.mono ?_; rintro e w' ⟨rfl, rfl⟩
  go_wp2_with fail
  refine g2.out.mono ?_; rintro e w' ⟨rfl, rfl⟩
  go_wp2_with fail
  refine g3.out.mono ?_; rintro e w' ⟨rfl, rfl⟩
  go_wp2_with fail
  go_ret
  exact ⟨rfl, rfl⟩

set_option maxHeartbeats 400000 in
theorem placeParts_yes (a b : Int) (w : World) (s o : Nat) (ha : part? a.toNat = some s) (hb : part? b.toNat = some o) : Gives 7 #[.int .u64 a, .int .u64 b] w (.bool true) := by
  have ha2 := part_of ha
  have hb2 := part_of hb
  have la := ha2.2
  have lb := hb2.2
  have g0 := Lib.hid (at_gives a b w)
  have g1 := Lib.hid (parts_yes w ha hb)
  have hr := right_any a.toNat b.toNat w
  rw [ha, hb, show ((some s).isSome && (some o).isSome) = true from rfl] at hr
  have g2 := Lib.hid hr
  have g3 := Lib.hid (fixed2 w)
  have g4 := Lib.hid (sector_in (b := b.toNat) w ha)
  have g5 := Lib.hid (offset_in (a := a.toNat) w hb)
  have g6 := Lib.hid (of_in s o w (by omega) (by omega) (by omega) (by omega))
  have e1 : (FloatKind.f64.format.order (near s) a.toNat == some Ordering.eq) = true := eqF_same (nearest_int s (by omega)) ha2.1
  have e2 : (FloatKind.f64.format.order (near o) b.toNat == some Ordering.eq) = true := eqF_same (nearest_int o (by omega)) hb2.1
  clear ha hb hr ha2 hb2
  generalize a.toNat = x at g0 g1 g2 g4 g5 e1
  generalize b.toNat = y at g0 g1 g2 g4 g5 e2
  go_enter Try.func7, Try.ntmps7
  go_wp2_with fail
  refine g0.out.mono ?_; rintro e w' ⟨rfl, rfl⟩
  go_wp2_with fail
  refine g1.out.mono ?_; rintro e w' ⟨rfl, rfl⟩
  go_wp2_with fail
  refine g2.out.mono ?_; rintro e w' ⟨rfl, rfl⟩
  go_wp2_with fail
  refine g3.out.mono ?_; rintro e w' ⟨rfl, rfl⟩
  go_wp2_with fail
  refine g4.out.mono ?_; rintro e w' ⟨rfl, rfl⟩
  go_wp2_with fail
  refine g5.out.mono ?_; rintro e w' ⟨rfl, rfl⟩
  go_wp2_with fail
  refine g6.out.mono ?_; rintro e w' ⟨rfl, rfl⟩
  go_wp2_with fail
  go_ret
  exact ⟨rfl, rfl⟩

theorem placeParts_gives (a b : Int) (w : World) : Gives 7 #[.int .u64 a, .int .u64 b] w (.bool true) := by
  cases ha : part? a.toNat with
  | none => exact placeParts_no a b w (.inl ha)
  | some s =>
    cases hb : part? b.toNat with
    | none => exact placeParts_no a b w (.inr hb)
    | some o => exact placeParts_yes a b w s o ha hb

set_option maxRecDepth 100000 in
theorem placeParts_law : LawCalls 7 Try.f7 := by
  intro H enc W base args ds p hval hA hsz _
  rw [Try.params7] at hA hval
  obtain ⟨v0, v1, d0, d1, p0, p1, hargs, rfl, rfl, h0, h1⟩ := trodAll_two hA
  obtain rfl : args = #[v0, v1] := by cases args; simp_all
  obtain ⟨a, rfl, rfl, rfl, wa⟩ := open_int Try.underlying28 (hval 0 28 v0 rfl rfl) h0
  obtain ⟨b, rfl, rfl, rfl, wb⟩ := open_int Try.underlying28 (hval 1 28 v1 rfl rfl) h1
  exact (placeParts_gives a b W).mono fun e W' ⟨he, hw⟩ => ⟨he, by subst hw; exact Below.refl _ _⟩

set_option maxRecDepth 100000 in
theorem PlaceParts_holds : Rows.PlacePartsSaid :=
  OpenClaim.holds_of_wide 7 Try.f7 rfl rfl rfl rfl rfl rfl rfl ⟨rfl, rfl, rfl, rfl, rfl⟩ rfl rfl rfl rfl rfl (by kernel_rfl) Try.func7 (by kernel_rfl)
    (of_decide_eq_true (by kernel_rfl)) (by unfold Func.isWrapper; first | (rw [if_pos (by decide +kernel)]; kernel_rfl) | (rw [if_neg (by decide +kernel)]; exact ⟨rfl, rfl⟩))
    (fun os started H enc _ => law_lifted (fn := Try.f7) (spec := Rows.placePartsSpec) Try.func7 (by kernel_rfl) rfl rfl Try.underlying4 (of_decide_eq_true (by kernel_rfl))
      (k := 2) (by kernel_rfl) (fun H ds h => by match ds, h with | [_, _], _ => rfl) os started H enc
      (ChangeSpec.witness6 (enc := enc) (C := Try.checked) false ⟨#[], #[.int .u64 0, .int .u64 0], []⟩ 8 (by kernel_rfl) (by kernel_rfl) (by kernel_rfl) (by kernel_rfl)) placeParts_law)
#print axioms PlaceParts_holds
end Go.Proofs.Ytbbiohgillhmnaa
