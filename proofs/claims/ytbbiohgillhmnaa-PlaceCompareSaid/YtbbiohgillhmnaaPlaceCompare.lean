/- How any two places stand is the reference's; turned round it is the other way; and three stand in a row: for any six words, with no condition. -/
import Derived.Test.YtbbiohgillhmnaaPlace2
import Derived.Test.YtbbiohgillhmnaaRow
import Derived.Test.YtbbiohgillhmnaaOpen
namespace Go.Proofs.Ytbbiohgillhmnaa
open Go.ChangeShapes Go.WideShapes Go.ChangeAt Go.RowKit Flo

theorem cmpParts_bd (p q : Option (Nat × Nat)) : -1 ≤ cmpParts p q ∧ cmpParts p q ≤ 1 := by
  unfold cmpParts cmpI
  repeat' split
  all_goals omega
theorem cmpParts_turn (p q : Option (Nat × Nat)) : cmpParts q p = -cmpParts p q := by
  match p, q with
  | none, none => rfl
  | none, some _ => rfl
  | some _, none => rfl
  | some (a, b), some (c, d) =>
    simp only [cmpParts, cmpI]
    repeat' split
    all_goals omega
theorem cmpParts_row (p q r : Option (Nat × Nat)) : 0 < cmpParts p q ∨ 0 < cmpParts q r ∨ cmpParts p r ≤ 0 := by
  match p, q, r with
  | none, none, none => simp [cmpParts]
  | none, none, some _ => simp [cmpParts]
  | none, some _, none => simp [cmpParts]
  | none, some _, some _ => simp [cmpParts]
  | some _, none, none => simp [cmpParts]
  | some _, none, some _ => simp [cmpParts]
  | some _, some _, none => simp [cmpParts]
  | some (a, b), some (c, d), some (e, f) =>
    simp only [cmpParts, cmpI]
    by_cases h1 : (a : Int) = c <;> by_cases h2 : (c : Int) = e <;> by_cases h3 : (a : Int) = e <;> simp only [h1, h2, h3, if_true, if_false]
    all_goals (repeat' split)
    all_goals omega

set_option maxHeartbeats 1600000 in
set_option maxRecDepth 100000 in
theorem placeCompare_gives (a b c d e f : Int) (w : World) :
    Makes 14 #[.agg #[.int .u64 a, .int .u64 b], .agg #[.int .u64 c, .int .u64 d], .agg #[.int .u64 e, .int .u64 f]] w (.bool true) := by
  have g1 := fun W => at_gives a b W
  have g2 := fun W => at_gives c d W
  have g3 := fun W => at_gives e f W
  have c1 := fun W => compare_any a.toNat b.toNat c.toNat d.toNat W
  have c2 := fun W => compare_any c.toNat d.toNat e.toNat f.toNat W
  have c3 := fun W => compare_any a.toNat b.toNat e.toNat f.toNat W
  have c4 := fun W => rcompare_any a.toNat b.toNat c.toNat d.toNat W
  have c5 := fun W => compare_any c.toNat d.toNat a.toNat b.toNat W
  rw [cmpParts_turn] at c5
  have b1 := cmpParts_bd (parts? a.toNat b.toNat) (parts? c.toNat d.toNat)
  have b2 := cmpParts_bd (parts? c.toNat d.toNat) (parts? e.toNat f.toNat)
  have b3 := cmpParts_bd (parts? a.toNat b.toNat) (parts? e.toNat f.toNat)
  have row := cmpParts_row (parts? a.toNat b.toNat) (parts? c.toNat d.toNat) (parts? e.toNat f.toNat)
  generalize cmpParts (parts? a.toNat b.toNat) (parts? c.toNat d.toNat) = x at *
  generalize cmpParts (parts? c.toNat d.toNat) (parts? e.toNat f.toNat) = y at *
  generalize cmpParts (parts? a.toNat b.toNat) (parts? e.toNat f.toNat) = z at *
  obtain ⟨bx0, bx1⟩ := b1
  obtain ⟨by0, by1⟩ := b2
  obtain ⟨bz0, bz1⟩ := b3
  have f0 := fun W => Lib.hid (fixed2 W)
  have h1 := fun W => Lib.hid (g1 W)
  have h2 := fun W => Lib.hid (g2 W)
  have h3 := fun W => Lib.hid (g3 W)
  have k1 := fun W => Lib.hid (c1 W)
  have k2 := fun W => Lib.hid (c2 W)
  have k3 := fun W => Lib.hid (c3 W)
  have k4 := fun W => Lib.hid (c4 W)
  have k5 := fun W => Lib.hid (c5 W)
  clear g1 g2 g3 c1 c2 c3 c4 c5
  have hrow := Lib.hid row
  clear row
  go_enter Try.func14, Try.ntmps14
  go_wp2_with fail
  go_quiet ((first | (with_reducible exact Calls.quiet_of_same (h1 _).out) | (with_reducible exact Calls.quiet_of_same (h2 _).out) | (with_reducible exact Calls.quiet_of_same (h3 _).out)))
  go_wp2_with fail
  refine (k1 _).out.mono ?_; rintro e w1 ⟨rfl, hb1⟩
  go_wp2_with fail
  refine (k2 _).out.mono ?_; rintro e w2 ⟨rfl, hb2⟩
  go_wp2_with fail
  refine (k3 _).out.mono ?_; rintro e w3 ⟨rfl, hb3⟩
  go_wp2_with fail
  refine (f0 _).out.mono ?_; rintro e w4 ⟨rfl, rfl⟩
  go_wp2_with fail
  refine (k4 _).out.mono ?_; rintro e w4 ⟨rfl, rfl⟩
  go_wp2_with fail
  refine (k5 _).out.mono ?_; rintro e w4 ⟨rfl, hb4⟩
  go_wp2_with fail
  all_goals go_ret
  all_goals refine ⟨?_, by repeat (first | exact Below.refl _ _ | (refine Base.tr ?_ (by assumption)) | refine Base.dn ?_ _ | refine Base.al ?_ _)⟩
  all_goals first
    | rfl
    | exact congrArg (fun b => Ending.returned (Value.bool b)) (by have := hrow.out; simp; omega)

set_option maxRecDepth 100000 in
theorem placeCompare_law : LawCalls 14 Try.f14 := by
  intro H enc W base args ds p hval hA hsz hfz
  rw [Try.params14] at hA hval hsz
  obtain ⟨v0, vs0, d0, ds0, p0, q0, hargs, rfl, rfl, h0, r0⟩ := trodAll_cons hA
  obtain ⟨v1, vs1, d1, ds1, p1, q1, rfl, rfl, rfl, h1, r1⟩ := trodAll_cons r0
  obtain ⟨v2, vs2, d2, ds2, p2, q2, rfl, rfl, rfl, h2, r2⟩ := trodAll_cons r1
  obtain ⟨rfl, rfl, rfl⟩ := trodAll_nil r2
  obtain rfl : args = #[v0, v1, v2] := by cases args; simp_all
  obtain ⟨xs, rfl, hx, _⟩ := Base.open_array_ints Try.underlying70 Try.underlying28 (by kernel_rfl) (by kernel_rfl) (hval 0 70 v0 rfl rfl) h0
  obtain ⟨ys, rfl, hy, _⟩ := Base.open_array_ints Try.underlying70 Try.underlying28 (by kernel_rfl) (by kernel_rfl) (hval 1 70 v1 rfl rfl) h1
  obtain ⟨zs, rfl, hz, _⟩ := Base.open_array_ints Try.underlying70 Try.underlying28 (by kernel_rfl) (by kernel_rfl) (hval 2 70 v2 rfl rfl) h2
  match xs, hx, ys, hy, zs, hz with
  | [a, b], _, [c, d], _, [e, f], _ => exact placeCompare_gives a b c d e f W

set_option maxRecDepth 100000 in
theorem PlaceCompare_holds : Rows.PlaceCompareSaid :=
  OpenClaim.holds_of_wide 14 Try.f14 rfl rfl rfl rfl rfl rfl rfl ⟨rfl, rfl, rfl, rfl, rfl⟩ rfl rfl rfl rfl rfl (by kernel_rfl) Try.func14 (by kernel_rfl)
    (of_decide_eq_true (by kernel_rfl)) (by unfold Func.isWrapper; first | (rw [if_pos (by decide +kernel)]; kernel_rfl) | (rw [if_neg (by decide +kernel)]; exact ⟨rfl, rfl⟩))
    (fun os started H enc _ => law_lifted (fn := Try.f14) (spec := Rows.placeCompareSpec) Try.func14 (by kernel_rfl) rfl rfl Try.underlying4 (of_decide_eq_true (by kernel_rfl))
      (k := 3) (by kernel_rfl) (fun H ds h => by match ds, h with | [_, _, _], _ => rfl) os started H enc
      (ChangeSpec.witness6 (enc := enc) (C := Try.checked) false ⟨#[], #[.agg #[.int .u64 0, .int .u64 0], .agg #[.int .u64 0, .int .u64 0], .agg #[.int .u64 0, .int .u64 0]], []⟩ 8 (by kernel_rfl) (by kernel_rfl) (by kernel_rfl) (by kernel_rfl)) placeCompare_law)
#print axioms PlaceCompare_holds
end Go.Proofs.Ytbbiohgillhmnaa
