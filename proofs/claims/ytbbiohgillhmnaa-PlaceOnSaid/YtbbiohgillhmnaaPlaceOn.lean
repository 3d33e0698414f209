/- Any place so many bytes further is the reference's, and as many back it is the place again: for any two words and any integer, with no condition. -/
import Derived.Test.YtbbiohgillhmnaaPlace
import Derived.Test.YtbbiohgillhmnaaRow
namespace Go.Proofs.Ytbbiohgillhmnaa
open Go.ChangeShapes Go.WideShapes Go.ChangeAt Go.RowKit Flo

-- The law where the place is not right.
set_option maxHeartbeats 400000 in
theorem placeOn_no (a b n : Int) (w : World) (h : part? a.toNat = none ∨ part? b.toNat = none) : Gives 8 #[.int .u64 a, .int .u64 b, i64 n] w (.bool true) := by
  have g0 := Lib.hid (at_gives a b w)
  have g1 := Lib.hid (on_no _ _ n w h)
  have hr := right_any a.toNat b.toNat w
  have hb : ((part? a.toNat).isSome && (part? b.toNat).isSome) = false := by rcases h with h | h <;> simp [h]
  rw [hb] at hr
  have g2 := Lib.hid hr
  have g3 := Lib.hid (fixed2 w)
  have e4 : (FloatKind.f64.format.order 0 0 == some Ordering.eq) = true := by decide
  clear h hr hb
  generalize a.toNat = x at g0 g1 g2
  generalize b.toNat = y at g0 g1 g2
  go_enter Try.func8, Try.ntmps8
  go_wp2_with fail
  refine g0.out.mono ?_; rintro e w' ⟨rfl, rfl⟩
  go_wp2_with fail
  refine g1.out.mono ?_; rintro e w' ⟨rfl, rfl⟩
  go_wp2_with fail
  refine g2.out.mono ?_; rintro e w' ⟨rfl, rfl⟩
  go_wp2_with fail
  refine g3.out.mono ?_; rintro e w' ⟨rfl, rfl⟩
  go_wp2_with fail
  go_ret
  exact ⟨rfl, rfl⟩

-- .. is right, and the number too great either way.
set_option maxHeartbeats 400000 in
theorem placeOn_far (a b n : Int) (w : World) (s o : Nat) (ha : part? a.toNat = some s) (hb : part? b.toNat = some o) (hn : n < -2147483648 ∨ 2147483648 < n) : Gives 8 #[.int .u64 a, .int .u64 b, i64 n] w (.bool true) := by
  have g0 := Lib.hid (at_gives a b w)
  have g1 := Lib.hid (on_far _ _ s o n w ha hb (by omega))
  have hr := right_any a.toNat b.toNat w
  rw [ha, hb, show ((some s).isSome && (some o).isSome) = true from rfl] at hr
  have g2 := Lib.hid hr
  have g3 := Lib.hid (fixed2 w)
  have e4 : (FloatKind.f64.format.order 0 0 == some Ordering.eq) = true := by decide
  clear ha hb hr
  generalize a.toNat = x at g0 g1 g2
  generalize b.toNat = y at g0 g1 g2
  rcases hn with hn | hn
  · have hd : decide (-2147483648 ≤ n) = false := by simp; omega
    go_enter Try.func8, Try.ntmps8
    go_wp2_with fail
    refine g0.out.mono ?_; rintro e w' ⟨rfl, rfl⟩
    go_wp2_with fail
    refine g1.out.mono ?_; rintro e w' ⟨rfl, rfl⟩
    go_wp2_with fail
    refine g2.out.mono ?_; rintro e w' ⟨rfl, rfl⟩
    go_wp2_with fail
    refine g3.out.mono ?_; rintro e w' ⟨rfl, rfl⟩
    go_wp2_with fail
    go_ret
    exact ⟨rfl, rfl⟩
  · have hd : -2147483648 ≤ n := by omega
    go_enter Try.func8, Try.ntmps8
    go_wp2_with fail
    refine g0.out.mono ?_; rintro e w' ⟨rfl, rfl⟩
    go_wp2_with fail
    refine g1.out.mono ?_; rintro e w' ⟨rfl, rfl⟩
    go_wp2_with fail
    refine g2.out.mono ?_; rintro e w' ⟨rfl, rfl⟩
    go_wp2_with fail
    refine g3.out.mono ?_; rintro e w' ⟨rfl, rfl⟩
    go_wp2_with fail
    go_ret
    exact ⟨rfl, rfl⟩

-- .. is right, the number moderate, and the place so many bytes further is none.
set_option maxHeartbeats 400000 in
theorem placeOn_none (a b n : Int) (w : World) (s o : Nat) (ha : part? a.toNat = some s) (hb : part? b.toNat = some o) (h0 : -2147483648 ≤ n) (h1 : n ≤ 2147483648) (hr : (o : Int) + n < 0 ∨ 2147483647 < (o : Int) + n) :
    Gives 8 #[.int .u64 a, .int .u64 b, i64 n] w (.bool true) := by
  have lo := part_le hb
  have hon : Gives 29 #[cx a.toNat b.toNat, i64 n] w (cx 0 0) := by
    by_cases hf : n < -2147483647 ∨ 2147483647 < n
    · exact on_far _ _ s o n w ha hb hf
    · have := on_in (n := n) w ha hb (by omega) (by omega)
      rw [if_neg (by omega)] at this
      exact this
  have g0 := Lib.hid (at_gives a b w)
  have g1 := Lib.hid hon
  have hr2 := right_any a.toNat b.toNat w
  rw [ha, hb, show ((some s).isSome && (some o).isSome) = true from rfl] at hr2
  have g2 := Lib.hid hr2
  have g3 := Lib.hid (fixed2 w)
  have g4 := Lib.hid (sector_in (b := b.toNat) w ha)
  have g5 := Lib.hid (offset_in (a := a.toNat) w hb)
  have g6 := Lib.hid (rof_out s (o + n) w (by omega))
  have e4 : (FloatKind.f64.format.order 0 0 == some Ordering.eq) = true := by decide
  clear ha hb hr2 hon hr
  generalize a.toNat = x at g0 g1 g2 g4 g5
  generalize b.toNat = y at g0 g1 g2 g4 g5
  go_enter Try.func8, Try.ntmps8
  go_wp2_with fail
  refine g0.out.mono ?_; rintro e w' ⟨rfl, rfl⟩
  go_wp2_with fail
  refine g1.out.mono ?_; rintro e w' ⟨rfl, rfl⟩
  go_wp2_with fail
  refine g2.out.mono ?_; rintro e w' ⟨rfl, rfl⟩
  go_wp2_with fail
  refine g4.out.mono ?_; rintro e w' ⟨rfl, rfl⟩
  go_wp2_with fail
  refine g5.out.mono ?_; rintro e w' ⟨rfl, rfl⟩
  go_wp2_with fail
  refine g6.out.mono ?_; rintro e w' ⟨rfl, rfl⟩
  go_wp2_with fail
  refine g3.out.mono ?_; rintro e w' ⟨rfl, rfl⟩
  go_wp2_with fail
  go_ret
  exact ⟨rfl, rfl⟩

-- .. and there is a place so many bytes further.
set_option maxHeartbeats 800000 in
theorem placeOn_in (a b n : Int) (w : World) (s o : Nat) (ha : part? a.toNat = some s) (hb : part? b.toNat = some o) (h0 : -2147483647 ≤ n) (h1 : n ≤ 2147483647) (hr0 : 0 ≤ (o : Int) + n) (hr1 : (o : Int) + n ≤ 2147483647) :
    Gives 8 #[.int .u64 a, .int .u64 b, i64 n] w (.bool true) := by
  have ha2 := part_of ha
  have hb2 := part_of hb
  have ls := ha2.2
  have lo := hb2.2
  have ez : ((((o : Int) + n).toNat : Nat) : Int) = (o : Int) + n := by omega
  have hon := on_in (n := n) w ha hb (by omega) (by omega)
  rw [if_pos (by omega)] at hon
  have ps : part? (near s) = some s := part_some (nearest_Whole ls)
  have po : part? (near (o + n)) = some ((o : Int) + n).toNat := by
    have := part_some (nearest_Whole (n := ((o : Int) + n).toNat) (by omega))
    rwa [ez] at this
  have hback := on_in (n := -n) w ps po (by omega) (by omega)
  rw [ez, if_pos (by omega), show (o : Int) + n + -n = o from by omega] at hback
  have g0 := Lib.hid (at_gives a b w)
  have g1 := Lib.hid hon
  have hr2 := right_any a.toNat b.toNat w
  rw [ha, hb, show ((some s).isSome && (some o).isSome) = true from rfl] at hr2
  have g2 := Lib.hid hr2
  have g3 := Lib.hid (fixed2 w)
  have g4 := Lib.hid (sector_in (b := b.toNat) w ha)
  have g5 := Lib.hid (offset_in (a := a.toNat) w hb)
  have g6 := Lib.hid (rof_in s (o + n) w (by omega) (by omega) (by omega) (by omega))
  have g7 := Lib.hid hback
  have e1 : (FloatKind.f64.format.order (near s) a.toNat == some Ordering.eq) = true := eqF_same (nearest_int s (by omega)) ha2.1
  have e2 : (FloatKind.f64.format.order (near o) b.toNat == some Ordering.eq) = true := eqF_same (nearest_int o (by omega)) hb2.1
  have v1 := nearest_int s (by omega)
  have v2 := nearest_int ((o : Int) + n).toNat (by omega)
  rw [ez] at v2
  have e5 : (FloatKind.f64.format.order (near s) (near s) == some Ordering.eq) = true := eqF_same v1 v1
  have e6 : (FloatKind.f64.format.order (near (o + n)) (near (o + n)) == some Ordering.eq) = true := eqF_same v2 v2
  have e7 : ¬ (o : Int) + n < 0 := by omega
  clear ha hb hr2 hon hback ps po v1 v2 ha2 hb2 ez
  generalize a.toNat = x at g0 g1 g2 g4 g5 e1
  generalize b.toNat = y at g0 g1 g2 g4 g5 e2
  cases hq : (FloatKind.f64.format.order (near s) 0 == some Ordering.eq && FloatKind.f64.format.order (near (o + n)) 0 == some Ordering.eq)
  all_goals
    go_enter Try.func8, Try.ntmps8
    go_wp2_with fail
    refine g0.out.mono ?_; rintro e w' ⟨rfl, rfl⟩
    go_wp2_with fail
    refine g1.out.mono ?_; rintro e w' ⟨rfl, rfl⟩
    go_wp2_with fail
    refine g2.out.mono ?_; rintro e w' ⟨rfl, rfl⟩
    go_wp2_with fail
    refine g4.out.mono ?_; rintro e w' ⟨rfl, rfl⟩
    go_wp2_with fail
    refine g5.out.mono ?_; rintro e w' ⟨rfl, rfl⟩
    go_wp2_with fail
    refine g6.out.mono ?_; rintro e w' ⟨rfl, rfl⟩
    go_wp2_with fail
  · refine g5.out.mono ?_; rintro e w' ⟨rfl, rfl⟩
    go_wp2_with fail
    refine g3.out.mono ?_; rintro e w' ⟨rfl, rfl⟩
    go_wp2_with fail
    refine g7.out.mono ?_; rintro e w' ⟨rfl, rfl⟩
    go_wp2_with fail
    go_ret
    exact ⟨rfl, rfl⟩
  · refine g3.out.mono ?_; rintro e w' ⟨rfl, rfl⟩
    go_wp2_with fail
    go_ret
    exact ⟨rfl, rfl⟩

theorem placeOn_gives (a b n : Int) (w : World) : Gives 8 #[.int .u64 a, .int .u64 b, i64 n] w (.bool true) := by
  cases ha : part? a.toNat with
  | none => exact placeOn_no a b n w (.inl ha)
  | some s =>
    cases hb : part? b.toNat with
    | none => exact placeOn_no a b n w (.inr hb)
    | some o =>
      have lo := part_le hb
      by_cases h : n < -2147483648 ∨ 2147483648 < n
      · exact placeOn_far a b n w s o ha hb h
      · by_cases hr : (o : Int) + n < 0 ∨ 2147483647 < (o : Int) + n
        · exact placeOn_none a b n w s o ha hb (by omega) (by omega) hr
        · exact placeOn_in a b n w s o ha hb (by omega) (by omega) (by omega) (by omega)

set_option maxRecDepth 100000 in
theorem placeOn_law : LawCalls 8 Try.f8 := by
  intro H enc W base args ds p hval hA hsz hfz
  rw [Try.params8] at hA hval hsz
  obtain ⟨v0, vs0, d0, ds0, p0, q0, hargs, rfl, rfl, h0, r0⟩ := trodAll_cons hA
  obtain ⟨v1, vs1, d1, ds1, p1, q1, rfl, rfl, rfl, h1, r1⟩ := trodAll_cons r0
  obtain ⟨v2, vs2, d2, ds2, p2, q2, rfl, rfl, rfl, h2, r2⟩ := trodAll_cons r1
  obtain ⟨rfl, rfl, rfl⟩ := trodAll_nil r2
  obtain rfl : args = #[v0, v1, v2] := by cases args; simp_all
  obtain ⟨a, rfl, rfl, rfl, wa⟩ := open_int Try.underlying28 (hval 0 28 v0 rfl rfl) h0
  obtain ⟨b, rfl, rfl, rfl, wb⟩ := open_int Try.underlying28 (hval 1 28 v1 rfl rfl) h1
  obtain ⟨n, rfl, rfl, rfl, wn⟩ := open_int Try.underlying3 (hval 2 3 v2 rfl rfl) h2
  exact (placeOn_gives a b n W).mono fun e W' ⟨he, hw⟩ => ⟨he, by subst hw; exact Below.refl _ _⟩

set_option maxRecDepth 100000 in
theorem PlaceOn_holds : Rows.PlaceOnSaid :=
  OpenClaim.holds_of_wide 8 Try.f8 rfl rfl rfl rfl rfl rfl rfl ⟨rfl, rfl, rfl, rfl, rfl⟩ rfl rfl rfl rfl rfl (by kernel_rfl) Try.func8 (by kernel_rfl)
    (of_decide_eq_true (by kernel_rfl)) (by unfold Func.isWrapper; first | (rw [if_pos (by decide +kernel)]; kernel_rfl) | (rw [if_neg (by decide +kernel)]; exact ⟨rfl, rfl⟩))
    (fun os started H enc _ => law_lifted (fn := Try.f8) (spec := Rows.placeOnSpec) Try.func8 (by kernel_rfl) rfl rfl Try.underlying4 (of_decide_eq_true (by kernel_rfl))
      (k := 3) (by kernel_rfl) (fun H ds h => by match ds, h with | [_, _, _], _ => rfl) os started H enc
      (ChangeSpec.witness6 (enc := enc) (C := Try.checked) false ⟨#[], #[.int .u64 0, .int .u64 0, .int .i64 0], []⟩ 8 (by kernel_rfl) (by kernel_rfl) (by kernel_rfl) (by kernel_rfl)) placeOn_law)
#print axioms PlaceOn_holds
end Go.Proofs.Ytbbiohgillhmnaa
