/- What the functions of package place, of its reference and of its laws' helpers come to: contracts. -/
import Derived.Test.YtnmeaminfoopmaaGreatDoorRows
import Derived.Test.YtnmeaminfoopmaaGreatDoorFlo
import Derived.WalkKit
import Derived.WalkSpells
import Derived.Lib.Hide
import Derived.WalkLawsBesides
namespace Go.Proofs.YtnmeaminfoopmaaGreatDoor
open Go.RowKit Flo

/-- A call that comes back with v and leaves the world as it was. -/
abbrev Gives (f : FuncId) (args : Array Value) (w : World) (v : Value) : Prop := Calls Tryz.prog f args w fun e w' => e = .returned v ∧ w' = w

abbrev i64 (n : Int) : Value := .int .i64 n
abbrev cx (a b : Nat) : Value := .complex .f64 a b
abbrev near (n : Int) : Nat := floatOfInt .f64 n
def eqF (x y : Nat) : Bool := FloatKind.f64.format.order x y == some Ordering.eq

theorem eqF_same {x y : Nat} {v : Int} (hx : V x = some v) (hy : V y = some v) : eqF x y = true := by
  have := eqv hx hy; simp only [decide_true] at this; exact this
theorem eqF_not {x y : Nat} {v u : Int} (hx : V x = some v) (hy : V y = some u) (h : v ≠ u) : eqF x y = false := by
  have := eqv hx hy; simp only [h, decide_false] at this; exact this

/-! ### place.whole -/
set_option maxHeartbeats 400000 in
theorem whole_lo (x : Nat) (w : World) (h : ge0 x = false) : Gives 115 #[.float .f64 x] w (.tuple #[i64 0, .bool false]) := by
  have h1 : (FloatKind.f64.format.order x 0 == some Ordering.gt || FloatKind.f64.format.order x 0 == some Ordering.eq) = false := h
  clear h
  go_enter Tryz.func115, Tryz.ntmps115
  go_wp2
  go_ret2
  exact ⟨rfl, rfl⟩

set_option maxHeartbeats 400000 in
set_option maxRecDepth 100000 in
theorem whole_hi (x : Nat) (w : World) (h : ge0 x = true) (h2 : leTop x = false) : Gives 115 #[.float .f64 x] w (.tuple #[i64 0, .bool false]) := by
  have h1 : (FloatKind.f64.format.order x 0 == some Ordering.gt || FloatKind.f64.format.order x 0 == some Ordering.eq) = true := h
  have h3 : (FloatKind.f64.format.order x 4746794007244308480 == some Ordering.lt || FloatKind.f64.format.order x 4746794007244308480 == some Ordering.eq) = false := h2
  clear h h2
  go_enter Tryz.func115, Tryz.ntmps115
  go_wp2
  go_ret2
  exact ⟨rfl, rfl⟩

set_option maxHeartbeats 400000 in
set_option maxRecDepth 100000 in
theorem whole_in (x : Nat) (w : World) (c : Int) (b : Bool) (h : ge0 x = true) (h2 : leTop x = true) (hc : floatToIntVal .f64 x .i64 = some c) (hb : eqF (near c) x = b) :
    Gives 115 #[.float .f64 x] w (.tuple #[i64 c, .bool b]) := by
  have h1 : (FloatKind.f64.format.order x 0 == some Ordering.gt || FloatKind.f64.format.order x 0 == some Ordering.eq) = true := h
  have h3 : (FloatKind.f64.format.order x 4746794007244308480 == some Ordering.lt || FloatKind.f64.format.order x 4746794007244308480 == some Ordering.eq) = true := h2
  have h4 := run_convert_float_int (P := Tryz.prog) w 164 3 .f64 .i64 x c (by kernel_rfl) Tryz.underlying3 hc
  have h5 := Lib.hid hb
  clear h h2 hc hb
  go_enter Tryz.func115, Tryz.ntmps115
  go_wp2
  go_ret2
  rw [← h5.out]
  exact ⟨rfl, rfl⟩

/-- place.whole, of a part. -/
theorem whole_yes {x n : Nat} (w : World) (h : part? x = some n) : Gives 115 #[.float .f64 x] w (.tuple #[i64 n, .bool true]) := by
  obtain ⟨h1, h2, _, h4, h5⟩ := (part_of h).range
  exact whole_in x w n true h1 h2 h4 h5

/-- place.whole, of no part: some number, and false. -/
theorem whole_no {x : Nat} (w : World) (h : part? x = none) : ∃ c, Gives 115 #[.float .f64 x] w (.tuple #[i64 c, .bool false]) := by
  rcases not_whole h with h1 | ⟨h1, h2, _⟩ | ⟨h1, h2, _, ⟨c, _, _, h3, h4⟩, _⟩
  · exact ⟨0, whole_lo x w h1⟩
  · exact ⟨0, whole_hi x w h1 h2⟩
  · exact ⟨c, whole_in x w c false h1 h2 h3 h4⟩

/-! ### place.Parts -/
set_option maxHeartbeats 400000 in
theorem parts_walk (a b : Nat) (w : World) (s o : Int) (x y : Bool) (h1 : Gives 115 #[.float .f64 a] w (.tuple #[i64 s, .bool x])) (h2 : Gives 115 #[.float .f64 b] w (.tuple #[i64 o, .bool y])) :
    Gives 66 #[cx a b] w (.tuple #[i64 (if x && y then s else 0), i64 (if x && y then o else 0), .bool (x && y)]) := by
  have g1 := Lib.hid h1
  have g2 := Lib.hid h2
  clear h1 h2
  cases x <;> cases y
  all_goals
    go_enter Tryz.func66, Tryz.ntmps66
    go_wp2_with fail
    refine g1.out.mono ?_; rintro e w' ⟨rfl, rfl⟩
    go_wp2_with fail
    refine g2.out.mono ?_; rintro e w' ⟨rfl, rfl⟩
    go_wp2_with fail
    go_ret3
    exact ⟨rfl, rfl⟩

theorem parts_yes {a b s o : Nat} (w : World) (ha : part? a = some s) (hb : part? b = some o) : Gives 66 #[cx a b] w (.tuple #[i64 s, i64 o, .bool true]) :=
  parts_walk a b w s o true true (whole_yes w ha) (whole_yes w hb)

theorem parts_no {a b : Nat} (w : World) (h : part? a = none ∨ part? b = none) : Gives 66 #[cx a b] w (.tuple #[i64 0, i64 0, .bool false]) := by
  have hw : ∀ x, ∃ c y, (y = true → part? x ≠ none) ∧ Gives 115 #[.float .f64 x] w (.tuple #[i64 c, .bool y]) := by
    intro x
    cases hx : part? x with
    | none => obtain ⟨c, hc⟩ := whole_no w hx; exact ⟨c, false, by simp, hc⟩
    | some n => exact ⟨n, true, by simp, whole_yes w hx⟩
  obtain ⟨s, x, hx, h1⟩ := hw a
  obtain ⟨o, y, hy, h2⟩ := hw b
  have hxy : (x && y) = false := by
    rcases h with h | h
    · cases x
      · rfl
      · exact absurd h (hx rfl)
    · cases y
      · simp
      · exact absurd h (hy rfl)
  have := parts_walk a b w s o x y h1 h2
  rw [hxy] at this
  exact this

/-! ### place.Of, and the reference's -/
set_option maxHeartbeats 400000 in
theorem of_in (a b : Int) (w : World) (h0 : 0 ≤ a) (h1 : a ≤ 2147483647) (h2 : 0 ≤ b) (h3 : b ≤ 2147483647) : Gives 56 #[i64 a, i64 b] w (cx (near a) (near b)) := by
  go_enter Tryz.func56, Tryz.ntmps56
  go_wp2
  go_ret
  exact ⟨rfl, rfl⟩

set_option maxHeartbeats 400000 in
theorem of_out (a b : Int) (w : World) (h : a < 0 ∨ 2147483647 < a ∨ b < 0 ∨ 2147483647 < b) : Gives 56 #[i64 a, i64 b] w (cx 0 0) := by
  by_cases h0 : a < 0
  · clear h
    go_enter Tryz.func56, Tryz.ntmps56
    go_wp2
    go_ret
    exact ⟨rfl, rfl⟩
  · by_cases h1 : 2147483647 < a
    · clear h
      go_enter Tryz.func56, Tryz.ntmps56
      go_wp2
      go_ret
      exact ⟨rfl, rfl⟩
    · by_cases h2 : b < 0
      · clear h
        go_enter Tryz.func56, Tryz.ntmps56
        go_wp2
        go_ret
        exact ⟨rfl, rfl⟩
      · have h3 : 2147483647 < b := by omega
        clear h
        go_enter Tryz.func56, Tryz.ntmps56
        go_wp2
        go_ret
        exact ⟨rfl, rfl⟩

set_option maxHeartbeats 400000 in
theorem rof_in (a b : Int) (w : World) (h0 : 0 ≤ a) (h1 : a ≤ 2147483647) (h2 : 0 ≤ b) (h3 : b ≤ 2147483647) : Gives 106 #[i64 a, i64 b] w (cx (near a) (near b)) := by
  go_enter Tryz.func106, Tryz.ntmps106
  go_wp2
  go_ret
  exact ⟨rfl, rfl⟩

set_option maxHeartbeats 400000 in
theorem rof_out (a b : Int) (w : World) (h : a < 0 ∨ 2147483647 < a ∨ b < 0 ∨ 2147483647 < b) : Gives 106 #[i64 a, i64 b] w (cx 0 0) := by
  by_cases h0 : a < 0
  · clear h
    go_enter Tryz.func106, Tryz.ntmps106
    go_wp2
    go_ret
    exact ⟨rfl, rfl⟩
  · by_cases h1 : b < 0
    · clear h
      go_enter Tryz.func106, Tryz.ntmps106
      go_wp2
      go_ret
      exact ⟨rfl, rfl⟩
    · by_cases h2 : 2147483647 < a
      · clear h
        go_enter Tryz.func106, Tryz.ntmps106
        go_wp2
        go_ret
        exact ⟨rfl, rfl⟩
      · have h3 : 2147483647 < b := by omega
        clear h
        go_enter Tryz.func106, Tryz.ntmps106
        go_wp2
        go_ret
        exact ⟨rfl, rfl⟩

/-! ### place.On -/
/-! ### flintref02: Right, Sector, Offset -/
theorem ext_floor {x : Nat} (w : World) {s : Bool} {m : Nat} {e : Int} (h : Ieee.double.read x = .number s m e) :
    (callFunc 191 #[.float .f64 x]).run Tryz.prog w = .ok (.value (.float .f64 (Ieee.double.write ((Ieee.Datum.number s m e).integral .down)))) w := by
  rw [run_callFunc_extern (e := Extern.MathFloor.toIntegral "math.archFloor" .down) Tryz.func191 (by kernel_rfl) (by kernel_rfl) (by kernel_rfl) (by kernel_rfl)]
  have h2 : FloatKind.f64.decode x = .number s m e := h
  have h3 : Extern.MathFloor.toIntegral "math.archFloor" .down #[.float .f64 x] = pure (.float .f64 (FloatKind.f64.encode ((Ieee.Datum.number s m e).integral .down))) := by
    have e1 : ∀ d, FloatKind.f64.decode x = d → d = .number s m e → Extern.MathFloor.toIntegral "math.archFloor" .down #[.float .f64 x] = pure (.float .f64 (FloatKind.f64.encode ((Ieee.Datum.number s m e).integral .down))) := by
      intro d hd h5
      subst h5
      show Extern.MathFloor.toIntegral.match_1 (fun _ => Sem Value) (FloatKind.f64.decode x) _ _ = _
      rw [hd]
    exact e1 _ rfl h2
  rw [h3]
  rfl

set_option maxHeartbeats 400000 in
set_option maxRecDepth 100000 in
theorem floor_gives {x : Nat} (w : World) {s : Bool} {m : Nat} {e : Int} (h : Ieee.double.read x = .number s m e) :
    Gives 175 #[.float .f64 x] w (.float .f64 (Ieee.double.write ((Ieee.Datum.number s m e).integral .down))) := by
  have hx := ext_floor w h
  generalize Ieee.double.write ((Ieee.Datum.number s m e).integral .down) = r at hx ⊢
  clear h
  go_enter Tryz.func175, Tryz.ntmps175
  go_wp2
  go_ret
  exact ⟨rfl, rfl⟩

set_option maxHeartbeats 400000 in
set_option maxRecDepth 100000 in
theorem rpart_lo (x : Nat) (w : World) (h : ge0 x = false ∨ (ge0 x = true ∧ ltOver x = false)) : Gives 152 #[.float .f64 x] w (.bool false) := by
  rcases h with h | ⟨h, h2⟩
  · have h1 : (FloatKind.f64.format.order x 0 == some Ordering.gt || FloatKind.f64.format.order x 0 == some Ordering.eq) = false := h
    clear h
    go_enter Tryz.func152, Tryz.ntmps152
    go_wp2
    go_ret
    exact ⟨rfl, rfl⟩
  · have h1 : (FloatKind.f64.format.order x 0 == some Ordering.gt || FloatKind.f64.format.order x 0 == some Ordering.eq) = true := h
    have h3 : (FloatKind.f64.format.order x 4746794007248502784 == some Ordering.lt) = false := h2
    clear h h2
    go_enter Tryz.func152, Tryz.ntmps152
    go_wp2
    go_ret
    exact ⟨rfl, rfl⟩

set_option maxHeartbeats 400000 in
set_option maxRecDepth 100000 in
theorem rpart_in (x : Nat) (w : World) (h : ge0 x = true) (h2 : ltOver x = true) {s : Bool} {m : Nat} {e : Int} (hr : Ieee.double.read x = .number s m e) :
    Gives 152 #[.float .f64 x] w (.bool (eqF (Ieee.double.write ((Ieee.Datum.number s m e).integral .down)) x)) := by
  have h1 : (FloatKind.f64.format.order x 0 == some Ordering.gt || FloatKind.f64.format.order x 0 == some Ordering.eq) = true := h
  have h3 : (FloatKind.f64.format.order x 4746794007248502784 == some Ordering.lt) = true := h2
  have g := Lib.hid (floor_gives w hr)
  clear h h2 hr
  generalize Ieee.double.write ((Ieee.Datum.number s m e).integral .down) = r at g ⊢
  go_enter Tryz.func152, Tryz.ntmps152
  go_wp2_with (go_at_call 175; refine g.out.mono ?_; rintro e w' ⟨rfl, rfl⟩)
  go_ret
  exact ⟨rfl, rfl⟩

theorem rpart_yes {x n : Nat} (w : World) (h : part? x = some n) : Gives 152 #[.float .f64 x] w (.bool true) := by
  have hw := part_of h
  obtain ⟨h1, h2, h3, _, _⟩ := hw.range
  have hu := unit_pos
  have hn := hw.2
  have l1 : (n : Int) * unit < 2147483648 * unit := Int.mul_lt_mul_of_pos_right (by omega) hu
  obtain ⟨s, m, e, hr, hf⟩ := floor_num hw.1 (Int.mul_nonneg (by omega) (by omega)) l1
  have := rpart_in x w h1 h3 hr
  rw [eqF_same hf (by rw [hw.1, Int.mul_ediv_cancel _ (by omega)])] at this
  exact this

theorem rpart_no {x : Nat} (w : World) (h : part? x = none) : Gives 152 #[.float .f64 x] w (.bool false) := by
  rcases not_whole h with h1 | ⟨h1, _, h2 | ⟨h2, s, m, e, hr, hf⟩⟩ | ⟨h1, _, h2, _, s, m, e, hr, hf⟩
  · exact rpart_lo x w (.inl h1)
  · exact rpart_lo x w (.inr ⟨h1, h2⟩)
  · have := rpart_in x w h1 h2 hr
    rw [show eqF (Ieee.double.write ((Ieee.Datum.number s m e).integral .down)) x = false from hf] at this
    exact this
  · have := rpart_in x w h1 h2 hr
    rw [show eqF (Ieee.double.write ((Ieee.Datum.number s m e).integral .down)) x = false from hf] at this
    exact this

theorem rpart_any (x : Nat) (w : World) : Gives 152 #[.float .f64 x] w (.bool (part? x).isSome) := by
  cases h : part? x with
  | none => exact rpart_no w h
  | some n => exact rpart_yes w h

set_option maxHeartbeats 400000 in
theorem right_any (a b : Nat) (w : World) : Gives 110 #[cx a b] w (.bool ((part? a).isSome && (part? b).isSome)) := by
  have g1 := Lib.hid (rpart_any a w)
  have g2 := Lib.hid (rpart_any b w)
  generalize (part? a).isSome = x at g1 ⊢
  generalize (part? b).isSome = y at g2 ⊢
  cases x
  · go_enter Tryz.func110, Tryz.ntmps110
    go_wp2_with fail
    refine g1.out.mono ?_; rintro e w' ⟨rfl, rfl⟩
    go_wp2_with fail
    go_ret
    exact ⟨rfl, rfl⟩
  · go_enter Tryz.func110, Tryz.ntmps110
    go_wp2_with fail
    refine g1.out.mono ?_; rintro e w' ⟨rfl, rfl⟩
    go_wp2_with fail
    refine g2.out.mono ?_; rintro e w' ⟨rfl, rfl⟩
    go_wp2_with fail
    go_ret
    exact ⟨rfl, rfl⟩

set_option maxHeartbeats 400000 in
theorem sector_in {a b s : Nat} (w : World) (h : part? a = some s) : Gives 111 #[cx a b] w (i64 s) := by
  have hc := run_convert_float_int (P := Tryz.prog) w 164 3 .f64 .i64 a s (by kernel_rfl) Tryz.underlying3 (part_of h).range.2.2.2.1
  clear h
  go_enter Tryz.func111, Tryz.ntmps111
  go_wp2
  go_ret
  exact ⟨rfl, rfl⟩

set_option maxHeartbeats 400000 in
theorem offset_in {a b o : Nat} (w : World) (h : part? b = some o) : Gives 112 #[cx a b] w (i64 o) := by
  have hc := run_convert_float_int (P := Tryz.prog) w 164 3 .f64 .i64 b o (by kernel_rfl) Tryz.underlying3 (part_of h).range.2.2.2.1
  clear h
  go_enter Tryz.func112, Tryz.ntmps112
  go_wp2
  go_ret
  exact ⟨rfl, rfl⟩

/-! ### the laws' helpers: fixed, At -/
theorem near3 : near 3 = 4613937818241073152 := by decide
theorem near40 : near 40 = 4630826316843712512 := by decide
theorem near42 : near 42 = 4631107791820423168 := by decide
theorem part3 : part? (near 3) = some 3 := part_some (nearest_Whole (n := 3) (by decide))
theorem part40 : part? (near 40) = some 40 := part_some (nearest_Whole (n := 40) (by decide))

theorem ext_from (a : Int) (w : World) : (callFunc 202 #[.int .u64 a]).run Tryz.prog w = .ok (.value (.float .f64 a.toNat)) w := by
  rw [run_callFunc_extern (e := Extern.MathFloatBits.float64frombits) Tryz.func202 (by kernel_rfl) (by kernel_rfl) (by kernel_rfl) (by kernel_rfl)]
  rfl

end Go.Proofs.YtnmeaminfoopmaaGreatDoor
