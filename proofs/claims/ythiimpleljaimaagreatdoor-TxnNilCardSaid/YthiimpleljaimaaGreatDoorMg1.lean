/- Small laws over any program: two arrays held against each other, and the like. -/
import Derived.WalkKit
import Derived.WalkSpells
import Derived.WalkLawsBesides
import Derived.Lib.Hide
import Derived.Test.YthiimpleljaimaaGreatDoorRows
import Derived.Test.YthiimpleljaimaaGreatDoorFlo
import Derived.Deep.QuietTactic
import Derived.BigQuiet
import Derived.Deep.DeepFit
namespace Go.Proofs.YthiimpleljaimaaGreatDoor.Base
open Go

section
variable {P : Program}

theorem run_part (w : World) {e : TypeId} (ha : (isAgg e).run P w = .ok false w) {xs : Array Value} {k : Nat} {x : Value} (hx : xs[k]? = some x) : (part e xs k).run P w = .ok x w := by
  unfold part
  simp only [Sem.run_bind, ha, Result.andThen_ok, Bool.false_eq_true, if_false, hx, Sem.run_pure]

/-- Two arrays of elements of one cell: element by element. -/
theorem run_equalIn_array (w : World) (d : Nat) {t e : TypeId} {n : Nat} {i : TypeInfo} (ht : P.underlying t = some (.array n e)) (hi : P.info? e = some i) (hsz : i.size = 1)
    (ha : (isAgg e).run P w = .ok false w) (xs ys : Array Value) (b : Nat → Bool)
    (hb : ∀ k, k < n → ∃ x y, xs[k]? = some x ∧ ys[k]? = some y ∧ (Op.equalIn d e x y).run P w = .ok (b k) w) :
    (Op.equalIn (d + 1) t (.agg xs) (.agg ys)).run P w = .ok ((List.range n).all b) w := by
  have hsize : (sizeOf e).run P w = .ok 1 w := by simp [sizeOf, typeInfo, hi, hsz]
  simp only [Op.equalIn, Sem.run_bind, run_underlying ht, Result.andThen_ok, hsize, Std.Legacy.Range.forIn_eq_forIn_range', Nat.mul_one]
  have key : ∀ l : List Nat, (∀ k ∈ l, k < n) →
      ((forIn l ((none, ()) : Option Bool × Unit) fun i r => do
          let a ← part e xs i
          let a_1 ← part e ys i
          let a ← Op.equalIn d e a a_1
          if (!a) = true then pure (ForInStep.done (some false, ())) else pure (ForInStep.yield (none, ()))) : Sem _).run P w = .ok (if l.all b then (none, ()) else (some false, ())) w := by
    intro l
    induction l with
    | nil => intro _; simp
    | cons k l ih =>
      intro hl
      obtain ⟨x, y, hx, hy, he⟩ := hb k (hl k (by simp))
      simp only [List.forIn_cons, Sem.run_bind, run_part w ha hx, run_part w ha hy, he, Result.andThen_ok, List.all_cons]
      by_cases hbk : b k = true
      · simp only [hbk, Bool.not_true, Bool.false_eq_true, if_false, Sem.run_pure, Result.andThen_ok, Bool.true_and]
        exact ih (fun k h => hl k (by simp [h]))
      · have hbf : b k = false := by simpa using hbk
        simp only [hbf, Bool.not_false, if_true, Sem.run_pure, Result.andThen_ok, Bool.false_and, Bool.false_eq_true, if_false]
  have hl : List.range' 0 n = List.range n := (List.range_eq_range').symm
  have hsz2 : [:n].size = n := by simp [Std.Legacy.Range.size]
  rw [hsz2, hl, key _ (fun k hk => List.mem_range.1 hk)]
  cases (List.range n).all b <;> simp

theorem isAgg_int (w : World) {e : TypeId} {k : IntKind} (h : P.underlying e = some (.int k)) : (isAgg e).run P w = .ok false w := by simp [isAgg, run_underlying h]
theorem isAgg_string (w : World) {e : TypeId} (h : P.underlying e = some .string) : (isAgg e).run P w = .ok false w := by simp [isAgg, run_underlying h]

/-- '==' on two arrays of integers. -/
theorem run_eql_ints (w : World) {t e : TypeId} {n : Nat} {k : IntKind} (ht : P.underlying t = some (.array n e)) (hi0 : (P.info? e).map (·.size) = some 1)
    (he : P.underlying e = some (.int k)) (xs ys : List Int) (hx : xs.length = n) (hy : ys.length = n) :
    (Op.equalIn 10000 t (.agg (xs.map (Value.int k)).toArray) (.agg (ys.map (Value.int k)).toArray)).run P w = .ok (decide (xs = ys)) w := by
  obtain ⟨i, hi, hsz⟩ := Option.map_eq_some_iff.1 hi0
  have h := run_equalIn_array w 9999 ht hi hsz (isAgg_int w he) (xs.map (Value.int k)).toArray (ys.map (Value.int k)).toArray (fun j => xs[j]! == ys[j]!) ?_
  · rw [h]
    congr 1
    rw [Bool.eq_iff_iff, List.all_eq_true, decide_eq_true_iff]
    constructor
    · intro g
      refine List.ext_getElem (hx.trans hy.symm) fun j h1 h2 => ?_
      have := g j (List.mem_range.2 (by omega))
      simpa [h1, h2] using this
    · intro g j hj
      rw [g]; simp
  · intro j hj
    refine ⟨.int k xs[j]!, .int k ys[j]!, ?_, ?_, ?_⟩
    · simp [show j < xs.length from by omega]
    · simp [show j < ys.length from by omega]
    · exact run_equalIn_int w _ e k k _ _ he
end

/-! ### 'Below' from a world's own size on: no side condition -/
open Go.RowKit
theorem al {a w : World} (h : Below a.heap.size a w) (o : Obj) : Below a.heap.size a (w.alloc o) := h.alloc h.size o
theorem dr {a w : World} (h : Below a.heap.size a w) : Below a.heap.size a w.drew := h.drew
theorem dn {a w : World} (h : Below a.heap.size a w) (n : Nat) : Below a.heap.size a (w.drewN n) := h.trans ⟨rfl, rfl, rfl, Nat.le_refl _, fun _ _ => rfl⟩
theorem tr {a w v : World} (h : Below a.heap.size a w) (g : Below w.heap.size w v) : Below a.heap.size a v := h.trans (g.mono h.size)
theorem trb {a w v : World} {B : Nat} (h : Below a.heap.size a w) (g : Below B w v) (hB : a.heap.size ≤ B) : Below a.heap.size a v := h.trans (g.mono hB)
theorem gr {a w v : World} {row : Option Nat} (h : Below a.heap.size a w) (hg : w.grownBy v row) (hr : ∀ k, row = some k → a.heap.size ≤ k) : Below a.heap.size a v := h.grown hg h.size hr
end Go.Proofs.YthiimpleljaimaaGreatDoor.Base

/- What the functions of package place, of its reference and of its laws' helpers come to: contracts. -/
namespace Go.Proofs.YthiimpleljaimaaGreatDoor
open Go.RowKit Flo

/-- A call that comes back with v and leaves the world as it was. -/
abbrev Gives (f : FuncId) (args : Array Value) (w : World) (v : Value) : Prop := Calls Tryz.prog f args w fun e w' => e = .returned v ∧ w' = w

abbrev i64 (n : Int) : Value := .int .i64 n
abbrev cx (a b : Nat) : Value := .complex .f64 a b
abbrev near (n : Int) : Nat := floatOfInt .f64 n
def eqF (x y : Nat) : Bool := FloatKind.f64.format.order x y == some Ordering.eq

theorem eqF_same {x y : Nat} {v : Int} (hx : V x = some v) (hy : V y = some v) : eqF x y = true := by
  have := eqv hx hy; simp only [decide_true] at this; exact this
theorem eqF_not {x y : Nat} {v u : Int} (hx : V x = some v) (hy : V y = some u) (h : v ≠ u) : eqF x y = false := by
  have := eqv hx hy; simp only [h, decide_false] at this; exact this

/-! ### place.whole -/
set_option maxHeartbeats 400000 in
theorem whole_lo (x : Nat) (w : World) (h : ge0 x = false) : Gives 120 #[.float .f64 x] w (.tuple #[i64 0, .bool false]) := by
  have h1 : (FloatKind.f64.format.order x 0 == some Ordering.gt || FloatKind.f64.format.order x 0 == some Ordering.eq) = false := h
  clear h
  go_enter Tryz.func120, Tryz.ntmps120
  go_wp2
  go_ret2
  exact ⟨rfl, rfl⟩

set_option maxHeartbeats 400000 in
set_option maxRecDepth 100000 in
theorem whole_hi (x : Nat) (w : World) (h : ge0 x = true) (h2 : leTop x = false) : Gives 120 #[.float .f64 x] w (.tuple #[i64 0, .bool false]) := by
  have h1 : (FloatKind.f64.format.order x 0 == some Ordering.gt || FloatKind.f64.format.order x 0 == some Ordering.eq) = true := h
  have h3 : (FloatKind.f64.format.order x 4746794007244308480 == some Ordering.lt || FloatKind.f64.format.order x 4746794007244308480 == some Ordering.eq) = false := h2
  clear h h2
  go_enter Tryz.func120, Tryz.ntmps120
  go_wp2
  go_ret2
  exact ⟨rfl, rfl⟩

set_option maxHeartbeats 400000 in
set_option maxRecDepth 100000 in
theorem whole_in (x : Nat) (w : World) (c : Int) (b : Bool) (h : ge0 x = true) (h2 : leTop x = true) (hc : floatToIntVal .f64 x .i64 = some c) (hb : eqF (near c) x = b) :
    Gives 120 #[.float .f64 x] w (.tuple #[i64 c, .bool b]) := by
  have h1 : (FloatKind.f64.format.order x 0 == some Ordering.gt || FloatKind.f64.format.order x 0 == some Ordering.eq) = true := h
  have h3 : (FloatKind.f64.format.order x 4746794007244308480 == some Ordering.lt || FloatKind.f64.format.order x 4746794007244308480 == some Ordering.eq) = true := h2
  have h4 := run_convert_float_int (P := Tryz.prog) w 231 3 .f64 .i64 x c (by kernel_rfl) Tryz.underlying3 hc
  have h5 := Lib.hid hb
  clear h h2 hc hb
  go_enter Tryz.func120, Tryz.ntmps120
  go_wp2
  go_ret2
  rw [← h5.out]
  exact ⟨rfl, rfl⟩

/-- place.whole, of a part. -/
theorem whole_yes {x n : Nat} (w : World) (h : part? x = some n) : Gives 120 #[.float .f64 x] w (.tuple #[i64 n, .bool true]) := by
  obtain ⟨h1, h2, _, h4, h5⟩ := (part_of h).range
  exact whole_in x w n true h1 h2 h4 h5

/-- place.whole, of no part: some number, and false. -/
theorem whole_no {x : Nat} (w : World) (h : part? x = none) : ∃ c, Gives 120 #[.float .f64 x] w (.tuple #[i64 c, .bool false]) := by
  rcases not_whole h with h1 | ⟨h1, h2, _⟩ | ⟨h1, h2, _, ⟨c, _, _, h3, h4⟩, _⟩
  · exact ⟨0, whole_lo x w h1⟩
  · exact ⟨0, whole_hi x w h1 h2⟩
  · exact ⟨c, whole_in x w c false h1 h2 h3 h4⟩

/-! ### place.Parts -/
set_option maxHeartbeats 400000 in
theorem parts_walk (a b : Nat) (w : World) (s o : Int) (x y : Bool) (h1 : Gives 120 #[.float .f64 a] w (.tuple #[i64 s, .bool x])) (h2 : Gives 120 #[.float .f64 b] w (.tuple #[i64 o, .bool y])) :
    Gives 85 #[cx a b] w (.tuple #[i64 (if x && y then s else 0), i64 (if x && y then o else 0), .bool (x && y)]) := by
  have g1 := Lib.hid h1
  have g2 := Lib.hid h2
  clear h1 h2
  cases x <;> cases y
  all_goals
    go_enter Tryz.func85, Tryz.ntmps85
    go_wp2_with fail
    refine g1.out.mono ?_; rintro e w' ⟨rfl, rfl⟩
    go_wp2_with fail
    refine g2.out.mono ?_; rintro e w' ⟨rfl, rfl⟩
    go_wp2_with fail
    go_ret3
    exact ⟨rfl, rfl⟩

theorem parts_yes {a b s o : Nat} (w : World) (ha : part? a = some s) (hb : part? b = some o) : Gives 85 #[cx a b] w (.tuple #[i64 s, i64 o, .bool true]) :=
  parts_walk a b w s o true true (whole_yes w ha) (whole_yes w hb)

theorem parts_no {a b : Nat} (w : World) (h : part? a = none ∨ part? b = none) : Gives 85 #[cx a b] w (.tuple #[i64 0, i64 0, .bool false]) := by
  have hw : ∀ x, ∃ c y, (y = true → part? x ≠ none) ∧ Gives 120 #[.float .f64 x] w (.tuple #[i64 c, .bool y]) := by
    intro x
    cases hx : part? x with
    | none => obtain ⟨c, hc⟩ := whole_no w hx; exact ⟨c, false, by simp, hc⟩
    | some n => exact ⟨n, true, by simp, whole_yes w hx⟩
  obtain ⟨s, x, hx, h1⟩ := hw a
  obtain ⟨o, y, hy, h2⟩ := hw b
  have hxy : (x && y) = false := by
    rcases h with h | h
    · cases x
      · rfl
      · exact absurd h (hx rfl)
    · cases y
      · simp
      · exact absurd h (hy rfl)
  have := parts_walk a b w s o x y h1 h2
  rw [hxy] at this
  exact this

/-! ### place.Of, and the reference's -/
set_option maxHeartbeats 400000 in
theorem of_in (a b : Int) (w : World) (h0 : 0 ≤ a) (h1 : a ≤ 2147483647) (h2 : 0 ≤ b) (h3 : b ≤ 2147483647) : Gives 118 #[i64 a, i64 b] w (cx (near a) (near b)) := by
  go_enter Tryz.func118, Tryz.ntmps118
  go_wp2
  go_ret
  exact ⟨rfl, rfl⟩

set_option maxHeartbeats 400000 in
theorem of_out (a b : Int) (w : World) (h : a < 0 ∨ 2147483647 < a ∨ b < 0 ∨ 2147483647 < b) : Gives 118 #[i64 a, i64 b] w (cx 0 0) := by
  by_cases h0 : a < 0
  · clear h
    go_enter Tryz.func118, Tryz.ntmps118
    go_wp2
    go_ret
    exact ⟨rfl, rfl⟩
  · by_cases h1 : 2147483647 < a
    · clear h
      go_enter Tryz.func118, Tryz.ntmps118
      go_wp2
      go_ret
      exact ⟨rfl, rfl⟩
    · by_cases h2 : b < 0
      · clear h
        go_enter Tryz.func118, Tryz.ntmps118
        go_wp2
        go_ret
        exact ⟨rfl, rfl⟩
      · have h3 : 2147483647 < b := by omega
        clear h
        go_enter Tryz.func118, Tryz.ntmps118
        go_wp2
        go_ret
        exact ⟨rfl, rfl⟩

/-! ### place.On -/
/-! ### flintref02: Right, Sector, Offset -/
/-! ### the laws' helpers: fixed, At -/
theorem near3 : near 3 = 4613937818241073152 := by decide
theorem near40 : near 40 = 4630826316843712512 := by decide
theorem near42 : near 42 = 4631107791820423168 := by decide
theorem part3 : part? (near 3) = some 3 := part_some (nearest_Whole (n := 3) (by decide))
theorem part40 : part? (near 40) = some 40 := part_some (nearest_Whole (n := 40) (by decide))

end Go.Proofs.YthiimpleljaimaaGreatDoor

/- More of package place: Put, Get, Compare, and their references: contracts. -/
namespace Go.Proofs.YthiimpleljaimaaGreatDoor
open Go.RowKit Flo

abbrev u8 (n : Int) : Value := .int .u8 n
/-- A call that comes back with v; what was there is as it was. -/
abbrev Makes (f : FuncId) (args : Array Value) (w : World) (v : Value) : Prop := Calls Tryz.prog f args w fun e w' => e = .returned v ∧ Below w.heap.size w w'

/-- A call that comes back with v and has made one block. -/
abbrev Makes1 (f : FuncId) (args : Array Value) (w : World) (v : Value) (o : Obj) : Prop := Calls Tryz.prog f args w fun e w' => e = .returned v ∧ w' = w.alloc o
theorem Makes1.makes {f : FuncId} {args : Array Value} {w : World} {v : Value} {o : Obj} (h : Makes1 f args w v o) : Makes f args w v :=
  h.mono fun e w' ⟨he, hw⟩ => ⟨he, by subst hw; exact (Below.refl _ _).alloc (Nat.le_refl _) _⟩
abbrev bytes3 (a b c : Int) : Obj := .cells #[u8 a, u8 b, u8 c] 302

theorem Gives.makes {f : FuncId} {args : Array Value} {w : World} {v : Value} (h : Gives f args w v) : Makes f args w v :=
  h.mono fun e w' ⟨he, hw⟩ => ⟨he, by subst hw; exact Below.refl _ _⟩

/-! ### Put -/
set_option maxHeartbeats 400000 in
theorem put_in (a b : Nat) (s o : Nat) (w : World) (ha : part? a = some s) (hb : part? b = some o) (h1 : s < 255) (h2 : o < 65536) : Makes1 203 #[cx a b] w (.agg #[u8 s, u8 (o / 256), u8 (o % 256)]) (bytes3 s (o / 256) (o % 256)) := by
  have g : ∀ w, Hid (Gives 85 #[cx a b] w (.tuple #[i64 s, i64 o, .bool true])) := fun w => Lib.hid (parts_yes w ha hb)
  clear ha hb
  have e1 : (s : Int) ≤ 254 := by omega
  have e2 : (o : Int) ≤ 65535 := by omega
  go_enter Tryz.func203, Tryz.ntmps203
  go_wp2_with fail
  refine (g _).out.mono ?_; rintro e w' ⟨rfl, rfl⟩
  go_wp2_with fail
  exact bodyPost_ret (v := .agg #[u8 s, u8 (o / 256), u8 (o % 256)]) (by simp [results, Tryz.results203, go_sem]) rfl ⟨rfl, rfl⟩

set_option maxHeartbeats 400000 in
theorem put_far (a b : Nat) (s o : Nat) (w : World) (ha : part? a = some s) (hb : part? b = some o) (h : 254 < s ∨ 65535 < o) : Makes1 203 #[cx a b] w (.agg #[u8 255, u8 255, u8 255]) (bytes3 255 255 255) := by
  have g : ∀ w, Hid (Gives 85 #[cx a b] w (.tuple #[i64 s, i64 o, .bool true])) := fun w => Lib.hid (parts_yes w ha hb)
  clear ha hb
  by_cases h1 : (254 : Int) < s
  · clear h
    go_enter Tryz.func203, Tryz.ntmps203
    go_wp2_with fail
    refine (g _).out.mono ?_; rintro e w' ⟨rfl, rfl⟩
    go_wp2_with fail
    exact bodyPost_ret (v := .agg #[u8 255, u8 255, u8 255]) (by simp [results, Tryz.results203, go_sem]) rfl ⟨rfl, rfl⟩
  · have h2 : (65535 : Int) < o := by omega
    clear h
    go_enter Tryz.func203, Tryz.ntmps203
    go_wp2_with fail
    refine (g _).out.mono ?_; rintro e w' ⟨rfl, rfl⟩
    go_wp2_with fail
    exact bodyPost_ret (v := .agg #[u8 255, u8 255, u8 255]) (by simp [results, Tryz.results203, go_sem]) rfl ⟨rfl, rfl⟩

set_option maxHeartbeats 400000 in
theorem put_no (a b : Nat) (w : World) (h : part? a = none ∨ part? b = none) : Makes1 203 #[cx a b] w (.agg #[u8 255, u8 255, u8 255]) (bytes3 255 255 255) := by
  have g : ∀ w, Hid (Gives 85 #[cx a b] w (.tuple #[i64 0, i64 0, .bool false])) := fun w => Lib.hid (parts_no w h)
  clear h
  go_enter Tryz.func203, Tryz.ntmps203
  go_wp2_with fail
  refine (g _).out.mono ?_; rintro e w' ⟨rfl, rfl⟩
  go_wp2_with fail
  exact bodyPost_ret (v := .agg #[u8 255, u8 255, u8 255]) (by simp [results, Tryz.results203, go_sem]) rfl ⟨rfl, rfl⟩

/-! ### Get, and the reference's -/
/-- The place of three bytes. -/
def placeOf3 (a b c : Int) : Value := if a = 255 ∧ b = 255 ∧ c = 255 then cx 13830554455654793216 0 else cx (near a) (near (b * 256 + c))

/-- '|' of two numbers that share no place. -/
theorem wraps_i64 (n : Int) (h0 : 0 ≤ n) (h1 : n < 2 ^ 62) : IntKind.i64.wrap n = n := by rw [IntKind.wrap_i64]; omega
theorem or_i64 (i : Nat) (x y : Int) (hx : 0 ≤ x) (hm : x % 2 ^ i = 0) (hx1 : x < 2 ^ 62) (hy : 0 ≤ y) (hy1 : y < 2 ^ i) (hy2 : y < 2 ^ 62) : bits .or .i64 x y = x + y :=
  bits_join .i64 62 (by decide) wraps_i64 i x y hx hm hx1 hy hy1 hy2

theorem eql3 (a b c d e f : Int) (w : World) : (Op.equalIn 10000 302 (.agg #[u8 a, u8 b, u8 c]) (.agg #[u8 d, u8 e, u8 f])).run Tryz.prog w = .ok (decide (a = d ∧ b = e ∧ c = f)) w := by
  have := Base.run_eql_ints (P := Tryz.prog) w Tryz.underlying302 (by kernel_rfl) Tryz.underlying5 [a, b, c] [d, e, f] rfl rfl
  simpa using this

set_option maxHeartbeats 400000 in
set_option maxRecDepth 100000 in
theorem get_any (a b c : Int) (w : World) (a0 : 0 ≤ a) (a1 : a ≤ 255) (b0 : 0 ≤ b) (b1 : b ≤ 255) (c0 : 0 ≤ c) (c1 : c ≤ 255) : Makes1 239 #[.agg #[u8 a, u8 b, u8 c]] w (placeOf3 a b c) (bytes3 a b c) := by
  have g : ∀ w, Hid (Gives 118 #[i64 a, i64 (b * 256 + c)] w (cx (near a) (near (b * 256 + c)))) := fun w => Lib.hid (of_in a (b * 256 + c) w (by omega) (by omega) (by omega) (by omega))
  have he := eql3 a b c 255 255 255
  by_cases h : a = 255 ∧ b = 255 ∧ c = 255
  · have hv : placeOf3 a b c = cx 13830554455654793216 0 := if_pos h
    rw [hv]
    rw [decide_eq_true h] at he
    clear g h hv a0 a1 b0 b1 c0 c1
    go_enter Tryz.func239, Tryz.ntmps239
    go_wp2_with fail
    go_ret
    exact ⟨rfl, rfl⟩
  · have hv : placeOf3 a b c = cx (near a) (near (b * 256 + c)) := if_neg h
    rw [hv]
    rw [decide_eq_false h] at he
    have hor : bits .or .i64 (b * 256) c = b * 256 + c := or_i64 8 (b * 256) c (by omega) (by omega) (by omega) c0 (by omega) (by omega)
    clear h hv
    go_enter Tryz.func239, Tryz.ntmps239
    go_wp2_with fail
    refine (g _).out.mono ?_; rintro e w' ⟨rfl, rfl⟩
    go_wp2_with fail
    go_ret
    exact ⟨rfl, rfl⟩

/-! ### cmp.Compare, cmp.Or -/
/-- -1, 0, 1. -/
def cmpI (a b : Int) : Int := if a < b then -1 else if b < a then 1 else 0

set_option maxHeartbeats 400000 in
theorem isNaN_int (a : Int) (w : World) : Gives 275 #[i64 a] w (.bool false) := by
  go_enter Tryz.func275, Tryz.ntmps275
  go_wp2_with fail
  go_ret
  exact ⟨rfl, rfl⟩

set_option maxHeartbeats 400000 in
theorem compare_int (a b : Int) (w : World) : Gives 244 #[i64 a, i64 b] w (i64 (cmpI a b)) := by
  have g1 := Lib.hid (isNaN_int a w)
  have g2 := Lib.hid (isNaN_int b w)
  unfold cmpI
  by_cases h : a < b
  · rw [if_pos h]
    go_enter Tryz.func244, Tryz.ntmps244
    go_wp2_with fail
    refine g1.out.mono ?_; rintro e w' ⟨rfl, rfl⟩
    go_wp2_with fail
    refine g2.out.mono ?_; rintro e w' ⟨rfl, rfl⟩
    go_wp2_with fail
    go_ret
    exact ⟨rfl, rfl⟩
  · rw [if_neg h]
    by_cases h2 : b < a
    · rw [if_pos h2]
      go_enter Tryz.func244, Tryz.ntmps244
      go_wp2_with fail
      refine g1.out.mono ?_; rintro e w' ⟨rfl, rfl⟩
      go_wp2_with fail
      refine g2.out.mono ?_; rintro e w' ⟨rfl, rfl⟩
      go_wp2_with fail
      go_ret
      exact ⟨rfl, rfl⟩
    · rw [if_neg h2]
      go_enter Tryz.func244, Tryz.ntmps244
      go_wp2_with fail
      refine g1.out.mono ?_; rintro e w' ⟨rfl, rfl⟩
      go_wp2_with fail
      refine g2.out.mono ?_; rintro e w' ⟨rfl, rfl⟩
      go_wp2_with fail
      go_ret
      exact ⟨rfl, rfl⟩

/-! ### place.Compare, and the reference's -/
noncomputable def rightB (a b : Nat) : Bool := (part? a).isSome && (part? b).isSome
theorem right_yes {a b : Nat} (h : rightB a b = true) : ∃ s o, part? a = some s ∧ part? b = some o := by
  unfold rightB at h
  rw [Bool.and_eq_true] at h
  obtain ⟨h1, h2⟩ := h
  obtain ⟨s, hs⟩ := Option.isSome_iff_exists.1 h1
  obtain ⟨o, ho⟩ := Option.isSome_iff_exists.1 h2
  exact ⟨s, o, hs, ho⟩
theorem right_no {a b : Nat} (h : rightB a b = false) : part? a = none ∨ part? b = none := by
  unfold rightB at h
  cases ha : part? a with
  | none => exact .inl rfl
  | some s =>
    cases hb : part? b with
    | none => exact .inr rfl
    | some o => simp [ha, hb] at h
theorem right_of {a b s o : Nat} (ha : part? a = some s) (hb : part? b = some o) : rightB a b = true := by simp [rightB, ha, hb]

/-- How two places stand. -/
def cmpParts (p q : Option (Nat × Nat)) : Int :=
  match p, q with
  | none, none => 0
  | some _, none => -1
  | none, some _ => 1
  | some (s, o), some (t, u) => if (s : Int) = t then cmpI o u else cmpI s t
noncomputable def parts? (a b : Nat) : Option (Nat × Nat) := (part? a).bind fun s => (part? b).map fun o => (s, o)
theorem parts_some {a b s o : Nat} (ha : part? a = some s) (hb : part? b = some o) : parts? a b = some (s, o) := by simp [parts?, ha, hb]
theorem parts_none {a b : Nat} (h : part? a = none ∨ part? b = none) : parts? a b = none := by
  unfold parts?
  rcases h with h | h
  · simp [h]
  · rw [h]; cases part? a <;> rfl

theorem cmpI_zero {a b : Int} : cmpI a b = 0 ↔ a = b := by
  unfold cmpI
  split
  · omega
  · split <;> omega

end Go.Proofs.YthiimpleljaimaaGreatDoor

/- A region that draws its order, whose operations read, whose callees may make memory of their own: walked once, in the class 'nothing below the end has changed'. -/
namespace Go.Proofs.YthiimpleljaimaaGreatDoor
open Go.RowKit

/-- A world in which nothing of w's has changed. -/
structure OnOf (w : World) where
  v : World
  h : Below w.heap.size w v

instance (w : World) : Nonempty (OnOf w) := ⟨⟨w, Below.refl _ _⟩⟩
instance (w : World) : Inhabited (OnOf w) := ⟨⟨w, Below.refl _ _⟩⟩

theorem wp_region_quiet_on {P : Program} {id : Nat} {Q : Exit → Act → World → Prop} {a : Act} {w : World} {l : List Oper} (hm : P.follows .mixedOrders = true) (hB : Region.lexB .any l.toArray = true)
    (h : wpQuiet P l.toArray (fun w' => ∃ p : OnOf w, w' = p.v) (fun a' => ∀ w', (∃ p : OnOf w, w' = p.v) → Q .normal a' w') l a) : (Code.region id l.toArray true).wp P Q a w :=
  wp_region_quiet (C := fun w' => ∃ p : OnOf w, w' = p.v) hm hB ⟨⟨_, Base.dr (Below.refl _ _)⟩, rfl⟩ (by simpa using h)

theorem on_cell {w : World} {a : Addr} {v : Value} (hb : a.block < w.heap.size) (h : w.cell? a = some v) (p : OnOf w) : p.v.cell? a = some v := by
  rw [p.h.cell hb]; exact h

/-- A callee's contract, met in a world of the class. -/
theorem on_of {P : Program} {f : FuncId} {args : Array Value} {w : World} {p : OnOf w} {v : Value}
    (h : Calls P f args p.v fun e w' => e = .returned v ∧ Below p.v.heap.size p.v w') : Calls P f args p.v fun e w'' => e = .returned v ∧ ∃ q : OnOf w, w'' = q.v :=
  h.mono fun _ _ ⟨he, hb⟩ => ⟨he, ⟨_, Base.tr p.h hb⟩, rfl⟩
/-- .. of a callee that changes nothing. -/
theorem on_of_same {P : Program} {f : FuncId} {args : Array Value} {w : World} {p : OnOf w} {v : Value}
    (h : Calls P f args p.v fun e w' => e = .returned v ∧ w' = p.v) : Calls P f args p.v fun e w'' => e = .returned v ∧ ∃ q : OnOf w, w'' = q.v :=
  h.mono fun _ _ ⟨he, hb⟩ => ⟨he, p, hb⟩

end Go.Proofs.YthiimpleljaimaaGreatDoor

/- Numbers as bytes, the greatest first (the plain part of packing). -/
namespace Go.Proofs.YthiimpleljaimaaGreatDoor
open Go.RowKit

/-- The low n bytes of x, the greatest first. -/
def be : Nat → Nat → List Nat
  | 0, _ => []
  | n + 1, x => (x / 256 ^ n % 256) :: be n x
/-- .. the least first. -/
def le : Nat → Nat → List Nat
  | 0, _ => []
  | n + 1, x => le n x ++ [x / 256 ^ n % 256]
theorem be_len : ∀ n x, (be n x).length = n
  | 0, _ => rfl
  | n + 1, x => by rw [be, List.length_cons, be_len]
theorem le_rev : ∀ n x, (le n x).reverse = be n x
  | 0, _ => rfl
  | n + 1, x => by rw [le, be, List.reverse_append, le_rev]; rfl
theorem le_len (n x : Nat) : (le n x).length = n := by rw [← List.length_reverse, le_rev, be_len]
theorem be_lt : ∀ n x, ∀ b ∈ be n x, b < 256
  | 0, _, b, h => by cases h
  | n + 1, x, b, h => by
    rcases List.mem_cons.1 h with rfl | h
    · omega
    · exact be_lt n x b h

/-- The number that bytes are. -/
def beVal (l : List Nat) : Nat := l.foldl (fun a c => a * 256 + c) 0
theorem beVal_snoc (l : List Nat) (c : Nat) : beVal (l ++ [c]) = beVal l * 256 + c := by unfold beVal; rw [List.foldl_append]; rfl
theorem foldl_be (l : List Nat) : ∀ a, l.foldl (fun a c => a * 256 + c) a = a * 256 ^ l.length + beVal l := by
  induction l with
  | nil => intro a; simp [beVal]
  | cons c l ih =>
    intro a
    unfold beVal
    rw [List.foldl_cons, List.foldl_cons, ih, ih (0 * 256 + c), List.length_cons, Nat.pow_succ]
    rw [Nat.add_mul, Nat.zero_mul, Nat.zero_add, Nat.mul_assoc, Nat.mul_comm 256 (256 ^ l.length)]
    omega
theorem beVal_cons (c : Nat) (l : List Nat) : beVal (c :: l) = c * 256 ^ l.length + beVal l := by
  show (c :: l).foldl (fun a c => a * 256 + c) 0 = _
  rw [List.foldl_cons, foldl_be, Nat.zero_mul, Nat.zero_add]
theorem beVal_lt : ∀ l : List Nat, (∀ b ∈ l, b < 256) → beVal l < 256 ^ l.length
  | [], _ => by simp [beVal]
  | c :: l, h => by
    have h1 := beVal_lt l (fun b hb => h b (List.mem_cons_of_mem _ hb))
    have h2 := h c (by simp)
    have h3 : c * 256 ^ l.length ≤ 255 * 256 ^ l.length := Nat.mul_le_mul_right _ (by omega)
    rw [beVal_cons, List.length_cons, Nat.pow_succ]
    omega
theorem beVal_be : ∀ n x, beVal (be n x) = x % 256 ^ n
  | 0, x => by simp [be, beVal, Nat.mod_one]
  | n + 1, x => by
    rw [be, beVal_cons, be_len, beVal_be n x, Nat.pow_succ, Nat.mod_mul, Nat.mul_comm]
    omega
theorem be_mod : ∀ n x k, n ≤ k → be n (x % 256 ^ k) = be n x
  | 0, _, _, _ => rfl
  | n + 1, x, k, h => by
    rw [be, be, be_mod n x k (by omega)]
    congr 1
    have e : 256 ^ k = 256 ^ n * (256 * 256 ^ (k - n - 1)) := by
      rw [← Nat.mul_assoc, ← Nat.pow_succ, ← Nat.pow_add]; congr 1; omega
    rw [e, Nat.mod_mul_right_div_self, Nat.mod_mul_right_mod]
theorem be_beVal : ∀ l : List Nat, (∀ b ∈ l, b < 256) → be l.length (beVal l) = l
  | [], _ => rfl
  | c :: l, h => by
    have h1 : ∀ b ∈ l, b < 256 := fun b hb => h b (List.mem_cons_of_mem _ hb)
    have h2 := h c (by simp)
    have h3 := beVal_lt l h1
    have hp : 0 < 256 ^ l.length := by have : 0 < 256 := by decide
                                       exact Nat.pow_pos this
    rw [List.length_cons, be, beVal_cons]
    congr 1
    · rw [Nat.mul_comm, Nat.mul_add_div hp, Nat.div_eq_of_lt h3]; omega
    · rw [← be_mod l.length _ l.length (Nat.le_refl _), Nat.mul_comm, Nat.mul_add_mod, Nat.mod_eq_of_lt h3]
      exact be_beVal l h1

/-- What pack.Put's row is behind i rounds. -/
def putRow (l : List Nat) (n x i : Nat) : List Nat := l ++ (List.replicate (n - i) 0 ++ be i x)
theorem putRow_len (l : List Nat) (n x i : Nat) (h : i ≤ n) : (putRow l n x i).length = l.length + n := by
  unfold putRow; rw [List.length_append, List.length_append, List.length_replicate, be_len]; omega
theorem putRow_set (l : List Nat) (n x i : Nat) (h : i < n) : (putRow l n x i).set (l.length + n - 1 - i) (x / 256 ^ i % 256) = putRow l n x (i + 1) := by
  unfold putRow
  obtain ⟨m, hm⟩ : ∃ m, n - i = m + 1 := ⟨n - i - 1, by omega⟩
  rw [hm, show n - (i + 1) = m by omega, List.set_append_right _ _ (by omega), show l.length + n - 1 - i - l.length = m by omega]
  rw [List.replicate_succ', List.append_assoc, List.set_append_right _ _ (by simp), List.length_replicate, Nat.sub_self]
  rfl
theorem putRow_end (l : List Nat) (n x : Nat) : putRow l n x n = l ++ be n x := by unfold putRow; rw [Nat.sub_self]; rfl
end Go.Proofs.YthiimpleljaimaaGreatDoor

/- Numbers and texts read from bytes, and put back (the plain part). -/
namespace Go.Proofs.YthiimpleljaimaaGreatDoor
open Go.RowKit

/-- A number of n bytes at a: the number, behind it, the error. -/
def pGet (l : List Nat) (a n : Nat) : Nat × Nat × Nat := if l.length < a + n then (0, 0, 3) else (beVal ((l.drop a).take n), a + n, 0)
/-- A text at a. -/
def pText (l : List Nat) (a most : Nat) : List Nat × Nat × Nat :=
  if l.length < a + 1 then ([], 0, 3) else if most < l.getD a 0 then ([], 0, 4) else if l.length < a + 1 + l.getD a 0 then ([], 0, 3) else ((l.drop (a + 1)).take (l.getD a 0), a + 1 + l.getD a 0, 0)

theorem pGet_back {l : List Nat} (hl : ∀ b ∈ l, b < 256) {a n x e : Nat} (h : pGet l a n = (x, e, 0)) : e = a + n ∧ e ≤ l.length ∧ l.drop a = be n x ++ l.drop e := by
  unfold pGet at h
  split at h
  · simp at h
  · rename_i hlt
    simp only [Prod.mk.injEq, and_true] at h
    obtain ⟨rfl, rfl⟩ := h
    refine ⟨rfl, by omega, ?_⟩
    have hk : ((l.drop a).take n).length = n := by rw [List.length_take, List.length_drop]; omega
    have := be_beVal ((l.drop a).take n) (fun b hb => hl b (List.mem_of_mem_drop (List.mem_of_mem_take hb)))
    rw [hk] at this
    rw [this, ← List.drop_drop, List.take_append_drop]
theorem pGet_put {l r : List Nat} {a n x : Nat} (h : l.drop a = be n x ++ r) (ha : a ≤ l.length) (hx : x < 256 ^ n) : pGet l a n = (x, a + n, 0) ∧ l.drop (a + n) = r ∧ a + n ≤ l.length := by
  have hlen := congrArg List.length h
  rw [List.length_drop, List.length_append, be_len] at hlen
  unfold pGet
  rw [if_neg (by omega), h, List.take_left' (be_len n x), beVal_be, Nat.mod_eq_of_lt hx]
  refine ⟨rfl, ?_, by omega⟩
  rw [← List.drop_drop, h, List.drop_left' (be_len n x)]
theorem pText_back {l t : List Nat} {a most e : Nat} (h : pText l a most = (t, e, 0)) : e = a + 1 + t.length ∧ e ≤ l.length ∧ t.length ≤ most ∧ l.drop a = t.length :: (t ++ l.drop e) := by
  unfold pText at h
  split at h
  · simp at h
  · rename_i h1
    split at h
    · simp at h
    · rename_i h2
      split at h
      · simp at h
      · rename_i h3
        simp only [Prod.mk.injEq, and_true] at h
        obtain ⟨rfl, rfl⟩ := h
        have hk : ((l.drop (a + 1)).take (l.getD a 0)).length = l.getD a 0 := by rw [List.length_take, List.length_drop]; omega
        have hg : l.getD a 0 = l[a] := by rw [List.getD_eq_getElem?_getD, List.getElem?_eq_getElem (by omega)]; rfl
        refine ⟨by rw [hk], by omega, by rw [hk]; omega, ?_⟩
        have hd : l.drop (a + 1 + l.getD a 0) = (l.drop (a + 1)).drop (l.getD a 0) := List.drop_drop.symm
        rw [hk, hd, List.take_append_drop, hg]
        exact List.drop_eq_getElem_cons (by omega)
theorem pText_put {l t r : List Nat} {a most : Nat} (h : l.drop a = t.length :: (t ++ r)) (ha : a ≤ l.length) (ht : t.length ≤ most) : pText l a most = (t, a + 1 + t.length, 0) ∧ l.drop (a + 1 + t.length) = r ∧ a + 1 + t.length ≤ l.length := by
  have hlen := congrArg List.length h
  rw [List.length_drop, List.length_cons, List.length_append] at hlen
  have hlt : a < l.length := by omega
  have h1 : l[a] :: l.drop (a + 1) = t.length :: (t ++ r) := by rw [← h]; exact (List.drop_eq_getElem_cons hlt).symm
  injection h1 with h2 h3
  have hg : l.getD a 0 = t.length := by rw [List.getD_eq_getElem?_getD, List.getElem?_eq_getElem hlt]; exact h2
  unfold pText
  rw [hg, if_neg (by omega), if_neg (by omega), if_neg (by omega), h3, List.take_left' rfl]
  refine ⟨rfl, ?_, by omega⟩
  have hd : l.drop (a + 1 + t.length) = (l.drop (a + 1)).drop t.length := List.drop_drop.symm
  rw [hd, h3, List.drop_left' rfl]
end Go.Proofs.YthiimpleljaimaaGreatDoor

