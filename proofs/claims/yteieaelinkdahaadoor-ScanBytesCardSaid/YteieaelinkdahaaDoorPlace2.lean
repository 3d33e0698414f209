/- More of package place: Put, Get, Compare, and their references: contracts. -/
import Derived.Test.YteieaelinkdahaaDoorPlace
import Derived.Test.YteieaelinkdahaaDoorBase
import Derived.Deep.QuietTactic
import Derived.BigQuiet
import Derived.Deep.DeepFit
namespace Go.Proofs.YteieaelinkdahaaDoor
open Go.RowKit Flo

abbrev u8 (n : Int) : Value := .int .u8 n
/-- A call that comes back with v; what was there is as it was. -/
abbrev Makes (f : FuncId) (args : Array Value) (w : World) (v : Value) : Prop := Calls Tryd.prog f args w fun e w' => e = .returned v ∧ Below w.heap.size w w'

/-- A call that comes back with v and has made one block. -/
abbrev Makes1 (f : FuncId) (args : Array Value) (w : World) (v : Value) (o : Obj) : Prop := Calls Tryd.prog f args w fun e w' => e = .returned v ∧ w' = w.alloc o
theorem Makes1.makes {f : FuncId} {args : Array Value} {w : World} {v : Value} {o : Obj} (h : Makes1 f args w v o) : Makes f args w v :=
  h.mono fun e w' ⟨he, hw⟩ => ⟨he, by subst hw; exact (Below.refl _ _).alloc (Nat.le_refl _) _⟩
abbrev bytes3 (a b c : Int) : Obj := .cells #[u8 a, u8 b, u8 c] 79

theorem Gives.makes {f : FuncId} {args : Array Value} {w : World} {v : Value} (h : Gives f args w v) : Makes f args w v :=
  h.mono fun e w' ⟨he, hw⟩ => ⟨he, by subst hw; exact Below.refl _ _⟩

/-! ### Put -/
/-! ### Get, and the reference's -/
/-- The place of three bytes. -/
def placeOf3 (a b c : Int) : Value := if a = 255 ∧ b = 255 ∧ c = 255 then cx 13830554455654793216 0 else cx (near a) (near (b * 256 + c))

/-- '|' of two numbers that share no place. -/
theorem wraps_i64 (n : Int) (h0 : 0 ≤ n) (h1 : n < 2 ^ 62) : IntKind.i64.wrap n = n := by rw [IntKind.wrap_i64]; omega
theorem or_i64 (i : Nat) (x y : Int) (hx : 0 ≤ x) (hm : x % 2 ^ i = 0) (hx1 : x < 2 ^ 62) (hy : 0 ≤ y) (hy1 : y < 2 ^ i) (hy2 : y < 2 ^ 62) : bits .or .i64 x y = x + y :=
  bits_join .i64 62 (by decide) wraps_i64 i x y hx hm hx1 hy hy1 hy2

theorem eql3 (a b c d e f : Int) (w : World) : (Op.equalIn 10000 79 (.agg #[u8 a, u8 b, u8 c]) (.agg #[u8 d, u8 e, u8 f])).run Tryd.prog w = .ok (decide (a = d ∧ b = e ∧ c = f)) w := by
  have := Base.run_eql_ints (P := Tryd.prog) w Tryd.underlying79 (by kernel_rfl) Tryd.underlying5 [a, b, c] [d, e, f] rfl rfl
  simpa using this

set_option maxHeartbeats 400000 in
set_option maxRecDepth 100000 in
theorem get_any (a b c : Int) (w : World) (a0 : 0 ≤ a) (a1 : a ≤ 255) (b0 : 0 ≤ b) (b1 : b ≤ 255) (c0 : 0 ≤ c) (c1 : c ≤ 255) : Makes1 33 #[.agg #[u8 a, u8 b, u8 c]] w (placeOf3 a b c) (bytes3 a b c) := by
  have g : ∀ w, Hid (Gives 15 #[i64 a, i64 (b * 256 + c)] w (cx (near a) (near (b * 256 + c)))) := fun w => Lib.hid (of_in a (b * 256 + c) w (by omega) (by omega) (by omega) (by omega))
  have he := eql3 a b c 255 255 255
  by_cases h : a = 255 ∧ b = 255 ∧ c = 255
  · have hv : placeOf3 a b c = cx 13830554455654793216 0 := if_pos h
    rw [hv]
    rw [decide_eq_true h] at he
    clear g h hv a0 a1 b0 b1 c0 c1
    go_enter Tryd.func33, Tryd.ntmps33
    go_wp2_with fail
    go_ret
    exact ⟨rfl, rfl⟩
  · have hv : placeOf3 a b c = cx (near a) (near (b * 256 + c)) := if_neg h
    rw [hv]
    rw [decide_eq_false h] at he
    have hor : bits .or .i64 (b * 256) c = b * 256 + c := or_i64 8 (b * 256) c (by omega) (by omega) (by omega) c0 (by omega) (by omega)
    clear h hv
    go_enter Tryd.func33, Tryd.ntmps33
    go_wp2_with fail
    refine (g _).out.mono ?_; rintro e w' ⟨rfl, rfl⟩
    go_wp2_with fail
    go_ret
    exact ⟨rfl, rfl⟩

set_option maxHeartbeats 400000 in
set_option maxRecDepth 100000 in
theorem rget_any (a b c : Int) (w : World) (a0 : 0 ≤ a) (a1 : a ≤ 255) (b0 : 0 ≤ b) (b1 : b ≤ 255) (c0 : 0 ≤ c) (c1 : c ≤ 255) : Gives 39 #[u8 a, u8 b, u8 c] w (placeOf3 a b c) := by
  have g : ∀ w, Hid (Gives 19 #[i64 a, i64 (256 * b + c)] w (cx (near a) (near (256 * b + c)))) := fun w => Lib.hid (rof_in a (256 * b + c) w (by omega) (by omega) (by omega) (by omega))
  by_cases h : a = 255 ∧ b = 255 ∧ c = 255
  · have hv : placeOf3 a b c = cx 13830554455654793216 0 := if_pos h
    rw [hv]
    obtain ⟨rfl, rfl, rfl⟩ := h
    clear g hv a0 a1 b0 b1 c0 c1
    go_enter Tryd.func39, Tryd.ntmps39
    go_wp2_with fail
    go_ret
    exact ⟨rfl, rfl⟩
  · have hv : placeOf3 a b c = cx (near a) (near (256 * b + c)) := by rw [Int.mul_comm]; exact if_neg h
    rw [hv]
    clear hv
    by_cases ha : a = 255
    · by_cases hb : b = 255
      · have h1 : (c == 255) = false := by rw [beq_eq_false_iff_ne]; omega
        have h2 : (a == 255) = true := by simpa using ha
        have h3 : (b == 255) = true := by simpa using hb
        clear h ha hb
        go_enter Tryd.func39, Tryd.ntmps39
        go_wp2_with fail
        refine (g _).out.mono ?_; rintro e w' ⟨rfl, rfl⟩
        go_wp2_with fail
        go_ret
        exact ⟨rfl, rfl⟩
      · have h1 : (b == 255) = false := by rw [beq_eq_false_iff_ne]; omega
        have h2 : (a == 255) = true := by simpa using ha
        clear h ha hb
        go_enter Tryd.func39, Tryd.ntmps39
        go_wp2_with fail
        refine (g _).out.mono ?_; rintro e w' ⟨rfl, rfl⟩
        go_wp2_with fail
        go_ret
        exact ⟨rfl, rfl⟩
    · have h1 : (a == 255) = false := by rw [beq_eq_false_iff_ne]; omega
      clear h ha
      go_enter Tryd.func39, Tryd.ntmps39
      go_wp2_with fail
      refine (g _).out.mono ?_; rintro e w' ⟨rfl, rfl⟩
      go_wp2_with fail
      go_ret
      exact ⟨rfl, rfl⟩

/-! ### cmp.Compare, cmp.Or -/
/-- -1, 0, 1. -/
def cmpI (a b : Int) : Int := if a < b then -1 else if b < a then 1 else 0

/-! ### place.Compare, and the reference's -/
noncomputable def rightB (a b : Nat) : Bool := (part? a).isSome && (part? b).isSome
theorem right_yes {a b : Nat} (h : rightB a b = true) : ∃ s o, part? a = some s ∧ part? b = some o := by
  unfold rightB at h
  rw [Bool.and_eq_true] at h
  obtain ⟨h1, h2⟩ := h
  obtain ⟨s, hs⟩ := Option.isSome_iff_exists.1 h1
  obtain ⟨o, ho⟩ := Option.isSome_iff_exists.1 h2
  exact ⟨s, o, hs, ho⟩
theorem right_no {a b : Nat} (h : rightB a b = false) : part? a = none ∨ part? b = none := by
  unfold rightB at h
  cases ha : part? a with
  | none => exact .inl rfl
  | some s =>
    cases hb : part? b with
    | none => exact .inr rfl
    | some o => simp [ha, hb] at h
theorem right_of {a b s o : Nat} (ha : part? a = some s) (hb : part? b = some o) : rightB a b = true := by simp [rightB, ha, hb]

/-- How two places stand. -/
def cmpParts (p q : Option (Nat × Nat)) : Int :=
  match p, q with
  | none, none => 0
  | some _, none => -1
  | none, some _ => 1
  | some (s, o), some (t, u) => if (s : Int) = t then cmpI o u else cmpI s t
noncomputable def parts? (a b : Nat) : Option (Nat × Nat) := (part? a).bind fun s => (part? b).map fun o => (s, o)
theorem parts_some {a b s o : Nat} (ha : part? a = some s) (hb : part? b = some o) : parts? a b = some (s, o) := by simp [parts?, ha, hb]
theorem parts_none {a b : Nat} (h : part? a = none ∨ part? b = none) : parts? a b = none := by
  unfold parts?
  rcases h with h | h
  · simp [h]
  · rw [h]; cases part? a <;> rfl

theorem cmpI_zero {a b : Int} : cmpI a b = 0 ↔ a = b := by
  unfold cmpI
  split
  · omega
  · split <;> omega

end Go.Proofs.YteieaelinkdahaaDoor
