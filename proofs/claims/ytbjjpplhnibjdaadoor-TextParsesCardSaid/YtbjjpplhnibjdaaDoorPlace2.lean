/- More of package place: Put, Get, Compare, and their references: contracts. -/
import Derived.Test.YtbjjpplhnibjdaaDoorPlace
import Derived.Test.YtbjjpplhnibjdaaDoorBase
import Derived.Deep.QuietTactic
import Derived.BigQuiet
import Derived.Deep.DeepFit
namespace Go.Proofs.YtbjjpplhnibjdaaDoor
open Go.RowKit Flo

abbrev u8 (n : Int) : Value := .int .u8 n
/-- A call that comes back with v; what was there is as it was. -/
abbrev Makes (f : FuncId) (args : Array Value) (w : World) (v : Value) : Prop := Calls Tryd.prog f args w fun e w' => e = .returned v ∧ Below w.heap.size w w'

/-- A call that comes back with v and has made one block. -/
abbrev Makes1 (f : FuncId) (args : Array Value) (w : World) (v : Value) (o : Obj) : Prop := Calls Tryd.prog f args w fun e w' => e = .returned v ∧ w' = w.alloc o
theorem Makes1.makes {f : FuncId} {args : Array Value} {w : World} {v : Value} {o : Obj} (h : Makes1 f args w v o) : Makes f args w v :=
  h.mono fun e w' ⟨he, hw⟩ => ⟨he, by subst hw; exact (Below.refl _ _).alloc (Nat.le_refl _) _⟩
theorem Gives.makes {f : FuncId} {args : Array Value} {w : World} {v : Value} (h : Gives f args w v) : Makes f args w v :=
  h.mono fun e w' ⟨he, hw⟩ => ⟨he, by subst hw; exact Below.refl _ _⟩

/-! ### Put -/
/-! ### Get, and the reference's -/
/-- The place of three bytes. -/
def placeOf3 (a b c : Int) : Value := if a = 255 ∧ b = 255 ∧ c = 255 then cx 13830554455654793216 0 else cx (near a) (near (b * 256 + c))

/-- '|' of two numbers that share no place. -/
theorem wraps_i64 (n : Int) (h0 : 0 ≤ n) (h1 : n < 2 ^ 62) : IntKind.i64.wrap n = n := by rw [IntKind.wrap_i64]; omega
theorem or_i64 (i : Nat) (x y : Int) (hx : 0 ≤ x) (hm : x % 2 ^ i = 0) (hx1 : x < 2 ^ 62) (hy : 0 ≤ y) (hy1 : y < 2 ^ i) (hy2 : y < 2 ^ 62) : bits .or .i64 x y = x + y :=
  bits_join .i64 62 (by decide) wraps_i64 i x y hx hm hx1 hy hy1 hy2

/-! ### cmp.Compare, cmp.Or -/
/-- -1, 0, 1. -/
def cmpI (a b : Int) : Int := if a < b then -1 else if b < a then 1 else 0

/-! ### place.Compare, and the reference's -/
noncomputable def rightB (a b : Nat) : Bool := (part? a).isSome && (part? b).isSome
theorem right_yes {a b : Nat} (h : rightB a b = true) : ∃ s o, part? a = some s ∧ part? b = some o := by
  unfold rightB at h
  rw [Bool.and_eq_true] at h
  obtain ⟨h1, h2⟩ := h
  obtain ⟨s, hs⟩ := Option.isSome_iff_exists.1 h1
  obtain ⟨o, ho⟩ := Option.isSome_iff_exists.1 h2
  exact ⟨s, o, hs, ho⟩
theorem right_no {a b : Nat} (h : rightB a b = false) : part? a = none ∨ part? b = none := by
  unfold rightB at h
  cases ha : part? a with
  | none => exact .inl rfl
  | some s =>
    cases hb : part? b with
    | none => exact .inr rfl
    | some o => simp [ha, hb] at h
theorem right_of {a b s o : Nat} (ha : part? a = some s) (hb : part? b = some o) : rightB a b = true := by simp [rightB, ha, hb]

/-- How two places stand. -/
def cmpParts (p q : Option (Nat × Nat)) : Int :=
  match p, q with
  | none, none => 0
  | some _, none => -1
  | none, some _ => 1
  | some (s, o), some (t, u) => if (s : Int) = t then cmpI o u else cmpI s t
noncomputable def parts? (a b : Nat) : Option (Nat × Nat) := (part? a).bind fun s => (part? b).map fun o => (s, o)
theorem parts_some {a b s o : Nat} (ha : part? a = some s) (hb : part? b = some o) : parts? a b = some (s, o) := by simp [parts?, ha, hb]
theorem parts_none {a b : Nat} (h : part? a = none ∨ part? b = none) : parts? a b = none := by
  unfold parts?
  rcases h with h | h
  · simp [h]
  · rw [h]; cases part? a <;> rfl

theorem cmpI_zero {a b : Int} : cmpI a b = 0 ↔ a = b := by
  unfold cmpI
  split
  · omega
  · split <;> omega

end Go.Proofs.YtbjjpplhnibjdaaDoor
