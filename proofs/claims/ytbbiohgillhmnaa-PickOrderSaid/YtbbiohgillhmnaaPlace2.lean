/- More of package place: Put, Get, Compare, and their references: contracts. -/
import Derived.Test.YtbbiohgillhmnaaPlace
import Derived.Test.YtbbiohgillhmnaaBase
import Derived.Deep.QuietTactic
import Derived.BigQuiet
import Derived.Deep.DeepFit
namespace Go.Proofs.Ytbbiohgillhmnaa
open Go.RowKit Flo

abbrev u8 (n : Int) : Value := .int .u8 n
/-- A call that comes back with v; what was there is as it was. -/
abbrev Makes (f : FuncId) (args : Array Value) (w : World) (v : Value) : Prop := Calls Try.prog f args w fun e w' => e = .returned v ∧ Below w.heap.size w w'

/-- A call that comes back with v and has made one block. -/
abbrev Makes1 (f : FuncId) (args : Array Value) (w : World) (v : Value) (o : Obj) : Prop := Calls Try.prog f args w fun e w' => e = .returned v ∧ w' = w.alloc o
theorem Makes1.makes {f : FuncId} {args : Array Value} {w : World} {v : Value} {o : Obj} (h : Makes1 f args w v o) : Makes f args w v :=
  h.mono fun e w' ⟨he, hw⟩ => ⟨he, by subst hw; exact (Below.refl _ _).alloc (Nat.le_refl _) _⟩
abbrev bytes3 (a b c : Int) : Obj := .cells #[u8 a, u8 b, u8 c] 58

theorem Gives.makes {f : FuncId} {args : Array Value} {w : World} {v : Value} (h : Gives f args w v) : Makes f args w v :=
  h.mono fun e w' ⟨he, hw⟩ => ⟨he, by subst hw; exact Below.refl _ _⟩

/-! ### Put -/
set_option maxHeartbeats 400000 in
theorem put_in (a b : Nat) (s o : Nat) (w : World) (ha : part? a = some s) (hb : part? b = some o) (h1 : s < 255) (h2 : o < 65536) : Makes1 37 #[cx a b] w (.agg #[u8 s, u8 (o / 256), u8 (o % 256)]) (bytes3 s (o / 256) (o % 256)) := by
  have g : ∀ w, Hid (Gives 25 #[cx a b] w (.tuple #[i64 s, i64 o, .bool true])) := fun w => Lib.hid (parts_yes w ha hb)
  clear ha hb
  have e1 : (s : Int) ≤ 254 := by omega
  have e2 : (o : Int) ≤ 65535 := by omega
  go_enter Try.func37, Try.ntmps37
  go_wp2_with fail
  refine (g _).out.mono ?_; rintro e w' ⟨rfl, rfl⟩
  go_wp2_with fail
  exact bodyPost_ret (v := .agg #[u8 s, u8 (o / 256), u8 (o % 256)]) (by simp [results, Try.results37, go_sem]) rfl ⟨rfl, rfl⟩

set_option maxHeartbeats 400000 in
theorem put_far (a b : Nat) (s o : Nat) (w : World) (ha : part? a = some s) (hb : part? b = some o) (h : 254 < s ∨ 65535 < o) : Makes1 37 #[cx a b] w (.agg #[u8 255, u8 255, u8 255]) (bytes3 255 255 255) := by
  have g : ∀ w, Hid (Gives 25 #[cx a b] w (.tuple #[i64 s, i64 o, .bool true])) := fun w => Lib.hid (parts_yes w ha hb)
  clear ha hb
  by_cases h1 : (254 : Int) < s
  · clear h
    go_enter Try.func37, Try.ntmps37
    go_wp2_with fail
    refine (g _).out.mono ?_; rintro e w' ⟨rfl, rfl⟩
    go_wp2_with fail
    exact bodyPost_ret (v := .agg #[u8 255, u8 255, u8 255]) (by simp [results, Try.results37, go_sem]) rfl ⟨rfl, rfl⟩
  · have h2 : (65535 : Int) < o := by omega
    clear h
    go_enter Try.func37, Try.ntmps37
    go_wp2_with fail
    refine (g _).out.mono ?_; rintro e w' ⟨rfl, rfl⟩
    go_wp2_with fail
    exact bodyPost_ret (v := .agg #[u8 255, u8 255, u8 255]) (by simp [results, Try.results37, go_sem]) rfl ⟨rfl, rfl⟩

set_option maxHeartbeats 400000 in
theorem put_no (a b : Nat) (w : World) (h : part? a = none ∨ part? b = none) : Makes1 37 #[cx a b] w (.agg #[u8 255, u8 255, u8 255]) (bytes3 255 255 255) := by
  have g : ∀ w, Hid (Gives 25 #[cx a b] w (.tuple #[i64 0, i64 0, .bool false])) := fun w => Lib.hid (parts_no w h)
  clear h
  go_enter Try.func37, Try.ntmps37
  go_wp2_with fail
  refine (g _).out.mono ?_; rintro e w' ⟨rfl, rfl⟩
  go_wp2_with fail
  exact bodyPost_ret (v := .agg #[u8 255, u8 255, u8 255]) (by simp [results, Try.results37, go_sem]) rfl ⟨rfl, rfl⟩

/-! ### Get, and the reference's -/
/-- The place of three bytes. -/
def placeOf3 (a b c : Int) : Value := if a = 255 ∧ b = 255 ∧ c = 255 then cx 13830554455654793216 0 else cx (near a) (near (b * 256 + c))

/-- '|' of two numbers that share no place. -/
theorem wraps_i64 (n : Int) (h0 : 0 ≤ n) (h1 : n < 2 ^ 62) : IntKind.i64.wrap n = n := by rw [IntKind.wrap_i64]; omega
theorem or_i64 (i : Nat) (x y : Int) (hx : 0 ≤ x) (hm : x % 2 ^ i = 0) (hx1 : x < 2 ^ 62) (hy : 0 ≤ y) (hy1 : y < 2 ^ i) (hy2 : y < 2 ^ 62) : bits .or .i64 x y = x + y :=
  bits_join .i64 62 (by decide) wraps_i64 i x y hx hm hx1 hy hy1 hy2

theorem eql3 (a b c d e f : Int) (w : World) : (Op.equalIn 10000 58 (.agg #[u8 a, u8 b, u8 c]) (.agg #[u8 d, u8 e, u8 f])).run Try.prog w = .ok (decide (a = d ∧ b = e ∧ c = f)) w := by
  have := Base.run_eql_ints (P := Try.prog) w Try.underlying58 (by kernel_rfl) Try.underlying5 [a, b, c] [d, e, f] rfl rfl
  simpa using this

set_option maxHeartbeats 400000 in
set_option maxRecDepth 100000 in
theorem get_any (a b c : Int) (w : World) (a0 : 0 ≤ a) (a1 : a ≤ 255) (b0 : 0 ≤ b) (b1 : b ≤ 255) (c0 : 0 ≤ c) (c1 : c ≤ 255) : Makes1 38 #[.agg #[u8 a, u8 b, u8 c]] w (placeOf3 a b c) (bytes3 a b c) := by
  have g : ∀ w, Hid (Gives 16 #[i64 a, i64 (b * 256 + c)] w (cx (near a) (near (b * 256 + c)))) := fun w => Lib.hid (of_in a (b * 256 + c) w (by omega) (by omega) (by omega) (by omega))
  have he := eql3 a b c 255 255 255
  by_cases h : a = 255 ∧ b = 255 ∧ c = 255
  · have hv : placeOf3 a b c = cx 13830554455654793216 0 := if_pos h
    rw [hv]
    rw [decide_eq_true h] at he
    clear g h hv a0 a1 b0 b1 c0 c1
    go_enter Try.func38, Try.ntmps38
    go_wp2_with fail
    go_ret
    exact ⟨rfl, rfl⟩
  · have hv : placeOf3 a b c = cx (near a) (near (b * 256 + c)) := if_neg h
    rw [hv]
    rw [decide_eq_false h] at he
    have hor : bits .or .i64 (b * 256) c = b * 256 + c := or_i64 8 (b * 256) c (by omega) (by omega) (by omega) c0 (by omega) (by omega)
    clear h hv
    go_enter Try.func38, Try.ntmps38
    go_wp2_with fail
    refine (g _).out.mono ?_; rintro e w' ⟨rfl, rfl⟩
    go_wp2_with fail
    go_ret
    exact ⟨rfl, rfl⟩

set_option maxHeartbeats 400000 in
set_option maxRecDepth 100000 in
theorem rget_any (a b c : Int) (w : World) (a0 : 0 ≤ a) (a1 : a ≤ 255) (b0 : 0 ≤ b) (b1 : b ≤ 255) (c0 : 0 ≤ c) (c1 : c ≤ 255) : Gives 39 #[u8 a, u8 b, u8 c] w (placeOf3 a b c) := by
  have g : ∀ w, Hid (Gives 17 #[i64 a, i64 (256 * b + c)] w (cx (near a) (near (256 * b + c)))) := fun w => Lib.hid (rof_in a (256 * b + c) w (by omega) (by omega) (by omega) (by omega))
  by_cases h : a = 255 ∧ b = 255 ∧ c = 255
  · have hv : placeOf3 a b c = cx 13830554455654793216 0 := if_pos h
    rw [hv]
    obtain ⟨rfl, rfl, rfl⟩ := h
    clear g hv a0 a1 b0 b1 c0 c1
    go_enter Try.func39, Try.ntmps39
    go_wp2_with fail
    go_ret
    exact ⟨rfl, rfl⟩
  · have hv : placeOf3 a b c = cx (near a) (near (256 * b + c)) := by rw [Int.mul_comm]; exact if_neg h
    rw [hv]
    clear hv
    by_cases ha : a = 255
    · by_cases hb : b = 255
      · have h1 : (c == 255) = false := by rw [beq_eq_false_iff_ne]; omega
        have h2 : (a == 255) = true := by simpa using ha
        have h3 : (b == 255) = true := by simpa using hb
        clear h ha hb
        go_enter Try.func39, Try.ntmps39
        go_wp2_with fail
        refine (g _).out.mono ?_; rintro e w' ⟨rfl, rfl⟩
        go_wp2_with fail
        go_ret
        exact ⟨rfl, rfl⟩
      · have h1 : (b == 255) = false := by rw [beq_eq_false_iff_ne]; omega
        have h2 : (a == 255) = true := by simpa using ha
        clear h ha hb
        go_enter Try.func39, Try.ntmps39
        go_wp2_with fail
        refine (g _).out.mono ?_; rintro e w' ⟨rfl, rfl⟩
        go_wp2_with fail
        go_ret
        exact ⟨rfl, rfl⟩
    · have h1 : (a == 255) = false := by rw [beq_eq_false_iff_ne]; omega
      clear h ha
      go_enter Try.func39, Try.ntmps39
      go_wp2_with fail
      refine (g _).out.mono ?_; rintro e w' ⟨rfl, rfl⟩
      go_wp2_with fail
      go_ret
      exact ⟨rfl, rfl⟩

/-! ### cmp.Compare, cmp.Or -/
/-- -1, 0, 1. -/
def cmpI (a b : Int) : Int := if a < b then -1 else if b < a then 1 else 0

set_option maxHeartbeats 400000 in
theorem isNaN_int (a : Int) (w : World) : Gives 86 #[i64 a] w (.bool false) := by
  go_enter Try.func86, Try.ntmps86
  go_wp2_with fail
  go_ret
  exact ⟨rfl, rfl⟩

set_option maxHeartbeats 400000 in
theorem compare_int (a b : Int) (w : World) : Gives 79 #[i64 a, i64 b] w (i64 (cmpI a b)) := by
  have g1 := Lib.hid (isNaN_int a w)
  have g2 := Lib.hid (isNaN_int b w)
  unfold cmpI
  by_cases h : a < b
  · rw [if_pos h]
    go_enter Try.func79, Try.ntmps79
    go_wp2_with fail
    refine g1.out.mono ?_; rintro e w' ⟨rfl, rfl⟩
    go_wp2_with fail
    refine g2.out.mono ?_; rintro e w' ⟨rfl, rfl⟩
    go_wp2_with fail
    go_ret
    exact ⟨rfl, rfl⟩
  · rw [if_neg h]
    by_cases h2 : b < a
    · rw [if_pos h2]
      go_enter Try.func79, Try.ntmps79
      go_wp2_with fail
      refine g1.out.mono ?_; rintro e w' ⟨rfl, rfl⟩
      go_wp2_with fail
      refine g2.out.mono ?_; rintro e w' ⟨rfl, rfl⟩
      go_wp2_with fail
      go_ret
      exact ⟨rfl, rfl⟩
    · rw [if_neg h2]
      go_enter Try.func79, Try.ntmps79
      go_wp2_with fail
      refine g1.out.mono ?_; rintro e w' ⟨rfl, rfl⟩
      go_wp2_with fail
      refine g2.out.mono ?_; rintro e w' ⟨rfl, rfl⟩
      go_wp2_with fail
      go_ret
      exact ⟨rfl, rfl⟩

set_option maxHeartbeats 400000 in
theorem or_two (w : World) (x y : Int) (p : Nat) (h0 : w.cell? ⟨p, 0, none⟩ = some (i64 x)) (h1 : w.cell? ⟨p, 1, none⟩ = some (i64 y)) :
    Gives 78 #[.slice (some ⟨p, 0, none⟩) 2 2] w (i64 (if x = 0 then y else x)) := by
  by_cases hx : x = 0
  · rw [if_pos hx]
    subst hx
    by_cases hy : y = 0
    · subst hy
      go_enter Try.func78, Try.ntmps78
      go_wp2_with fail
      refine wp_loop_rounds 3 ?_
      rw [rounds_succ]
      go_wp2_with fail
      rw [rounds_succ]
      go_wp2_with fail
      rw [rounds_succ]
      go_wp2_with fail
      go_ret
      exact ⟨rfl, rfl⟩
    · have hy2 : (y == 0) = false := by simpa using hy
      have hy3 : (y != 0) = true := by simpa using hy
      clear hy
      go_enter Try.func78, Try.ntmps78
      go_wp2_with fail
      refine wp_loop_rounds 3 ?_
      rw [rounds_succ]
      go_wp2_with fail
      rw [rounds_succ]
      go_wp2_with fail
      go_ret
      exact ⟨rfl, rfl⟩
  · rw [if_neg hx]
    have hx2 : (x == 0) = false := by simpa using hx
    have hx3 : (x != 0) = true := by simpa using hx
    clear hx
    go_enter Try.func78, Try.ntmps78
    go_wp2_with fail
    refine wp_loop_rounds 3 ?_
    rw [rounds_succ]
    go_wp2_with fail
    go_ret
    exact ⟨rfl, rfl⟩

/-! ### place.Compare, and the reference's -/
noncomputable def rightB (a b : Nat) : Bool := (part? a).isSome && (part? b).isSome
theorem right_yes {a b : Nat} (h : rightB a b = true) : ∃ s o, part? a = some s ∧ part? b = some o := by
  unfold rightB at h
  rw [Bool.and_eq_true] at h
  obtain ⟨h1, h2⟩ := h
  obtain ⟨s, hs⟩ := Option.isSome_iff_exists.1 h1
  obtain ⟨o, ho⟩ := Option.isSome_iff_exists.1 h2
  exact ⟨s, o, hs, ho⟩
theorem right_no {a b : Nat} (h : rightB a b = false) : part? a = none ∨ part? b = none := by
  unfold rightB at h
  cases ha : part? a with
  | none => exact .inl rfl
  | some s =>
    cases hb : part? b with
    | none => exact .inr rfl
    | some o => simp [ha, hb] at h
theorem right_of {a b s o : Nat} (ha : part? a = some s) (hb : part? b = some o) : rightB a b = true := by simp [rightB, ha, hb]

/-- How two places stand. -/
def cmpParts (p q : Option (Nat × Nat)) : Int :=
  match p, q with
  | none, none => 0
  | some _, none => -1
  | none, some _ => 1
  | some (s, o), some (t, u) => if (s : Int) = t then cmpI o u else cmpI s t
noncomputable def parts? (a b : Nat) : Option (Nat × Nat) := (part? a).bind fun s => (part? b).map fun o => (s, o)
theorem parts_some {a b s o : Nat} (ha : part? a = some s) (hb : part? b = some o) : parts? a b = some (s, o) := by simp [parts?, ha, hb]
theorem parts_none {a b : Nat} (h : part? a = none ∨ part? b = none) : parts? a b = none := by
  unfold parts?
  rcases h with h | h
  · simp [h]
  · rw [h]; cases part? a <;> rfl

theorem cmpI_zero {a b : Int} : cmpI a b = 0 ↔ a = b := by
  unfold cmpI
  split
  · omega
  · split <;> omega

set_option maxHeartbeats 400000 in
theorem compare_any (a b c d : Nat) (w : World) : Makes 49 #[cx a b, cx c d] w (i64 (cmpParts (parts? a b) (parts? c d))) := by
  cases hp : rightB a b with
  | false =>
    have g1 := Lib.hid (parts_no w (right_no hp))
    rw [parts_none (right_no hp)]
    cases hq : rightB c d with
    | false =>
      have g2 := Lib.hid (parts_no w (right_no hq))
      rw [parts_none (right_no hq)]
      clear hp hq
      refine Gives.makes ?_
      go_enter Try.func49, Try.ntmps49
      go_wp2_with fail
      refine g1.out.mono ?_; rintro e w' ⟨rfl, rfl⟩
      go_wp2_with fail
      refine g2.out.mono ?_; rintro e w' ⟨rfl, rfl⟩
      go_wp2_with fail
      go_ret
      exact ⟨rfl, rfl⟩
    | true =>
      obtain ⟨t, u, hc, hd⟩ := right_yes hq
      have g2 := Lib.hid (parts_yes w hc hd)
      rw [parts_some hc hd]
      clear hp hq hc hd
      refine Gives.makes ?_
      go_enter Try.func49, Try.ntmps49
      go_wp2_with fail
      refine g1.out.mono ?_; rintro e w' ⟨rfl, rfl⟩
      go_wp2_with fail
      refine g2.out.mono ?_; rintro e w' ⟨rfl, rfl⟩
      go_wp2_with fail
      go_ret
      exact ⟨rfl, rfl⟩
  | true =>
    obtain ⟨s, o, ha, hb⟩ := right_yes hp
    have g1 := Lib.hid (parts_yes w ha hb)
    rw [parts_some ha hb]
    cases hq : rightB c d with
    | false =>
      have g2 := Lib.hid (parts_no w (right_no hq))
      rw [parts_none (right_no hq)]
      clear hp hq ha hb
      refine Gives.makes ?_
      go_enter Try.func49, Try.ntmps49
      go_wp2_with fail
      refine g1.out.mono ?_; rintro e w' ⟨rfl, rfl⟩
      go_wp2_with fail
      refine g2.out.mono ?_; rintro e w' ⟨rfl, rfl⟩
      go_wp2_with fail
      go_ret
      exact ⟨rfl, rfl⟩
    | true =>
      obtain ⟨t, u, hc, hd⟩ := right_yes hq
      have g2 := Lib.hid (parts_yes w hc hd)
      rw [parts_some hc hd]
      clear hp hq hc hd ha hb
      have g3 := Lib.hid (compare_int s t w)
      have g4 := Lib.hid (compare_int o u w)
      have hv : cmpParts (some (s, o)) (some (t, u)) = if cmpI s t = 0 then cmpI o u else cmpI s t := by
        simp only [cmpParts]
        by_cases h : (s : Int) = t
        · rw [if_pos h, if_pos (cmpI_zero.2 h)]
        · rw [if_neg h, if_neg (fun e => h (cmpI_zero.1 e))]
      rw [hv]
      clear hv
      generalize cmpI s t = x at g3 ⊢
      generalize cmpI o u = y at g4 ⊢
      have g5 : ∀ (W : World) (p : Nat) (h0 : W.cell? ⟨p, 0, none⟩ = some (i64 x)) (h1 : W.cell? ⟨p, 1, none⟩ = some (i64 y)), Hid (Gives 78 #[.slice (some ⟨p, 0, none⟩) 2 2] W (i64 (if x = 0 then y else x))) := fun W p h0 h1 => Lib.hid (or_two W x y p h0 h1)
      go_enter Try.func49, Try.ntmps49
      go_wp2_with fail
      refine g1.out.mono ?_; rintro e w' ⟨rfl, rfl⟩
      go_wp2_with fail
      refine g2.out.mono ?_; rintro e w' ⟨rfl, rfl⟩
      go_wp2_with fail
      refine g3.out.mono ?_; rintro e w' ⟨rfl, rfl⟩
      go_wp2_with fail
      refine g4.out.mono ?_; rintro e w' ⟨rfl, rfl⟩
      go_wp2_with fail
      refine (g5 _ _ (by go_simp) (by go_simp)).out.mono ?_; rintro e w' ⟨rfl, rfl⟩
      go_wp2_with fail
      all_goals (go_ret; exact ⟨rfl, (Below.refl _ _).alloc (Nat.le_refl _) _⟩)

set_option maxHeartbeats 400000 in
theorem rcompare_any (a b c d : Nat) (w : World) : Gives 50 #[cx a b, cx c d] w (i64 (cmpParts (parts? a b) (parts? c d))) := by
  have r1 := right_any a b w
  have r2 := right_any c d w
  cases hp : rightB a b with
  | false =>
    rw [show ((part? a).isSome && (part? b).isSome) = false from hp] at r1
    rw [parts_none (right_no hp)]
    cases hq : rightB c d with
    | false =>
      rw [show ((part? c).isSome && (part? d).isSome) = false from hq] at r2
      rw [parts_none (right_no hq)]
      have g1 := Lib.hid r1
      have g2 := Lib.hid r2
      clear hp hq r1 r2
      go_enter Try.func50, Try.ntmps50
      go_wp2_with fail
      refine g1.out.mono ?_; rintro e w' ⟨rfl, rfl⟩
      go_wp2_with fail
      refine g2.out.mono ?_; rintro e w' ⟨rfl, rfl⟩
      go_wp2_with fail
      go_ret
      exact ⟨rfl, rfl⟩
    | true =>
      rw [show ((part? c).isSome && (part? d).isSome) = true from hq] at r2
      obtain ⟨t, u, hc, hd⟩ := right_yes hq
      rw [parts_some hc hd]
      have g1 := Lib.hid r1
      have g2 := Lib.hid r2
      clear hp hq hc hd r1 r2
      go_enter Try.func50, Try.ntmps50
      go_wp2_with fail
      refine g1.out.mono ?_; rintro e w' ⟨rfl, rfl⟩
      go_wp2_with fail
      refine g2.out.mono ?_; rintro e w' ⟨rfl, rfl⟩
      go_wp2_with fail
      refine g2.out.mono ?_; rintro e w' ⟨rfl, rfl⟩
      go_wp2_with fail
      refine g1.out.mono ?_; rintro e w' ⟨rfl, rfl⟩
      go_wp2_with fail
      go_ret
      exact ⟨rfl, rfl⟩
  | true =>
    rw [show ((part? a).isSome && (part? b).isSome) = true from hp] at r1
    obtain ⟨s, o, ha, hb⟩ := right_yes hp
    rw [parts_some ha hb]
    cases hq : rightB c d with
    | false =>
      rw [show ((part? c).isSome && (part? d).isSome) = false from hq] at r2
      rw [parts_none (right_no hq)]
      have g1 := Lib.hid r1
      have g2 := Lib.hid r2
      clear hp hq r1 r2
      go_enter Try.func50, Try.ntmps50
      go_wp2_with fail
      refine g1.out.mono ?_; rintro e w' ⟨rfl, rfl⟩
      go_wp2_with fail
      refine g2.out.mono ?_; rintro e w' ⟨rfl, rfl⟩
      go_wp2_with fail
      go_ret
      exact ⟨rfl, rfl⟩
    | true =>
      rw [show ((part? c).isSome && (part? d).isSome) = true from hq] at r2
      obtain ⟨t, u, hc, hd⟩ := right_yes hq
      rw [parts_some hc hd]
      have g1 := Lib.hid r1
      have g2 := Lib.hid r2
      have g3 := Lib.hid (sector_in (b := b) w ha)
      have g4 := Lib.hid (offset_in (a := a) w hb)
      have g5 := Lib.hid (sector_in (b := d) w hc)
      have g6 := Lib.hid (offset_in (a := c) w hd)
      clear hp hq r1 r2 ha hb hc hd
      simp only [cmpParts, cmpI]
      by_cases h1 : (s : Int) = t
      · rw [if_pos h1]
        have e1 : ((s : Int) != t) = false := by simpa using h1
        by_cases h2 : (o : Int) < u
        · rw [if_pos h2]
          clear h1
          go_enter Try.func50, Try.ntmps50
          go_wp2_with fail
          refine g1.out.mono ?_; rintro e w' ⟨rfl, rfl⟩
          go_wp2_with fail
          refine g2.out.mono ?_; rintro e w' ⟨rfl, rfl⟩
          go_wp2_with fail
          refine g1.out.mono ?_; rintro e w' ⟨rfl, rfl⟩
          go_wp2_with fail
          refine g3.out.mono ?_; rintro e w' ⟨rfl, rfl⟩
          go_wp2_with fail
          refine g5.out.mono ?_; rintro e w' ⟨rfl, rfl⟩
          go_wp2_with fail
          refine g4.out.mono ?_; rintro e w' ⟨rfl, rfl⟩
          go_wp2_with fail
          refine g6.out.mono ?_; rintro e w' ⟨rfl, rfl⟩
          go_wp2_with fail
          go_ret
          exact ⟨rfl, rfl⟩
        · rw [if_neg h2]
          by_cases h3 : (u : Int) < o
          · rw [if_pos h3]
            clear h1
            go_enter Try.func50, Try.ntmps50
            go_wp2_with fail
            refine g1.out.mono ?_; rintro e w' ⟨rfl, rfl⟩
            go_wp2_with fail
            refine g2.out.mono ?_; rintro e w' ⟨rfl, rfl⟩
            go_wp2_with fail
            refine g1.out.mono ?_; rintro e w' ⟨rfl, rfl⟩
            go_wp2_with fail
            refine g3.out.mono ?_; rintro e w' ⟨rfl, rfl⟩
            go_wp2_with fail
            refine g5.out.mono ?_; rintro e w' ⟨rfl, rfl⟩
            go_wp2_with fail
            refine g4.out.mono ?_; rintro e w' ⟨rfl, rfl⟩
            go_wp2_with fail
            refine g6.out.mono ?_; rintro e w' ⟨rfl, rfl⟩
            go_wp2_with fail
            refine g4.out.mono ?_; rintro e w' ⟨rfl, rfl⟩
            go_wp2_with fail
            refine g6.out.mono ?_; rintro e w' ⟨rfl, rfl⟩
            go_wp2_with fail
            go_ret
            exact ⟨rfl, rfl⟩
          · rw [if_neg h3]
            clear h1
            go_enter Try.func50, Try.ntmps50
            go_wp2_with fail
            refine g1.out.mono ?_; rintro e w' ⟨rfl, rfl⟩
            go_wp2_with fail
            refine g2.out.mono ?_; rintro e w' ⟨rfl, rfl⟩
            go_wp2_with fail
            refine g1.out.mono ?_; rintro e w' ⟨rfl, rfl⟩
            go_wp2_with fail
            refine g3.out.mono ?_; rintro e w' ⟨rfl, rfl⟩
            go_wp2_with fail
            refine g5.out.mono ?_; rintro e w' ⟨rfl, rfl⟩
            go_wp2_with fail
            refine g4.out.mono ?_; rintro e w' ⟨rfl, rfl⟩
            go_wp2_with fail
            refine g6.out.mono ?_; rintro e w' ⟨rfl, rfl⟩
            go_wp2_with fail
            refine g4.out.mono ?_; rintro e w' ⟨rfl, rfl⟩
            go_wp2_with fail
            refine g6.out.mono ?_; rintro e w' ⟨rfl, rfl⟩
            go_wp2_with fail
            go_ret
            exact ⟨rfl, rfl⟩
      · rw [if_neg h1]
        have e1 : ((s : Int) != t) = true := by simpa using h1
        by_cases h2 : (s : Int) < t
        · rw [if_pos h2]
          clear h1
          go_enter Try.func50, Try.ntmps50
          go_wp2_with fail
          refine g1.out.mono ?_; rintro e w' ⟨rfl, rfl⟩
          go_wp2_with fail
          refine g2.out.mono ?_; rintro e w' ⟨rfl, rfl⟩
          go_wp2_with fail
          refine g1.out.mono ?_; rintro e w' ⟨rfl, rfl⟩
          go_wp2_with fail
          refine g3.out.mono ?_; rintro e w' ⟨rfl, rfl⟩
          go_wp2_with fail
          refine g5.out.mono ?_; rintro e w' ⟨rfl, rfl⟩
          go_wp2_with fail
          refine g3.out.mono ?_; rintro e w' ⟨rfl, rfl⟩
          go_wp2_with fail
          refine g5.out.mono ?_; rintro e w' ⟨rfl, rfl⟩
          go_wp2_with fail
          go_ret
          exact ⟨rfl, rfl⟩
        · rw [if_neg h2, if_pos (by omega)]
          clear h1
          go_enter Try.func50, Try.ntmps50
          go_wp2_with fail
          refine g1.out.mono ?_; rintro e w' ⟨rfl, rfl⟩
          go_wp2_with fail
          refine g2.out.mono ?_; rintro e w' ⟨rfl, rfl⟩
          go_wp2_with fail
          refine g1.out.mono ?_; rintro e w' ⟨rfl, rfl⟩
          go_wp2_with fail
          refine g3.out.mono ?_; rintro e w' ⟨rfl, rfl⟩
          go_wp2_with fail
          refine g5.out.mono ?_; rintro e w' ⟨rfl, rfl⟩
          go_wp2_with fail
          refine g3.out.mono ?_; rintro e w' ⟨rfl, rfl⟩
          go_wp2_with fail
          refine g5.out.mono ?_; rintro e w' ⟨rfl, rfl⟩
          go_wp2_with fail
          go_ret
          exact ⟨rfl, rfl⟩

end Go.Proofs.Ytbbiohgillhmnaa
