/- More of package place: Put, Get, Compare, and their references: contracts. -/
import Derived.Test.YtnmeaminfoopmaaGreatDoorPlace
import Derived.Test.YtnmeaminfoopmaaGreatDoorMg1
import Derived.Deep.QuietTactic
import Derived.BigQuiet
import Derived.Deep.DeepFit
import Derived.Laws.StructEq
namespace Go.Proofs.YtnmeaminfoopmaaGreatDoor
open Go.RowKit Flo

abbrev u8 (n : Int) : Value := .int .u8 n
/-- A call that comes back with v; what was there is as it was. -/
abbrev Makes (f : FuncId) (args : Array Value) (w : World) (v : Value) : Prop := Calls Tryz.prog f args w fun e w' => e = .returned v ∧ Below w.heap.size w w'

/-- A call that comes back with v and has made one block. -/
abbrev Makes1 (f : FuncId) (args : Array Value) (w : World) (v : Value) (o : Obj) : Prop := Calls Tryz.prog f args w fun e w' => e = .returned v ∧ w' = w.alloc o
theorem Makes1.makes {f : FuncId} {args : Array Value} {w : World} {v : Value} {o : Obj} (h : Makes1 f args w v o) : Makes f args w v :=
  h.mono fun e w' ⟨he, hw⟩ => ⟨he, by subst hw; exact (Below.refl _ _).alloc (Nat.le_refl _) _⟩
abbrev bytes3 (a b c : Int) : Obj := .cells #[u8 a, u8 b, u8 c] 183

theorem Gives.makes {f : FuncId} {args : Array Value} {w : World} {v : Value} (h : Gives f args w v) : Makes f args w v :=
  h.mono fun e w' ⟨he, hw⟩ => ⟨he, by subst hw; exact Below.refl _ _⟩

/-! ### Put -/
set_option maxHeartbeats 400000 in
theorem put_in (a b : Nat) (s o : Nat) (w : World) (ha : part? a = some s) (hb : part? b = some o) (h1 : s < 255) (h2 : o < 65536) : Makes1 124 #[cx a b] w (.agg #[u8 s, u8 (o / 256), u8 (o % 256)]) (bytes3 s (o / 256) (o % 256)) := by
  have g : ∀ w, Hid (Gives 66 #[cx a b] w (.tuple #[i64 s, i64 o, .bool true])) := fun w => Lib.hid (parts_yes w ha hb)
  clear ha hb
  have e1 : (s : Int) ≤ 254 := by omega
  have e2 : (o : Int) ≤ 65535 := by omega
  go_enter Tryz.func124, Tryz.ntmps124
  go_wp2_with fail
  refine (g _).out.mono ?_; rintro e w' ⟨rfl, rfl⟩
  go_wp2_with fail
  exact bodyPost_ret (v := .agg #[u8 s, u8 (o / 256), u8 (o % 256)]) (by simp [results, Tryz.results124, go_sem]) rfl ⟨rfl, rfl⟩

set_option maxHeartbeats 400000 in
theorem put_far (a b : Nat) (s o : Nat) (w : World) (ha : part? a = some s) (hb : part? b = some o) (h : 254 < s ∨ 65535 < o) : Makes1 124 #[cx a b] w (.agg #[u8 255, u8 255, u8 255]) (bytes3 255 255 255) := by
  have g : ∀ w, Hid (Gives 66 #[cx a b] w (.tuple #[i64 s, i64 o, .bool true])) := fun w => Lib.hid (parts_yes w ha hb)
  clear ha hb
  by_cases h1 : (254 : Int) < s
  · clear h
    go_enter Tryz.func124, Tryz.ntmps124
    go_wp2_with fail
    refine (g _).out.mono ?_; rintro e w' ⟨rfl, rfl⟩
    go_wp2_with fail
    exact bodyPost_ret (v := .agg #[u8 255, u8 255, u8 255]) (by simp [results, Tryz.results124, go_sem]) rfl ⟨rfl, rfl⟩
  · have h2 : (65535 : Int) < o := by omega
    clear h
    go_enter Tryz.func124, Tryz.ntmps124
    go_wp2_with fail
    refine (g _).out.mono ?_; rintro e w' ⟨rfl, rfl⟩
    go_wp2_with fail
    exact bodyPost_ret (v := .agg #[u8 255, u8 255, u8 255]) (by simp [results, Tryz.results124, go_sem]) rfl ⟨rfl, rfl⟩

set_option maxHeartbeats 400000 in
theorem put_no (a b : Nat) (w : World) (h : part? a = none ∨ part? b = none) : Makes1 124 #[cx a b] w (.agg #[u8 255, u8 255, u8 255]) (bytes3 255 255 255) := by
  have g : ∀ w, Hid (Gives 66 #[cx a b] w (.tuple #[i64 0, i64 0, .bool false])) := fun w => Lib.hid (parts_no w h)
  clear h
  go_enter Tryz.func124, Tryz.ntmps124
  go_wp2_with fail
  refine (g _).out.mono ?_; rintro e w' ⟨rfl, rfl⟩
  go_wp2_with fail
  exact bodyPost_ret (v := .agg #[u8 255, u8 255, u8 255]) (by simp [results, Tryz.results124, go_sem]) rfl ⟨rfl, rfl⟩

/-! ### Get, and the reference's -/
/-- The place of three bytes. -/
def placeOf3 (a b c : Int) : Value := if a = 255 ∧ b = 255 ∧ c = 255 then cx 13830554455654793216 0 else cx (near a) (near (b * 256 + c))

/-- '|' of two numbers that share no place. -/
theorem wraps_i64 (n : Int) (h0 : 0 ≤ n) (h1 : n < 2 ^ 62) : IntKind.i64.wrap n = n := by rw [IntKind.wrap_i64]; omega
theorem or_i64 (i : Nat) (x y : Int) (hx : 0 ≤ x) (hm : x % 2 ^ i = 0) (hx1 : x < 2 ^ 62) (hy : 0 ≤ y) (hy1 : y < 2 ^ i) (hy2 : y < 2 ^ 62) : bits .or .i64 x y = x + y :=
  bits_join .i64 62 (by decide) wraps_i64 i x y hx hm hx1 hy hy1 hy2

theorem eql3 (a b c d e f : Int) (w : World) : (Op.equalIn 10000 183 (.agg #[u8 a, u8 b, u8 c]) (.agg #[u8 d, u8 e, u8 f])).run Tryz.prog w = .ok (decide (a = d ∧ b = e ∧ c = f)) w := by
  have := Base.run_eql_ints (P := Tryz.prog) w Tryz.underlying183 (by kernel_rfl) Tryz.underlying5 [a, b, c] [d, e, f] rfl rfl
  simpa using this

set_option maxHeartbeats 400000 in
set_option maxRecDepth 100000 in
theorem get_any (a b c : Int) (w : World) (a0 : 0 ≤ a) (a1 : a ≤ 255) (b0 : 0 ≤ b) (b1 : b ≤ 255) (c0 : 0 ≤ c) (c1 : c ≤ 255) : Makes1 182 #[.agg #[u8 a, u8 b, u8 c]] w (placeOf3 a b c) (bytes3 a b c) := by
  have g : ∀ w, Hid (Gives 56 #[i64 a, i64 (b * 256 + c)] w (cx (near a) (near (b * 256 + c)))) := fun w => Lib.hid (of_in a (b * 256 + c) w (by omega) (by omega) (by omega) (by omega))
  have he := eql3 a b c 255 255 255
  by_cases h : a = 255 ∧ b = 255 ∧ c = 255
  · have hv : placeOf3 a b c = cx 13830554455654793216 0 := if_pos h
    rw [hv]
    rw [decide_eq_true h] at he
    clear g h hv a0 a1 b0 b1 c0 c1
    go_enter Tryz.func182, Tryz.ntmps182
    go_wp2_with fail
    go_ret
    exact ⟨rfl, rfl⟩
  · have hv : placeOf3 a b c = cx (near a) (near (b * 256 + c)) := if_neg h
    rw [hv]
    rw [decide_eq_false h] at he
    have hor : bits .or .i64 (b * 256) c = b * 256 + c := or_i64 8 (b * 256) c (by omega) (by omega) (by omega) c0 (by omega) (by omega)
    clear h hv
    go_enter Tryz.func182, Tryz.ntmps182
    go_wp2_with fail
    refine (g _).out.mono ?_; rintro e w' ⟨rfl, rfl⟩
    go_wp2_with fail
    go_ret
    exact ⟨rfl, rfl⟩

set_option maxHeartbeats 400000 in
set_option maxRecDepth 100000 in
theorem rget_any (a b c : Int) (w : World) (a0 : 0 ≤ a) (a1 : a ≤ 255) (b0 : 0 ≤ b) (b1 : b ≤ 255) (c0 : 0 ≤ c) (c1 : c ≤ 255) : Gives 148 #[u8 a, u8 b, u8 c] w (placeOf3 a b c) := by
  have g : ∀ w, Hid (Gives 106 #[i64 a, i64 (256 * b + c)] w (cx (near a) (near (256 * b + c)))) := fun w => Lib.hid (rof_in a (256 * b + c) w (by omega) (by omega) (by omega) (by omega))
  by_cases h : a = 255 ∧ b = 255 ∧ c = 255
  · have hv : placeOf3 a b c = cx 13830554455654793216 0 := if_pos h
    rw [hv]
    obtain ⟨rfl, rfl, rfl⟩ := h
    clear g hv a0 a1 b0 b1 c0 c1
    go_enter Tryz.func148, Tryz.ntmps148
    go_wp2_with fail
    go_ret
    exact ⟨rfl, rfl⟩
  · have hv : placeOf3 a b c = cx (near a) (near (256 * b + c)) := by rw [Int.mul_comm]; exact if_neg h
    rw [hv]
    clear hv
    by_cases ha : a = 255
    · by_cases hb : b = 255
      · have h1 : (c == 255) = false := by rw [beq_eq_false_iff_ne]; omega
        have h2 : (a == 255) = true := by simpa using ha
        have h3 : (b == 255) = true := by simpa using hb
        clear h ha hb
        go_enter Tryz.func148, Tryz.ntmps148
        go_wp2_with fail
        refine (g _).out.mono ?_; rintro e w' ⟨rfl, rfl⟩
        go_wp2_with fail
        go_ret
        exact ⟨rfl, rfl⟩
      · have h1 : (b == 255) = false := by rw [beq_eq_false_iff_ne]; omega
        have h2 : (a == 255) = true := by simpa using ha
        clear h ha hb
        go_enter Tryz.func148, Tryz.ntmps148
        go_wp2_with fail
        refine (g _).out.mono ?_; rintro e w' ⟨rfl, rfl⟩
        go_wp2_with fail
        go_ret
        exact ⟨rfl, rfl⟩
    · have h1 : (a == 255) = false := by rw [beq_eq_false_iff_ne]; omega
      clear h ha
      go_enter Tryz.func148, Tryz.ntmps148
      go_wp2_with fail
      refine (g _).out.mono ?_; rintro e w' ⟨rfl, rfl⟩
      go_wp2_with fail
      go_ret
      exact ⟨rfl, rfl⟩

/-! ### cmp.Compare, cmp.Or -/
/-- -1, 0, 1. -/
def cmpI (a b : Int) : Int := if a < b then -1 else if b < a then 1 else 0

set_option maxHeartbeats 400000 in
theorem isNaN_int (a : Int) (w : World) : Gives 169 #[i64 a] w (.bool false) := by
  go_enter Tryz.func169, Tryz.ntmps169
  go_wp2_with fail
  go_ret
  exact ⟨rfl, rfl⟩

set_option maxHeartbeats 400000 in
theorem compare_int (a b : Int) (w : World) : Gives 141 #[i64 a, i64 b] w (i64 (cmpI a b)) := by
  have g1 := Lib.hid (isNaN_int a w)
  have g2 := Lib.hid (isNaN_int b w)
  unfold cmpI
  by_cases h : a < b
  · rw [if_pos h]
    go_enter Tryz.func141, Tryz.ntmps141
    go_wp2_with fail
    refine g1.out.mono ?_; rintro e w' ⟨rfl, rfl⟩
    go_wp2_with fail
    refine g2.out.mono ?_; rintro e w' ⟨rfl, rfl⟩
    go_wp2_with fail
    go_ret
    exact ⟨rfl, rfl⟩
  · rw [if_neg h]
    by_cases h2 : b < a
    · rw [if_pos h2]
      go_enter Tryz.func141, Tryz.ntmps141
      go_wp2_with fail
      refine g1.out.mono ?_; rintro e w' ⟨rfl, rfl⟩
      go_wp2_with fail
      refine g2.out.mono ?_; rintro e w' ⟨rfl, rfl⟩
      go_wp2_with fail
      go_ret
      exact ⟨rfl, rfl⟩
    · rw [if_neg h2]
      go_enter Tryz.func141, Tryz.ntmps141
      go_wp2_with fail
      refine g1.out.mono ?_; rintro e w' ⟨rfl, rfl⟩
      go_wp2_with fail
      refine g2.out.mono ?_; rintro e w' ⟨rfl, rfl⟩
      go_wp2_with fail
      go_ret
      exact ⟨rfl, rfl⟩

/-! ### place.Compare, and the reference's -/
noncomputable def rightB (a b : Nat) : Bool := (part? a).isSome && (part? b).isSome
theorem right_yes {a b : Nat} (h : rightB a b = true) : ∃ s o, part? a = some s ∧ part? b = some o := by
  unfold rightB at h
  rw [Bool.and_eq_true] at h
  obtain ⟨h1, h2⟩ := h
  obtain ⟨s, hs⟩ := Option.isSome_iff_exists.1 h1
  obtain ⟨o, ho⟩ := Option.isSome_iff_exists.1 h2
  exact ⟨s, o, hs, ho⟩
theorem right_no {a b : Nat} (h : rightB a b = false) : part? a = none ∨ part? b = none := by
  unfold rightB at h
  cases ha : part? a with
  | none => exact .inl rfl
  | some s =>
    cases hb : part? b with
    | none => exact .inr rfl
    | some o => simp [ha, hb] at h
theorem right_of {a b s o : Nat} (ha : part? a = some s) (hb : part? b = some o) : rightB a b = true := by simp [rightB, ha, hb]

/-- How two places stand. -/
def cmpParts (p q : Option (Nat × Nat)) : Int :=
  match p, q with
  | none, none => 0
  | some _, none => -1
  | none, some _ => 1
  | some (s, o), some (t, u) => if (s : Int) = t then cmpI o u else cmpI s t
noncomputable def parts? (a b : Nat) : Option (Nat × Nat) := (part? a).bind fun s => (part? b).map fun o => (s, o)
theorem parts_some {a b s o : Nat} (ha : part? a = some s) (hb : part? b = some o) : parts? a b = some (s, o) := by simp [parts?, ha, hb]
theorem parts_none {a b : Nat} (h : part? a = none ∨ part? b = none) : parts? a b = none := by
  unfold parts?
  rcases h with h | h
  · simp [h]
  · rw [h]; cases part? a <;> rfl

theorem cmpI_zero {a b : Int} : cmpI a b = 0 ↔ a = b := by
  unfold cmpI
  split
  · omega
  · split <;> omega

end Go.Proofs.YtnmeaminfoopmaaGreatDoor

/- What the functions of package ring come to: sizes, items that may be. -/
namespace Go.Proofs.YtnmeaminfoopmaaGreatDoor
open Go.RowKit Flo

/-- The size of a key and a value. -/
def sizeB (k v : ByteArray) : Int := if 48 < k.size ∨ 64 < v.size then 0 else 32 + k.size + v.size

set_option maxHeartbeats 400000 in
theorem recSize_any (n : Int) (w : World) (h0 : 0 ≤ n) (h : n ≤ 200) : Gives 151 #[i64 n] w (i64 (8 + n)) := by
  have h1 : ¬ n < 0 := by omega
  have h2 : decide (65535 < n) = false := decide_eq_false (by omega)
  go_enter Tryz.func151, Tryz.ntmps151
  go_wp2_with fail
  go_ret
  exact ⟨rfl, rfl⟩

set_option maxHeartbeats 400000 in
theorem ringSize_any (k v : ByteArray) (w : World) : Gives 109 #[.string k, .string v] w (i64 (sizeB k v)) := by
  by_cases h1 : 48 < k.size
  · have hv : sizeB k v = 0 := if_pos (.inl h1)
    have t1 : decide ((48 : Int) < (k.size : Int)) = true := decide_eq_true (by omega)
    rw [hv]
    clear hv h1
    go_enter Tryz.func109, Tryz.ntmps109
    go_wp2_with fail
    go_ret
    exact ⟨rfl, rfl⟩
  · by_cases h2 : 64 < v.size
    · have hv : sizeB k v = 0 := if_pos (.inr h2)
      have t1 : decide ((48 : Int) < (k.size : Int)) = false := decide_eq_false (by omega)
      have t2 : decide ((64 : Int) < (v.size : Int)) = true := decide_eq_true (by omega)
      rw [hv]
      clear hv h1 h2
      go_enter Tryz.func109, Tryz.ntmps109
      go_wp2_with fail
      go_ret
      exact ⟨rfl, rfl⟩
    · have hv : sizeB k v = 32 + k.size + v.size := if_neg (by omega)
      have t1 : decide ((48 : Int) < (k.size : Int)) = false := decide_eq_false (by omega)
      have t2 : decide ((64 : Int) < (v.size : Int)) = false := decide_eq_false (by omega)
      have g := fun W => recSize_any (24 + k.size + v.size) W (by omega) (by omega)
      rw [show (8 : Int) + (24 + k.size + v.size) = sizeB k v from by rw [hv]; omega] at g
      have G := fun W => Lib.hid (g W)
      clear hv g
      go_enter Tryz.func109, Tryz.ntmps109
      go_wp2_with fail
      refine (G _).out.mono ?_; rintro e w1 ⟨rfl, rfl⟩
      go_wp2_with fail
      go_ret
      exact ⟨rfl, rfl⟩

/-- An item. -/
structure Item where
  seq : Int
  ver : Int
  index : Int
  count : Int
  a : Nat
  b : Nat
  gone : Bool
  key : ByteArray
  value : ByteArray
abbrev Item.row (x : Item) : List Value := [.int .u64 x.seq, .int .u64 x.ver, i64 x.index, i64 x.count, cx x.a x.b, .bool x.gone, .string x.key, .string x.value]
abbrev Item.val (x : Item) : Value := .agg #[.int .u64 x.seq, .int .u64 x.ver, i64 x.index, i64 x.count, cx x.a x.b, .bool x.gone, .string x.key, .string x.value]
noncomputable def placeOk (a b : Nat) : Bool := match parts? a b with | some (s, o) => decide (s ≤ 254) && decide (o ≤ 65535) | none => false
noncomputable def mayB (x : Item) : Bool :=
  (decide (1 ≤ x.count) && decide (x.count ≤ 255) && decide (0 ≤ x.index) && decide (x.index < x.count)) && placeOk x.a x.b && !decide (x.key.toList = []) && decide (0 < sizeB x.key x.value) && (!x.gone || decide (x.value.toList = []))

set_option maxHeartbeats 4000000 in
set_option maxRecDepth 100000 in
/-- An item whose index or count can't be. -/
theorem may_bad (x : Item) (w : World) (h : x.count < 1 ∨ 255 < x.count ∨ x.index < 0 ∨ x.count ≤ x.index) : Makes 68 #[x.val] w (.bool false) := by
  by_cases h1 : x.count < 1
  · clear h
    go_enter Tryz.func68, Tryz.ntmps68
    go_wp2_with fail
    go_ret
    exact ⟨rfl, Base.al (Below.refl _ _) _⟩
  · by_cases h2 : 255 < x.count
    · clear h
      go_enter Tryz.func68, Tryz.ntmps68
      go_wp2_with fail
      go_ret
      exact ⟨rfl, Base.al (Below.refl _ _) _⟩
    · by_cases h3 : x.index < 0
      · clear h
        go_enter Tryz.func68, Tryz.ntmps68
        go_wp2_with fail
        go_ret
        exact ⟨rfl, Base.al (Below.refl _ _) _⟩
      · have h4 : x.count ≤ x.index := by omega
        clear h
        go_enter Tryz.func68, Tryz.ntmps68
        go_wp2_with fail
        go_ret
        exact ⟨rfl, Base.al (Below.refl _ _) _⟩

set_option maxHeartbeats 4000000 in
set_option maxRecDepth 100000 in
/-- An item whose place can't be. -/
theorem may_place (x : Item) (w : World) (h1 : ¬ x.count < 1) (h2 : ¬ 255 < x.count) (h3 : ¬ x.index < 0) (h4 : ¬ x.count ≤ x.index) (h : placeOk x.a x.b = false) : Makes 68 #[x.val] w (.bool false) := by
  unfold placeOk parts? at h
  cases ha : part? x.a with
  | none =>
    have g := fun W => Lib.hid (parts_no (a := x.a) (b := x.b) W (.inl ha))
    clear h ha
    go_enter Tryz.func68, Tryz.ntmps68
    go_wp2_with fail
    refine (g _).out.mono ?_; rintro e w1 ⟨rfl, rfl⟩
    go_wp2_with fail
    go_ret
    exact ⟨rfl, Base.al (Below.refl _ _) _⟩
  | some s =>
    cases hb : part? x.b with
    | none =>
      have g := fun W => Lib.hid (parts_no (a := x.a) (b := x.b) W (.inr hb))
      clear h ha hb
      go_enter Tryz.func68, Tryz.ntmps68
      go_wp2_with fail
      refine (g _).out.mono ?_; rintro e w1 ⟨rfl, rfl⟩
      go_wp2_with fail
      go_ret
      exact ⟨rfl, Base.al (Below.refl _ _) _⟩
    | some o =>
      rw [ha, hb] at h
      have g := fun W => Lib.hid (parts_yes W ha hb)
      by_cases hs : s ≤ 254
      · have ho : ¬ o ≤ 65535 := by simpa [hs] using h
        have t1 : decide ((254 : Int) < (s : Int)) = false := decide_eq_false (by omega)
        have t2 : decide ((65535 : Int) < (o : Int)) = true := decide_eq_true (by omega)
        clear h ha hb hs ho
        go_enter Tryz.func68, Tryz.ntmps68
        go_wp2_with fail
        refine (g _).out.mono ?_; rintro e w1 ⟨rfl, rfl⟩
        go_wp2_with fail
        go_ret
        exact ⟨rfl, Base.al (Below.refl _ _) _⟩
      · have t1 : decide ((254 : Int) < (s : Int)) = true := decide_eq_true (by omega)
        clear h ha hb hs
        go_enter Tryz.func68, Tryz.ntmps68
        go_wp2_with fail
        refine (g _).out.mono ?_; rintro e w1 ⟨rfl, rfl⟩
        go_wp2_with fail
        go_ret
        exact ⟨rfl, Base.al (Below.refl _ _) _⟩

set_option maxHeartbeats 4000000 in
set_option maxRecDepth 100000 in
/-- An item whose place, index and count can be. -/
theorem may_rest (x : Item) (w : World) (h1 : ¬ x.count < 1) (h2 : ¬ 255 < x.count) (h3 : ¬ x.index < 0) (h4 : ¬ x.count ≤ x.index) (h : placeOk x.a x.b = true) : Makes 68 #[x.val] w (.bool (!decide (x.key.toList = []) && decide (0 < sizeB x.key x.value) && (!x.gone || decide (x.value.toList = [])))) := by
  unfold placeOk parts? at h
  cases ha : part? x.a with
  | none => rw [ha] at h; simp at h
  | some s =>
    cases hb : part? x.b with
    | none => rw [ha, hb] at h; simp at h
    | some o =>
      rw [ha, hb] at h
      have g := fun W => Lib.hid (parts_yes W ha hb)
      have g1 := fun W => Lib.hid (ringSize_any x.key x.value W)
      have hs : s ≤ 254 ∧ o ≤ 65535 := by simpa using h
      have t1 : decide ((254 : Int) < (s : Int)) = false := decide_eq_false (by omega)
      have t2 : decide ((65535 : Int) < (o : Int)) = false := decide_eq_false (by omega)
      clear h ha hb hs
      by_cases hk : x.key.toList = []
      · have hv : (!decide (x.key.toList = []) && decide (0 < sizeB x.key x.value) && (!x.gone || decide (x.value.toList = []))) = false := by rw [decide_eq_true hk]; rfl
        rw [hv]
        clear hv
        go_enter Tryz.func68, Tryz.ntmps68
        go_wp2_with fail
        refine (g _).out.mono ?_; rintro e w1 ⟨rfl, rfl⟩
        go_wp2_with fail
        go_ret
        exact ⟨rfl, Base.al (Below.refl _ _) _⟩
      · obtain ⟨sz, hsz⟩ : ∃ sz, sz = sizeB x.key x.value := ⟨_, rfl⟩
        rw [← hsz] at g1 ⊢
        rw [decide_eq_false hk]
        clear hsz
        cases hg : x.gone <;> by_cases hp : 0 < sz <;> by_cases hv : x.value.toList = []
        all_goals
          have HG := Lib.hid hg
          go_enter Tryz.func68, Tryz.ntmps68
          go_wp2_with fail
          refine (g _).out.mono ?_; rintro e w1 ⟨rfl, rfl⟩
          go_wp2_with fail
          refine (g1 _).out.mono ?_; rintro e w1 ⟨rfl, rfl⟩
          go_wp2_with fail
          go_ret
          exact ⟨congrArg (fun b => Ending.returned (Value.bool b)) (by simp [hp, hv, hk]), Base.al (Below.refl _ _) _⟩

theorem may_any (x : Item) (w : World) : Makes 68 #[x.val] w (.bool (mayB x)) := by
  by_cases h : x.count < 1 ∨ 255 < x.count ∨ x.index < 0 ∨ x.count ≤ x.index
  · have hv : mayB x = false := by
      have : (decide (1 ≤ x.count) && decide (x.count ≤ 255) && decide (0 ≤ x.index) && decide (x.index < x.count)) = false := by
        rw [← Bool.not_eq_true]
        simp
        omega
      unfold mayB
      rw [this]; rfl
    rw [hv]
    exact may_bad x w h
  · have hv : (decide (1 ≤ x.count) && decide (x.count ≤ 255) && decide (0 ≤ x.index) && decide (x.index < x.count)) = true := by simp; omega
    have hm : mayB x = (placeOk x.a x.b && !decide (x.key.toList = []) && decide (0 < sizeB x.key x.value) && (!x.gone || decide (x.value.toList = []))) := by unfold mayB; rw [hv, Bool.true_and]
    rw [hm]
    cases hp : placeOk x.a x.b
    · exact may_place x w (by omega) (by omega) (by omega) (by omega) hp
    · exact may_rest x w (by omega) (by omega) (by omega) (by omega) hp
end Go.Proofs.YtnmeaminfoopmaaGreatDoor

/- Two items, two places held against each other. -/
namespace Go.Proofs.YtnmeaminfoopmaaGreatDoor
open Go.RowKit Flo

/-- '==' of two places. -/
noncomputable def cxEq (a b c d : Nat) : Bool := (FloatKind.f64.format.order a c == some Ordering.eq) && (FloatKind.f64.format.order b d == some Ordering.eq)
noncomputable def itemEq (x y : Item) : Bool := (x.seq == y.seq) && (x.ver == y.ver) && (x.index == y.index) && (x.count == y.count) && cxEq x.a x.b y.a y.b && (x.gone == y.gone) && (x.key.toList == y.key.toList) && (x.value.toList == y.value.toList)

theorem run_equalIn_cx {P : Program} (w : World) (d : Nat) {t : TypeId} (ht : P.underlying t = some (.complex .f64)) (a b c e : Nat) :
    (Op.equalIn (d + 1) t (cx a b) (cx c e)).run P w = .ok (cxEq a b c e) w := by
  simp [Op.equalIn, run_underlying ht, cxEq, Op.floatEq]

set_option maxHeartbeats 1000000 in
theorem run_eq_item (x y : Item) (w : World) (d : Nat) : (Op.equalIn (d + 2) 73 x.val y.val).run Tryz.prog w = .ok (itemEq x y) w := by
  rw [run_equalIn_struct w (d + 1) 73 _ _ (by kernel_rfl) (by kernel_rfl)]
  simp [go_sem, Program.fieldsOf, Tryz.underlying73, Op.eqFields]
  simp only [run_equalIn_cx w d Tryz.underlying71, Result.andThen_ok]
  unfold itemEq
  generalize cxEq x.a x.b y.a y.b = c
  cases c <;> repeat' split
  all_goals simp_all

theorem cxEq_self {a b s o : Nat} (ha : part? a = some s) (hb : part? b = some o) : cxEq a b a b = true := by
  unfold cxEq
  rw [Bool.and_eq_true]
  exact ⟨eqF_same (part_of ha).1 (part_of ha).1, eqF_same (part_of hb).1 (part_of hb).1⟩
theorem placeOk_parts {a b : Nat} (h : placeOk a b = true) : ∃ s o, part? a = some s ∧ part? b = some o ∧ s ≤ 254 ∧ o ≤ 65535 := by
  unfold placeOk parts? at h
  cases ha : part? a with
  | none => rw [ha] at h; cases h
  | some s =>
    cases hb : part? b with
    | none => rw [ha, hb] at h; cases h
    | some o =>
      rw [ha, hb] at h
      simp at h
      exact ⟨s, o, rfl, rfl, h⟩
theorem itemEq_self {x : Item} (h : placeOk x.a x.b = true) : itemEq x x = true := by
  obtain ⟨s, o, ha, hb, _⟩ := placeOk_parts h
  unfold itemEq
  rw [cxEq_self ha hb]
  simp
end Go.Proofs.YtnmeaminfoopmaaGreatDoor

