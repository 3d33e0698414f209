/- What the functions of package ring come to: sizes, items that may be. -/
import Derived.Test.YteieaelinkdahaaDoorMem
import Derived.Test.YteieaelinkdahaaDoorPlace2
import Derived.Test.YteieaelinkdahaaDoorQuiet
namespace Go.Proofs.YteieaelinkdahaaDoor
open Go.RowKit Flo

/-- The size of a key and a value. -/
def sizeB (k v : ByteArray) : Int := if 48 < k.size ∨ 64 < v.size then 0 else 32 + k.size + v.size

set_option maxHeartbeats 400000 in
theorem recSize_any (n : Int) (w : World) (h0 : 0 ≤ n) (h : n ≤ 200) : Gives 61 #[i64 n] w (i64 (8 + n)) := by
  have h1 : ¬ n < 0 := by omega
  have h2 : decide (65535 < n) = false := decide_eq_false (by omega)
  go_enter Tryd.func61, Tryd.ntmps61
  go_wp2_with fail
  go_ret
  exact ⟨rfl, rfl⟩

set_option maxHeartbeats 400000 in
theorem ringSize_any (k v : ByteArray) (w : World) : Gives 53 #[.string k, .string v] w (i64 (sizeB k v)) := by
  by_cases h1 : 48 < k.size
  · have hv : sizeB k v = 0 := if_pos (.inl h1)
    have t1 : decide ((48 : Int) < (k.size : Int)) = true := decide_eq_true (by omega)
    rw [hv]
    clear hv h1
    go_enter Tryd.func53, Tryd.ntmps53
    go_wp2_with fail
    go_ret
    exact ⟨rfl, rfl⟩
  · by_cases h2 : 64 < v.size
    · have hv : sizeB k v = 0 := if_pos (.inr h2)
      have t1 : decide ((48 : Int) < (k.size : Int)) = false := decide_eq_false (by omega)
      have t2 : decide ((64 : Int) < (v.size : Int)) = true := decide_eq_true (by omega)
      rw [hv]
      clear hv h1 h2
      go_enter Tryd.func53, Tryd.ntmps53
      go_wp2_with fail
      go_ret
      exact ⟨rfl, rfl⟩
    · have hv : sizeB k v = 32 + k.size + v.size := if_neg (by omega)
      have t1 : decide ((48 : Int) < (k.size : Int)) = false := decide_eq_false (by omega)
      have t2 : decide ((64 : Int) < (v.size : Int)) = false := decide_eq_false (by omega)
      have g := fun W => recSize_any (24 + k.size + v.size) W (by omega) (by omega)
      rw [show (8 : Int) + (24 + k.size + v.size) = sizeB k v from by rw [hv]; omega] at g
      have G := fun W => Lib.hid (g W)
      clear hv g
      go_enter Tryd.func53, Tryd.ntmps53
      go_wp2_with fail
      refine (G _).out.mono ?_; rintro e w1 ⟨rfl, rfl⟩
      go_wp2_with fail
      go_ret
      exact ⟨rfl, rfl⟩

/-- An item. -/
structure Item where
  seq : Int
  ver : Int
  index : Int
  count : Int
  a : Nat
  b : Nat
  gone : Bool
  key : ByteArray
  value : ByteArray
abbrev Item.row (x : Item) : List Value := [.int .u64 x.seq, .int .u64 x.ver, i64 x.index, i64 x.count, cx x.a x.b, .bool x.gone, .string x.key, .string x.value]
abbrev Item.val (x : Item) : Value := .agg #[.int .u64 x.seq, .int .u64 x.ver, i64 x.index, i64 x.count, cx x.a x.b, .bool x.gone, .string x.key, .string x.value]
noncomputable def placeOk (a b : Nat) : Bool := match parts? a b with | some (s, o) => decide (s ≤ 254) && decide (o ≤ 65535) | none => false
noncomputable def mayB (x : Item) : Bool :=
  (decide (1 ≤ x.count) && decide (x.count ≤ 255) && decide (0 ≤ x.index) && decide (x.index < x.count)) && placeOk x.a x.b && !decide (x.key.toList = []) && decide (0 < sizeB x.key x.value) && (!x.gone || decide (x.value.toList = []))

set_option maxHeartbeats 4000000 in
set_option maxRecDepth 100000 in
/-- An item whose index or count can't be. -/
theorem may_bad (x : Item) (w : World) (h : x.count < 1 ∨ 255 < x.count ∨ x.index < 0 ∨ x.count ≤ x.index) : Makes 35 #[x.val] w (.bool false) := by
  by_cases h1 : x.count < 1
  · clear h
    go_enter Tryd.func35, Tryd.ntmps35
    go_wp2_with fail
    go_ret
    exact ⟨rfl, Base.al (Below.refl _ _) _⟩
  · by_cases h2 : 255 < x.count
    · clear h
      go_enter Tryd.func35, Tryd.ntmps35
      go_wp2_with fail
      go_ret
      exact ⟨rfl, Base.al (Below.refl _ _) _⟩
    · by_cases h3 : x.index < 0
      · clear h
        go_enter Tryd.func35, Tryd.ntmps35
        go_wp2_with fail
        go_ret
        exact ⟨rfl, Base.al (Below.refl _ _) _⟩
      · have h4 : x.count ≤ x.index := by omega
        clear h
        go_enter Tryd.func35, Tryd.ntmps35
        go_wp2_with fail
        go_ret
        exact ⟨rfl, Base.al (Below.refl _ _) _⟩

set_option maxHeartbeats 4000000 in
set_option maxRecDepth 100000 in
/-- An item whose place can't be. -/
theorem may_place (x : Item) (w : World) (h1 : ¬ x.count < 1) (h2 : ¬ 255 < x.count) (h3 : ¬ x.index < 0) (h4 : ¬ x.count ≤ x.index) (h : placeOk x.a x.b = false) : Makes 35 #[x.val] w (.bool false) := by
  unfold placeOk parts? at h
  cases ha : part? x.a with
  | none =>
    have g := fun W => Lib.hid (parts_no (a := x.a) (b := x.b) W (.inl ha))
    clear h ha
    go_enter Tryd.func35, Tryd.ntmps35
    go_wp2_with fail
    refine (g _).out.mono ?_; rintro e w1 ⟨rfl, rfl⟩
    go_wp2_with fail
    go_ret
    exact ⟨rfl, Base.al (Below.refl _ _) _⟩
  | some s =>
    cases hb : part? x.b with
    | none =>
      have g := fun W => Lib.hid (parts_no (a := x.a) (b := x.b) W (.inr hb))
      clear h ha hb
      go_enter Tryd.func35, Tryd.ntmps35
      go_wp2_with fail
      refine (g _).out.mono ?_; rintro e w1 ⟨rfl, rfl⟩
      go_wp2_with fail
      go_ret
      exact ⟨rfl, Base.al (Below.refl _ _) _⟩
    | some o =>
      rw [ha, hb] at h
      have g := fun W => Lib.hid (parts_yes W ha hb)
      by_cases hs : s ≤ 254
      · have ho : ¬ o ≤ 65535 := by simpa [hs] using h
        have t1 : decide ((254 : Int) < (s : Int)) = false := decide_eq_false (by omega)
        have t2 : decide ((65535 : Int) < (o : Int)) = true := decide_eq_true (by omega)
        clear h ha hb hs ho
        go_enter Tryd.func35, Tryd.ntmps35
        go_wp2_with fail
        refine (g _).out.mono ?_; rintro e w1 ⟨rfl, rfl⟩
        go_wp2_with fail
        go_ret
        exact ⟨rfl, Base.al (Below.refl _ _) _⟩
      · have t1 : decide ((254 : Int) < (s : Int)) = true := decide_eq_true (by omega)
        clear h ha hb hs
        go_enter Tryd.func35, Tryd.ntmps35
        go_wp2_with fail
        refine (g _).out.mono ?_; rintro e w1 ⟨rfl, rfl⟩
        go_wp2_with fail
        go_ret
        exact ⟨rfl, Base.al (Below.refl _ _) _⟩

set_option maxHeartbeats 4000000 in
set_option maxRecDepth 100000 in
/-- An item whose place, index and count can be. -/
theorem may_rest (x : Item) (w : World) (h1 : ¬ x.count < 1) (h2 : ¬ 255 < x.count) (h3 : ¬ x.index < 0) (h4 : ¬ x.count ≤ x.index) (h : placeOk x.a x.b = true) : Makes 35 #[x.val] w (.bool (!decide (x.key.toList = []) && decide (0 < sizeB x.key x.value) && (!x.gone || decide (x.value.toList = [])))) := by
  unfold placeOk parts? at h
  cases ha : part? x.a with
  | none => rw [ha] at h; simp at h
  | some s =>
    cases hb : part? x.b with
    | none => rw [ha, hb] at h; simp at h
    | some o =>
      rw [ha, hb] at h
      have g := fun W => Lib.hid (parts_yes W ha hb)
      have g1 := fun W => Lib.hid (ringSize_any x.key x.value W)
      have hs : s ≤ 254 ∧ o ≤ 65535 := by simpa using h
      have t1 : decide ((254 : Int) < (s : Int)) = false := decide_eq_false (by omega)
      have t2 : decide ((65535 : Int) < (o : Int)) = false := decide_eq_false (by omega)
      clear h ha hb hs
      by_cases hk : x.key.toList = []
      · have hv : (!decide (x.key.toList = []) && decide (0 < sizeB x.key x.value) && (!x.gone || decide (x.value.toList = []))) = false := by rw [decide_eq_true hk]; rfl
        rw [hv]
        clear hv
        go_enter Tryd.func35, Tryd.ntmps35
        go_wp2_with fail
        refine (g _).out.mono ?_; rintro e w1 ⟨rfl, rfl⟩
        go_wp2_with fail
        go_ret
        exact ⟨rfl, Base.al (Below.refl _ _) _⟩
      · obtain ⟨sz, hsz⟩ : ∃ sz, sz = sizeB x.key x.value := ⟨_, rfl⟩
        rw [← hsz] at g1 ⊢
        rw [decide_eq_false hk]
        clear hsz
        cases hg : x.gone <;> by_cases hp : 0 < sz <;> by_cases hv : x.value.toList = []
        all_goals
          have HG := Lib.hid hg
          go_enter Tryd.func35, Tryd.ntmps35
          go_wp2_with fail
          refine (g _).out.mono ?_; rintro e w1 ⟨rfl, rfl⟩
          go_wp2_with fail
          refine (g1 _).out.mono ?_; rintro e w1 ⟨rfl, rfl⟩
          go_wp2_with fail
          go_ret
          exact ⟨congrArg (fun b => Ending.returned (Value.bool b)) (by simp [hp, hv, hk]), Base.al (Below.refl _ _) _⟩

theorem may_any (x : Item) (w : World) : Makes 35 #[x.val] w (.bool (mayB x)) := by
  by_cases h : x.count < 1 ∨ 255 < x.count ∨ x.index < 0 ∨ x.count ≤ x.index
  · have hv : mayB x = false := by
      have : (decide (1 ≤ x.count) && decide (x.count ≤ 255) && decide (0 ≤ x.index) && decide (x.index < x.count)) = false := by
        rw [← Bool.not_eq_true]
        simp
        omega
      unfold mayB
      rw [this]; rfl
    rw [hv]
    exact may_bad x w h
  · have hv : (decide (1 ≤ x.count) && decide (x.count ≤ 255) && decide (0 ≤ x.index) && decide (x.index < x.count)) = true := by simp; omega
    have hm : mayB x = (placeOk x.a x.b && !decide (x.key.toList = []) && decide (0 < sizeB x.key x.value) && (!x.gone || decide (x.value.toList = []))) := by unfold mayB; rw [hv, Bool.true_and]
    rw [hm]
    cases hp : placeOk x.a x.b
    · exact may_place x w (by omega) (by omega) (by omega) (by omega) hp
    · exact may_rest x w (by omega) (by omega) (by omega) (by omega) hp
end Go.Proofs.YteieaelinkdahaaDoor
