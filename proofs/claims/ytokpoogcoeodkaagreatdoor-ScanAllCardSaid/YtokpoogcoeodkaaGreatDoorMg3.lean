/- ring.Link. -/
import Derived.Test.YtokpoogcoeodkaaGreatDoorMg2
import Derived.Test.YtokpoogcoeodkaaGreatDoorPh
import Derived.Laws.StructEq
import Derived.Test.YtokpoogcoeodkaaGreatDoorMap
import Derived.Laws.MakeOwn
namespace Go.Proofs.YtokpoogcoeodkaaGreatDoor
open Go.RowKit Flo

structure Pair where
  key : ByteArray
  value : ByteArray
  gone : Bool
abbrev Pair.row (p : Pair) : List Value := [.string p.key, .string p.value, .bool p.gone]
instance : Inhabited Pair := ⟨⟨ByteArray.empty, ByteArray.empty, false⟩⟩
abbrev Pairs (w : World) (v : Value) (l : List Pair) : Prop := Sl w 3 v (l.map Pair.row)
abbrev U64s (w : World) (v : Value) (l : List Int) : Prop := Sl w 1 v (l.map fun n => [Value.int .u64 n])
abbrev Places (w : World) (v : Value) (l : List (Nat × Nat)) : Prop := Sl w 1 v (l.map fun p => [cx p.1 p.2])

/-- The item number k of a ring. -/
def linkItem (seq : Int) (l : List Pair) (vers : List Int) (ps : List (Nat × Nat)) (k : Nat) : Item :=
  ⟨seq, vers.getD k 0, k, l.length, (ps.getD ((k + 1) % l.length) (0, 0)).1, (ps.getD ((k + 1) % l.length) (0, 0)).2, (l.getD k default).gone, (l.getD k default).key, (l.getD k default).value⟩
def linkOk (seq : Int) (l : List Pair) (vers : List Int) (ps : List (Nat × Nat)) : Prop :=
  l.length ≠ 0 ∧ vers.length = l.length ∧ ps.length = l.length ∧ ∀ k, k < l.length → mayB (linkItem seq l vers ps k) = true

theorem info_Item : (Tryz.prog.info? 94).map (fun i => (i.zero, i.size, i.bytes)) = some (some (Item.val ⟨0, 0, 0, 0, 0, 0, false, ByteArray.empty, ByteArray.empty⟩), 8, 88) := by kernel_rfl
end Go.Proofs.YtokpoogcoeodkaaGreatDoor

/- ring.Link. -/
namespace Go.Proofs.YtokpoogcoeodkaaGreatDoor
open Go.RowKit Flo
attribute [local go_sem] run_store_complex

theorem U64s.cell {w : World} {A : Option Addr} {n cap : Nat} {xs : List Int} (h : U64s w (.slice A n cap) xs) (hn : 0 < xs.length) :
    ∃ b off, A = some ⟨b, off, none⟩ ∧ b < w.heap.size ∧ ∀ k, k < xs.length → w.cell? ⟨b, off + k, none⟩ = some (.int .u64 (xs.getD k 0)) := by
  have hl := h.len
  rw [List.length_map] at hl
  obtain ⟨b, off, hA, hb, hx⟩ := h.at (by omega)
  refine ⟨b, off, hA, hb, fun k hk => ?_⟩
  have := (hx k [.int .u64 (xs.getD k 0)] (by simp [List.getD, hk])).2 0 _ rfl
  simpa using this
theorem Places.cell {w : World} {A : Option Addr} {n cap : Nat} {xs : List (Nat × Nat)} (h : Places w (.slice A n cap) xs) (hn : 0 < xs.length) :
    ∃ b off, A = some ⟨b, off, none⟩ ∧ b < w.heap.size ∧ ∀ k, k < xs.length → w.cell? ⟨b, off + k, none⟩ = some (cx (xs.getD k (0, 0)).1 (xs.getD k (0, 0)).2) := by
  have hl := h.len
  rw [List.length_map] at hl
  obtain ⟨b, off, hA, hb, hx⟩ := h.at (by omega)
  refine ⟨b, off, hA, hb, fun k hk => ?_⟩
  have := (hx k [cx (xs.getD k (0, 0)).1 (xs.getD k (0, 0)).2] (by simp [List.getD, hk])).2 0 _ rfl
  simpa using this
theorem Pairs.cell {w : World} {A : Option Addr} {n cap : Nat} {xs : List Pair} (h : Pairs w (.slice A n cap) xs) (hn : 0 < xs.length) :
    ∃ b off, A = some ⟨b, off, none⟩ ∧ b < w.heap.size ∧ ∀ k, k < xs.length → w.cell? ⟨b, off + k * 3, none⟩ = some (.string (xs.getD k default).key) ∧ w.cell? ⟨b, off + k * 3 + 1, none⟩ = some (.string (xs.getD k default).value) ∧ w.cell? ⟨b, off + k * 3 + 2, none⟩ = some (.bool (xs.getD k default).gone) := by
  have hl := h.len
  rw [List.length_map] at hl
  obtain ⟨b, off, hA, hb, hx⟩ := h.at (by omega)
  refine ⟨b, off, hA, hb, fun k hk => ?_⟩
  have := (hx k (xs.getD k default).row (by simp [List.getD, hk])).2
  exact ⟨this 0 _ rfl, this 1 _ rfl, this 2 _ rfl⟩

/-- What Link comes to. -/
def LinkPost (w : World) (seq : Int) (l : List Pair) (vers : List Int) (ps : List (Nat × Nat)) (e : Ending) (w' : World) : Prop :=
  (linkOk seq l vers ps → ∃ v, e = .returned (.tuple #[v, i64 0]) ∧ w'.ownsRow w.heap.size 94 8 v l.length ((List.range l.length).flatMap fun k => (linkItem seq l vers ps k).row)) ∧
  (¬ linkOk seq l vers ps → e = .returned (.tuple #[.slice none 0 0, i64 1])) ∧ Below w.heap.size w w'

theorem flat_succ {β : Type} (f : Nat → List β) (k : Nat) : (List.range (k + 1)).flatMap f = (List.range k).flatMap f ++ f k := by
  rw [List.range_succ, List.flatMap_append]; simp

end Go.Proofs.YtokpoogcoeodkaaGreatDoor

/- The layer ring's example. -/
namespace Go.Proofs.YtokpoogcoeodkaaGreatDoor
open Go.RowKit Flo
attribute [local go_sem] run_store_complex

theorem example_ok : linkOk 5 [⟨⟨#[97]⟩, ⟨#[]⟩, false⟩] [5] [(near 2, near 8)] := by
  have p2 : part? (near ((2 : Nat) : Int)) = some 2 := part_some (nearest_Whole (n := 2) (by omega))
  have p8 : part? (near ((8 : Nat) : Int)) = some 8 := part_some (nearest_Whole (n := 8) (by omega))
  refine ⟨by decide, rfl, rfl, fun k hk => ?_⟩
  have hk0 : k = 0 := by simp at hk; omega
  subst hk0
  have h : linkItem 5 [⟨⟨#[97]⟩, ⟨#[]⟩, false⟩] [5] [(near 2, near 8)] 0 = ⟨5, 5, 0, 1, near 2, near 8, false, ⟨#[97]⟩, ⟨#[]⟩⟩ := rfl
  rw [h]
  have hp : placeOk (near 2) (near 8) = true := by
    unfold placeOk parts?
    rw [show near 2 = near ((2 : Nat) : Int) from rfl, show near 8 = near ((8 : Nat) : Int) from rfl, p2, p8]
    rfl
  unfold mayB
  rw [show (⟨5, 5, 0, 1, near 2, near 8, false, ⟨#[97]⟩, ⟨#[]⟩⟩ : Item).a = near 2 from rfl, show (⟨5, 5, 0, 1, near 2, near 8, false, ⟨#[97]⟩, ⟨#[]⟩⟩ : Item).b = near 8 from rfl, hp]
  simp [sizeB]
  decide

end Go.Proofs.YtokpoogcoeodkaaGreatDoor

/- The reference of layer 7: may an item be? -/
namespace Go.Proofs.YtokpoogcoeodkaaGreatDoor
open Go.RowKit Flo
attribute [local go_sem] run_store_complex

set_option maxHeartbeats 4000000 in
set_option maxRecDepth 100000 in
theorem refMay_place (x : Item) (w : World) (h : placeOk x.a x.b = false) : Makes 66 #[x.val] w (.bool false) := by
  obtain ⟨seq, ver, index, count, a, b, gone, key, value⟩ := x
  simp only at h
  unfold placeOk parts? at h
  have hr := fun W => right_any a b W
  cases ha : part? a with
  | none =>
    rw [ha] at hr
    have g := fun W => Lib.hid (hr W)
    clear h ha hr
    go_enter Tryz.func66, Tryz.ntmps66
    go_wp2_with fail
    refine (g _).out.mono ?_; rintro e w1 ⟨rfl, rfl⟩
    go_wp2_with fail
    go_ret
    exact ⟨rfl, Base.al (Below.refl _ _) _⟩
  | some s =>
    cases hb : part? b with
    | none =>
      rw [ha, hb] at hr
      have g := fun W => Lib.hid (hr W)
      clear h ha hb hr
      go_enter Tryz.func66, Tryz.ntmps66
      go_wp2_with fail
      refine (g _).out.mono ?_; rintro e w1 ⟨rfl, rfl⟩
      go_wp2_with fail
      go_ret
      exact ⟨rfl, Base.al (Below.refl _ _) _⟩
    | some o =>
      rw [ha, hb] at h hr
      have g := fun W => Lib.hid (hr W)
      have g1 := fun W => Lib.hid (sector_in (b := b) W ha)
      have g2 := fun W => Lib.hid (offset_in (a := a) W hb)
      clear ha hb hr
      by_cases hs : s ≤ 254
      · have ho : ¬ o ≤ 65535 := by simpa [hs] using h
        have t1 : decide ((255 : Int) ≤ (s : Int)) = false := decide_eq_false (by omega)
        have t2 : decide ((65536 : Int) ≤ (o : Int)) = true := decide_eq_true (by omega)
        clear h hs ho
        go_enter Tryz.func66, Tryz.ntmps66
        go_wp2_with fail
        refine (g _).out.mono ?_; rintro e w1 ⟨rfl, rfl⟩
        go_wp2_with fail
        refine (g1 _).out.mono ?_; rintro e w1 ⟨rfl, rfl⟩
        go_wp2_with fail
        refine (g2 _).out.mono ?_; rintro e w1 ⟨rfl, rfl⟩
        go_wp2_with fail
        go_ret
        exact ⟨rfl, Base.al (Below.refl _ _) _⟩
      · have t1 : decide ((255 : Int) ≤ (s : Int)) = true := decide_eq_true (by omega)
        clear h hs
        go_enter Tryz.func66, Tryz.ntmps66
        go_wp2_with fail
        refine (g _).out.mono ?_; rintro e w1 ⟨rfl, rfl⟩
        go_wp2_with fail
        refine (g1 _).out.mono ?_; rintro e w1 ⟨rfl, rfl⟩
        go_wp2_with fail
        go_ret
        exact ⟨rfl, Base.al (Below.refl _ _) _⟩

/-- What May says of an item at a right place. -/
def restB (x : Item) : Bool := (decide (1 ≤ x.count) && decide (x.count ≤ 255) && decide (0 ≤ x.index) && decide (x.index < x.count)) && !decide (x.key.toList = []) && decide (0 < sizeB x.key x.value) && (!x.gone || decide (x.value.toList = []))

theorem restB_iff (x : Item) : restB x = true ↔ (1 ≤ x.count ∧ x.count ≤ 255 ∧ 0 ≤ x.index ∧ x.index < x.count) ∧ x.key.toList ≠ [] ∧ (x.key.size : Int) ≤ 48 ∧ (x.value.size : Int) ≤ 64 ∧ (x.gone = false ∨ x.value.toList = []) := by
  have hs : (0 < sizeB x.key x.value) ↔ ((x.key.size : Int) ≤ 48 ∧ (x.value.size : Int) ≤ 64) := by
    unfold sizeB
    split <;> omega
  unfold restB
  simp only [Bool.and_eq_true, Bool.or_eq_true, Bool.not_eq_true', decide_eq_true_eq, decide_eq_false_iff_not, hs, and_assoc]
theorem mayB_rest (x : Item) : mayB x = (placeOk x.a x.b && restB x) := by
  unfold mayB restB
  cases placeOk x.a x.b <;> simp

set_option maxHeartbeats 8000000 in
set_option maxRecDepth 100000 in
theorem refMay_rest (x : Item) (w : World) (h : placeOk x.a x.b = true) : Makes 66 #[x.val] w (.bool (restB x)) := by
  obtain ⟨seq, ver, index, count, a, b, gone, key, value⟩ := x
  simp only at h
  unfold placeOk parts? at h
  have hr := fun W => right_any a b W
  cases ha : part? a with
  | none => rw [ha] at h; cases h
  | some s =>
    cases hb : part? b with
    | none => rw [ha, hb] at h; cases h
    | some o =>
      rw [ha, hb] at h hr
      have g := fun W => Lib.hid (hr W)
      have g1 := fun W => Lib.hid (sector_in (b := b) W ha)
      have g2 := fun W => Lib.hid (offset_in (a := a) W hb)
      have hso : s ≤ 254 ∧ o ≤ 65535 := by simpa using h
      have t1 : decide ((255 : Int) ≤ (s : Int)) = false := decide_eq_false (by omega)
      have t2 : decide ((65536 : Int) ≤ (o : Int)) = false := decide_eq_false (by omega)
      clear ha hb hr h hso
      obtain ⟨res, hres⟩ : ∃ res, res = restB ⟨seq, ver, index, count, a, b, gone, key, value⟩ := ⟨_, rfl⟩
      have hiff := restB_iff ⟨seq, ver, index, count, a, b, gone, key, value⟩
      rw [← hres] at hiff ⊢
      clear hres
      simp only at hiff
      have hz0 : 0 ≤ key.size := Nat.zero_le _
      have hz1 : 0 ≤ value.size := Nat.zero_le _
      cases gone
      all_goals
        have HR := Lib.hid hiff
        clear hiff
        go_enter Tryz.func66, Tryz.ntmps66
        go_wp2_with fail
        refine (g _).out.mono ?_; rintro e w1 ⟨rfl, rfl⟩
        go_wp2_with fail
        refine (g1 _).out.mono ?_; rintro e w1 ⟨rfl, rfl⟩
        go_wp2_with fail
        refine (g2 _).out.mono ?_; rintro e w1 ⟨rfl, rfl⟩
        go_wp2_with fail
        all_goals
          go_ret
          refine ⟨retB ?_, Base.al (Below.refl _ _) _⟩
          rw [Bool.eq_iff_iff, HR.out]
          first | (simp_all; done) | (simp_all; omega)

theorem refMay_any (x : Item) (w : World) : Makes 66 #[x.val] w (.bool (mayB x)) := by
  rw [mayB_rest]
  cases hp : placeOk x.a x.b
  · exact refMay_place x w hp
  · exact refMay_rest x w hp
end Go.Proofs.YtokpoogcoeodkaaGreatDoor

/- Two items, two places held against each other. -/
namespace Go.Proofs.YtokpoogcoeodkaaGreatDoor
open Go.RowKit Flo

/-- '==' of two places. -/
noncomputable def cxEq (a b c d : Nat) : Bool := (FloatKind.f64.format.order a c == some Ordering.eq) && (FloatKind.f64.format.order b d == some Ordering.eq)
noncomputable def itemEq (x y : Item) : Bool := (x.seq == y.seq) && (x.ver == y.ver) && (x.index == y.index) && (x.count == y.count) && cxEq x.a x.b y.a y.b && (x.gone == y.gone) && (x.key.toList == y.key.toList) && (x.value.toList == y.value.toList)

theorem run_equalIn_cx {P : Program} (w : World) (d : Nat) {t : TypeId} (ht : P.underlying t = some (.complex .f64)) (a b c e : Nat) :
    (Op.equalIn (d + 1) t (cx a b) (cx c e)).run P w = .ok (cxEq a b c e) w := by
  simp [Op.equalIn, run_underlying ht, cxEq, Op.floatEq]

set_option maxHeartbeats 1000000 in
theorem run_eq_item (x y : Item) (w : World) (d : Nat) : (Op.equalIn (d + 2) 94 x.val y.val).run Tryz.prog w = .ok (itemEq x y) w := by
  rw [run_equalIn_struct w (d + 1) 94 _ _ (by kernel_rfl) (by kernel_rfl)]
  simp [go_sem, Program.fieldsOf, Tryz.underlying94, Op.eqFields]
  simp only [run_equalIn_cx w d Tryz.underlying36, Result.andThen_ok]
  unfold itemEq
  generalize cxEq x.a x.b y.a y.b = c
  cases c <;> repeat' split
  all_goals simp_all

theorem cxEq_self {a b s o : Nat} (ha : part? a = some s) (hb : part? b = some o) : cxEq a b a b = true := by
  unfold cxEq
  rw [Bool.and_eq_true]
  exact ⟨eqF_same (part_of ha).1 (part_of ha).1, eqF_same (part_of hb).1 (part_of hb).1⟩
theorem placeOk_parts {a b : Nat} (h : placeOk a b = true) : ∃ s o, part? a = some s ∧ part? b = some o ∧ s ≤ 254 ∧ o ≤ 65535 := by
  unfold placeOk parts? at h
  cases ha : part? a with
  | none => rw [ha] at h; cases h
  | some s =>
    cases hb : part? b with
    | none => rw [ha, hb] at h; cases h
    | some o =>
      rw [ha, hb] at h
      simp at h
      exact ⟨s, o, rfl, rfl, h⟩
theorem itemEq_self {x : Item} (h : placeOk x.a x.b = true) : itemEq x x = true := by
  obtain ⟨s, o, ha, hb, _⟩ := placeOk_parts h
  unfold itemEq
  rw [cxEq_self ha hb]
  simp
end Go.Proofs.YtokpoogcoeodkaaGreatDoor

/- ring.whole: is a ring whole? -/
namespace Go.Proofs.YtokpoogcoeodkaaGreatDoor
open Go.RowKit Flo
attribute [local go_sem] run_store_complex

/-- An item that was found. -/
structure Found where
  at0 : Nat
  at1 : Nat
  size : Int
  settled : Bool
  item : Item
abbrev Found.row (f : Found) : List Value := [cx f.at0 f.at1, i64 f.size, .bool f.settled, .int .u64 f.item.seq, .int .u64 f.item.ver, i64 f.item.index, i64 f.item.count, cx f.item.a f.item.b, .bool f.item.gone, .string f.item.key, .string f.item.value]
instance : Inhabited Found := ⟨⟨0, 0, 0, false, ⟨0, 0, 0, 0, 0, 0, false, ByteArray.empty, ByteArray.empty⟩⟩⟩
abbrev Founds (w : World) (v : Value) (l : List Found) : Prop := Sl w 11 v (l.map Found.row)
theorem Founds.cell {w : World} {A : Option Addr} {n cap : Nat} {xs : List Found} (h : Founds w (.slice A n cap) xs) (hn : 0 < xs.length) :
    ∃ b off, A = some ⟨b, off, none⟩ ∧ b < w.heap.size ∧ ∀ k, k < xs.length → ∀ j u, (xs.getD k default).row[j]? = some u → w.cell? ⟨b, off + k * 11 + j, none⟩ = some u := by
  have hl := h.len
  rw [List.length_map] at hl
  obtain ⟨b, off, hA, hb, hx⟩ := h.at (by omega)
  exact ⟨b, off, hA, hb, fun k hk => (hx k (xs.getD k default).row (by simp [List.getD, hk])).2⟩

abbrev fd (l : List Found) (k : Nat) : Found := l.getD k default
/-- Where the items of the first k stand, by their index; none: it can't be. -/
def fillTo (l : List Found) : Nat → Option (Nat → Option Nat)
  | 0 => some fun _ => none
  | k + 1 => match fillTo l k with
    | none => none
    | some f => if (fd l k).item.count ≠ l.length ∨ (fd l k).item.index < 0 ∨ (l.length : Int) ≤ (fd l k).item.index ∨ (f (fd l k).item.index.toNat).isSome then none
      else some fun j => if j = (fd l k).item.index.toNat then some k else f j
noncomputable def linkB (l : List Found) (f : Nat → Option Nat) (k : Nat) : Bool := cxEq (fd l ((f k).getD 0)).item.a (fd l ((f k).getD 0)).item.b (fd l ((f ((k + 1) % l.length)).getD 0)).at0 (fd l ((f ((k + 1) % l.length)).getD 0)).at1
noncomputable def wholeB (l : List Found) : Bool := if (fd l 0).item.count ≠ l.length then false else match fillTo l l.length with
  | none => false
  | some f => (List.range l.length).all (linkB l f)

theorem fillTo_spec {l : List Found} : ∀ {k : Nat} {f : Nat → Option Nat}, fillTo l k = some f → (∀ j p, f j = some p → p < k ∧ j < l.length) ∧ (∀ p, p < k → 0 ≤ (fd l p).item.index ∧ (fd l p).item.index < l.length ∧ (fd l p).item.count = l.length ∧ f (fd l p).item.index.toNat = some p)
  | 0, f, h => by
    simp only [fillTo, Option.some.injEq] at h
    subst h
    exact ⟨by simp, by simp⟩
  | k + 1, f, h => by
    unfold fillTo at h
    cases hk : fillTo l k with
    | none => rw [hk] at h; cases h
    | some g =>
      rw [hk] at h
      obtain ⟨h1, h2⟩ := fillTo_spec hk
      simp only at h
      split at h
      · cases h
      · rename_i hc
        simp only [not_or, Decidable.not_not] at hc
        obtain ⟨c1, c2, c3, c4⟩ := hc
        injection h with h
        subst h
        refine ⟨fun j p hj => ?_, fun p hp => ?_⟩
        · simp only at hj
          split at hj
          · injection hj with hj; omega
          · have := h1 j p hj; omega
        · by_cases hpk : p = k
          · subst hpk
            exact ⟨by omega, by omega, c1, by simp⟩
          · obtain ⟨q1, q2, q3, q4⟩ := h2 p (by omega)
            refine ⟨q1, q2, q3, ?_⟩
            simp only
            rw [if_neg ?_, q4]
            intro he
            rw [← he, q4] at c4
            exact c4 rfl

theorem fillTo_none {l : List Found} {k : Nat} (h : fillTo l k = none) : ∀ m, k ≤ m → fillTo l m = none := by
  intro m hm
  induction m with
  | zero => have : k = 0 := by omega
            subst this; exact h
  | succ m ih =>
    by_cases hkm : k = m + 1
    · subst hkm; exact h
    · unfold fillTo; rw [ih (by omega)]
theorem nodup_le : ∀ (n : Nat) (l : List Nat), l.Nodup → (∀ x ∈ l, x < n) → l.length ≤ n
  | 0, l, _, h => by
    cases l with
    | nil => simp
    | cons x l => exact absurd (h x (by simp)) (by omega)
  | n + 1, l, hn, h => by
    have h1 := nodup_le n (l.filter fun x => decide (x ≠ n)) (hn.filter _) (fun x hx => by
      have := List.mem_filter.1 hx
      have h2 := h x this.1
      have h3 : x ≠ n := by simpa using this.2
      omega)
    have h2 : l.length ≤ (l.filter fun x => decide (x ≠ n)).length + 1 := by
      clear h h1
      induction l with
      | nil => simp
      | cons x l ih =>
        rw [List.nodup_cons] at hn
        by_cases hx : x = n
        · subst hx
          have : (l.filter fun y => decide (y ≠ x)) = l := List.filter_eq_self.2 (fun y hy => by
            have : y ≠ x := fun e => hn.1 (e ▸ hy)
            simpa using this)
          rw [List.filter_cons, if_neg (by simp), this, List.length_cons]
          omega
        · have := ih hn.2
          rw [List.filter_cons, if_pos (by simpa using hx), List.length_cons, List.length_cons]
          omega
    omega
theorem fillTo_all {l : List Found} {f : Nat → Option Nat} (h : fillTo l l.length = some f) {j : Nat} (hj : j < l.length) : ∃ p, f j = some p ∧ p < l.length := by
  obtain ⟨h1, h2⟩ := fillTo_spec h
  cases hf : f j with
  | some p => exact ⟨p, rfl, (h1 j p hf).1⟩
  | none =>
    exfalso
    have hn : (j :: (List.range l.length).map fun p => (fd l p).item.index.toNat).Nodup := by
      rw [List.nodup_cons]
      refine ⟨fun hm => ?_, ?_⟩
      · obtain ⟨p, hp, rfl⟩ := List.mem_map.1 hm
        rw [(h2 p (List.mem_range.1 hp)).2.2.2] at hf
        cases hf
      · refine List.Pairwise.map _ (R := fun a b => a < b ∧ a < l.length ∧ b < l.length) ?_ ?_
        · intro a b ⟨hab, ha, hb⟩ he
          have e1 := (h2 a ha).2.2.2
          have e2 := (h2 b hb).2.2.2
          rw [he, e2] at e1
          injection e1 with e1
          omega
        · refine List.Pairwise.imp_of_mem ?_ List.pairwise_lt_range
          intro a b ha hb hab
          exact ⟨hab, List.mem_range.1 ha, List.mem_range.1 hb⟩
    have := nodup_le l.length _ hn (fun x hx => by
      rcases List.mem_cons.1 hx with rfl | hx
      · exact hj
      · obtain ⟨p, hp, rfl⟩ := List.mem_map.1 hx
        have := h2 p (List.mem_range.1 hp)
        omega)
    simp at this
    omega

/-- A row's cell: where the item stands. -/
def ptr (b off : Nat) (o : Option Nat) : Value := .pointer (o.map fun p => ⟨b, off + p * 11, none⟩)
theorem ptr_none (b off : Nat) : ptr b off none = .pointer none := rfl
theorem ptr_some (b off p : Nat) : ptr b off (some p) = .pointer (some ⟨b, off + p * 11, none⟩) := rfl
theorem st0 {a w : World} (h : Below a.heap.size a w) {g : Nat} (hg : a.heap.size ≤ g) (o : Nat) (u : Value) : Below a.heap.size a (w.setCell ⟨g, o, none⟩ u) := h.setCell hg u

end Go.Proofs.YtokpoogcoeodkaaGreatDoor

