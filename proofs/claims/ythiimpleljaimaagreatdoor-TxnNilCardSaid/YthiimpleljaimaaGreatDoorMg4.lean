/- ring.Link. -/
import Derived.Test.YthiimpleljaimaaGreatDoorMg2
import Derived.Test.YthiimpleljaimaaGreatDoorPh
import Derived.Test.YthiimpleljaimaaGreatDoorMap
import Derived.Laws.MakeOwn
namespace Go.Proofs.YthiimpleljaimaaGreatDoor
open Go.RowKit Flo
attribute [local go_sem] run_store_complex

theorem U64s.cell {w : World} {A : Option Addr} {n cap : Nat} {xs : List Int} (h : U64s w (.slice A n cap) xs) (hn : 0 < xs.length) :
    ∃ b off, A = some ⟨b, off, none⟩ ∧ b < w.heap.size ∧ ∀ k, k < xs.length → w.cell? ⟨b, off + k, none⟩ = some (.int .u64 (xs.getD k 0)) := by
  have hl := h.len
  rw [List.length_map] at hl
  obtain ⟨b, off, hA, hb, hx⟩ := h.at (by omega)
  refine ⟨b, off, hA, hb, fun k hk => ?_⟩
  have := (hx k [.int .u64 (xs.getD k 0)] (by simp [List.getD, hk])).2 0 _ rfl
  simpa using this
theorem Places.cell {w : World} {A : Option Addr} {n cap : Nat} {xs : List (Nat × Nat)} (h : Places w (.slice A n cap) xs) (hn : 0 < xs.length) :
    ∃ b off, A = some ⟨b, off, none⟩ ∧ b < w.heap.size ∧ ∀ k, k < xs.length → w.cell? ⟨b, off + k, none⟩ = some (cx (xs.getD k (0, 0)).1 (xs.getD k (0, 0)).2) := by
  have hl := h.len
  rw [List.length_map] at hl
  obtain ⟨b, off, hA, hb, hx⟩ := h.at (by omega)
  refine ⟨b, off, hA, hb, fun k hk => ?_⟩
  have := (hx k [cx (xs.getD k (0, 0)).1 (xs.getD k (0, 0)).2] (by simp [List.getD, hk])).2 0 _ rfl
  simpa using this
theorem Pairs.cell {w : World} {A : Option Addr} {n cap : Nat} {xs : List Pair} (h : Pairs w (.slice A n cap) xs) (hn : 0 < xs.length) :
    ∃ b off, A = some ⟨b, off, none⟩ ∧ b < w.heap.size ∧ ∀ k, k < xs.length → w.cell? ⟨b, off + k * 3, none⟩ = some (.string (xs.getD k default).key) ∧ w.cell? ⟨b, off + k * 3 + 1, none⟩ = some (.string (xs.getD k default).value) ∧ w.cell? ⟨b, off + k * 3 + 2, none⟩ = some (.bool (xs.getD k default).gone) := by
  have hl := h.len
  rw [List.length_map] at hl
  obtain ⟨b, off, hA, hb, hx⟩ := h.at (by omega)
  refine ⟨b, off, hA, hb, fun k hk => ?_⟩
  have := (hx k (xs.getD k default).row (by simp [List.getD, hk])).2
  exact ⟨this 0 _ rfl, this 1 _ rfl, this 2 _ rfl⟩

/-- What Link comes to. -/
def LinkPost (w : World) (seq : Int) (l : List Pair) (vers : List Int) (ps : List (Nat × Nat)) (e : Ending) (w' : World) : Prop :=
  (linkOk seq l vers ps → ∃ v, e = .returned (.tuple #[v, i64 0]) ∧ w'.ownsRow w.heap.size 129 8 v l.length ((List.range l.length).flatMap fun k => (linkItem seq l vers ps k).row)) ∧
  (¬ linkOk seq l vers ps → e = .returned (.tuple #[.slice none 0 0, i64 1])) ∧ Below w.heap.size w w'

theorem flat_succ {β : Type} (f : Nat → List β) (k : Nat) : (List.range (k + 1)).flatMap f = (List.range k).flatMap f ++ f k := by
  rw [List.range_succ, List.flatMap_append]; simp

set_option maxHeartbeats 4000000 in
set_option maxRecDepth 100000 in
theorem link_loop (seq : Int) (A B C : Option Addr) (c1 c2 c3 : Nat) (l : List Pair) (vers : List Int) (ps : List (Nat × Nat)) (w : World) (h1 : Pairs w (.slice A l.length c1) l) (h2 : U64s w (.slice B l.length c2) vers) (h3 : Places w (.slice C l.length c3) ps)
    (hpos : l.length ≠ 0) (hbig : l.length * 88 ≤ 140737488355328) :
    Calls Tryz.prog 138 #[.int .u64 seq, .slice A l.length c1, .slice B l.length c2, .slice C l.length c3] w (LinkPost w seq l vers ps) := by
  have t1 : ((l.length : Int) == 0) = false := by rw [beq_eq_false_iff_ne]; omega
  have lv : vers.length = l.length := by have := h2.len; rw [List.length_map] at this; exact this.symm
  have lp : ps.length = l.length := by have := h3.len; rw [List.length_map] at this; exact this.symm
  obtain ⟨i0, hi, hz0, hz1, hz2⟩ := info_parts info_Item
  have LV := Lib.hid lv
  have LP := Lib.hid lp
  clear lv lp
  go_enter Tryz.func138, Tryz.ntmps138
  go_wp2_with fail
  go_loopw [10, 33] (fun v i wr => ∃ k : Nat, k ≤ l.length ∧ i = .int .i64 k ∧ Hid (∀ j, j < k → mayB (linkItem seq l vers ps j) = true) ∧ wr.ownsRow w.heap.size 129 8 v k ((List.range k).flatMap fun k => (linkItem seq l vers ps k).row) ∧ Below w.heap.size w wr) (fun _ i _ => l.length - (intOf i).toNat)
  case atStart => exact ⟨0, Nat.zero_le _, rfl, (fun j hj => by omega), World.ownsRow_nil _ _ _ _, Below.refl _ _⟩
  case round =>
    obtain ⟨k, hk, rfl, hall, hown, hb⟩ := hrel
    by_cases hlt : k < l.length
    · obtain ⟨a1, o1, rfl, b1, p1⟩ := Pairs.cell (Sl.below h1 hb) (by omega)
      obtain ⟨a2, o2, rfl, b2, p2⟩ := U64s.cell (Sl.below h2 hb) (by have := LV.out; omega)
      obtain ⟨a3, o3, rfl, b3, p3⟩ := Places.cell (Sl.below h3 hb) (by have := LP.out; omega)
      obtain ⟨q0, q1, q2⟩ := p1 k hlt
      have hmod : ((k : Int) + 1).tmod (l.length : Int) = (((k + 1) % l.length : Nat) : Int) := by rw [Int.tmod_eq_emod_of_nonneg (by omega)]; push_cast; rfl
      have hw1 : IntKind.i64.wrap ((k : Int) + 1) = (k : Int) + 1 := by rw [IntKind.wrap_i64]; omega
      have hmlt : (k + 1) % l.length < l.length := Nat.mod_lt _ (by omega)
      have v0 := p2 k (by have := LV.out; omega)
      have c0 := p3 ((k + 1) % l.length) (by have := LP.out; omega)
      have hit : linkItem seq l vers ps k = ⟨seq, vers.getD k 0, k, l.length, (ps.getD ((k + 1) % l.length) (0, 0)).1, (ps.getD ((k + 1) % l.length) (0, 0)).2, (l.getD k default).gone, (l.getD k default).key, (l.getD k default).value⟩ := rfl
      have OWN := Lib.hid hown
      clear hown p1 p2 p3
      generalize ps.getD ((k + 1) % l.length) (0, 0) = pl at *
      generalize hj : (k + 1) % l.length = j at *
      have hj1 : (j : Int) < (l.length : Int) := by omega
      have hk1 : (k : Int) < (l.length : Int) := by omega
      clear hj
      generalize vers.getD k 0 = vk at *
      generalize l.getD k default = pk at *
      obtain ⟨pk, vv, gg⟩ := pk
      obtain ⟨pa, pb⟩ := pl
      simp only at q0 q1 q2 c0 hit
      have g := fun W => may_any (⟨seq, vk, k, l.length, pa, pb, gg, pk, vv⟩ : Item) W
      have hsm : mayB (⟨seq, vk, k, l.length, pa, pb, gg, pk, vv⟩ : Item) = mayB (linkItem seq l vers ps k) := by rw [hit]
      rw [hsm] at g
      have HIT := Lib.hid hit
      clear hit hsm
      cases hm : mayB (linkItem seq l vers ps k)
      all_goals
        rw [hm] at g
        have HM := Lib.hid hm
        have G := fun W => Lib.hid (g W)
        clear g hm
        go_wp2_with fail
        refine wp_region_ph (D := fun w' => ∃ p : OnOf _, w' = p.v) 24 [23] (by kernel_rfl) (by kernel_rfl) ⟨⟨_, Base.dr (Below.refl _ _)⟩, rfl⟩ ?_
        simp only [List.take_succ_cons, List.take_zero, List.drop_succ_cons, List.drop_zero]
        have on0 := @on_rd0; have on1 := @on_rd1; have on2 := @on_rd2; have on3 := @on_new1; have on4 := @on_new2
        repeat (first | ((with_reducible refine head_alloc ?_ 129 hi hz0 ⟨⟨_, Base.al (by repeat (first | exact Base.dr (Below.refl _ _) | refine Base.al ?_ _)) _⟩, rfl⟩ ?_); (focus rfl)) | ((with_reducible refine head_quiet ?_ ?_); (focus rfl); (intro K hK); go_simp; first | ((with_reducible refine hK _ ?_); clear hK K) | (rw [if_neg (by intro h; cases h)]; (with_reducible refine hK _ ?_); clear hK K) | (apply Exists.intro; refine ⟨fun _ => ?_, hK _ ?_⟩; (fail); clear hK K)))
        clear on0 on1 on2 on3 on4
        with_reducible refine head_nil ?_
        rintro _ rfl
        go_wp2_with fail
        refine (G _).out.mono ?_; rintro e x1 ⟨rfl, hx1⟩
        obtain ⟨hc1, hf1⟩ := rd hx1
        have hbx := Base.tr (Base.dr (Base.al (Base.al (Below.refl _ wr) _) _)) hx1
        have hb2 := Base.tr hb hbx
      · go_wp2_with fail
        go_ret2
        refine ⟨fun hok => absurd (hok.2.2.2 k hlt) (by rw [HM.out]; decide), fun _ => rfl, hb2⟩
      · have hown1 := own_below OWN.out hbx
        go_wp2_with (at_builtin; refine wpList_append_own _ rfl _ _ 252 rfl w.heap.size 129 i0 (Item.val ⟨0, 0, 0, 0, 0, 0, false, ByteArray.empty, ByteArray.empty⟩) 8 88 Tryz.underlying252 hi hz0 hz1 hz2 rfl (by decide) _ _ _ rfl (hown1.alloc _) ⟨x1.heap.size, 0, none⟩ 1 1 (Item.row ⟨seq, vk, k, l.length, pa, pb, gg, pk, vv⟩) rfl rfl ?c1 ?c2 ?c3 ?c4 ?c5 ?_)
        case c1 => exact news_of _ _ _
        case c2 => simp [Value.oneCell']
        case c3 => unfold maxLen; omega
        case c4 => omega
        case c5 => have := hb2.size; (try simp at this); (try simp); omega
        intro v' w2 hown2 hgrow _
        have hb3 := Base.gr (Base.al hb2 _) hgrow (fun g hg => (hown1.lt g hg).1)
        go_wp2_with fail
        refine ⟨⟨k + 1, by omega, by go_num, ?_, ?_, hb3⟩, by simp [intOf]; omega⟩
        · intro j' hj'
          by_cases he : j' = k
          · subst he; exact HM.out
          · exact hall.out j' (by omega)
        · rw [flat_succ, HIT.out]
          exact hown2
    · have hke : k = l.length := by omega
      subst hke
      go_wp2_with fail
      go_ret2
      have hok : linkOk seq l vers ps := ⟨hpos, LV.out, LP.out, hall.out⟩
      exact ⟨fun _ => ⟨_, rfl, hown⟩, fun h => absurd hok h, hb⟩

theorem link_any (seq : Int) (A B C : Option Addr) (n m q c1 c2 c3 : Nat) (l : List Pair) (vers : List Int) (ps : List (Nat × Nat)) (w : World) (h1 : Pairs w (.slice A n c1) l) (h2 : U64s w (.slice B m c2) vers) (h3 : Places w (.slice C q c3) ps)
    (hbig : l.length * 88 ≤ 140737488355328) :
    Calls Tryz.prog 138 #[.int .u64 seq, .slice A n c1, .slice B m c2, .slice C q c3] w (LinkPost w seq l vers ps) := by
  by_cases h : l.length = 0 ∨ vers.length ≠ l.length ∨ ps.length ≠ l.length
  · refine (link_no seq A B C n m q c1 c2 c3 l vers ps w h1 h2 h3 h).mono fun e w' ⟨he, hb⟩ => ⟨fun hok => ?_, fun _ => he, hb⟩
    obtain ⟨g1, g2, g3, _⟩ := hok
    rcases h with h | h | h
    · exact absurd h g1
    · exact absurd g2 h
    · exact absurd g3 h
  · have n1 := h1.len
    have n2 := h2.len
    have n3 := h3.len
    rw [List.length_map] at n1 n2 n3
    obtain ⟨e1, e2, e3⟩ : l.length ≠ 0 ∧ vers.length = l.length ∧ ps.length = l.length := by
      refine ⟨fun e => h (.inl e), ?_, ?_⟩
      · exact Decidable.byContradiction fun e => h (.inr (.inl e))
      · exact Decidable.byContradiction fun e => h (.inr (.inr e))
    rw [n1] at h1
    rw [n2, e2] at h2
    rw [n3, e3] at h3
    rw [n1, n2, n3, e2, e3]
    exact link_loop seq A B C c1 c2 c3 l vers ps w h1 h2 h3 e1 hbig
end Go.Proofs.YthiimpleljaimaaGreatDoor

/- The layer ring's example. -/
namespace Go.Proofs.YthiimpleljaimaaGreatDoor
open Go.RowKit Flo
attribute [local go_sem] run_store_complex

theorem example_ok : linkOk 5 [⟨⟨#[97]⟩, ⟨#[]⟩, false⟩] [5] [(near 2, near 8)] := by
  have p2 : part? (near ((2 : Nat) : Int)) = some 2 := part_some (nearest_Whole (n := 2) (by omega))
  have p8 : part? (near ((8 : Nat) : Int)) = some 8 := part_some (nearest_Whole (n := 8) (by omega))
  refine ⟨by decide, rfl, rfl, fun k hk => ?_⟩
  have hk0 : k = 0 := by simp at hk; omega
  subst hk0
  have h : linkItem 5 [⟨⟨#[97]⟩, ⟨#[]⟩, false⟩] [5] [(near 2, near 8)] 0 = ⟨5, 5, 0, 1, near 2, near 8, false, ⟨#[97]⟩, ⟨#[]⟩⟩ := rfl
  rw [h]
  have hp : placeOk (near 2) (near 8) = true := by
    unfold placeOk parts?
    rw [show near 2 = near ((2 : Nat) : Int) from rfl, show near 8 = near ((8 : Nat) : Int) from rfl, p2, p8]
    rfl
  unfold mayB
  rw [show (⟨5, 5, 0, 1, near 2, near 8, false, ⟨#[97]⟩, ⟨#[]⟩⟩ : Item).a = near 2 from rfl, show (⟨5, 5, 0, 1, near 2, near 8, false, ⟨#[97]⟩, ⟨#[]⟩⟩ : Item).b = near 8 from rfl, hp]
  simp [sizeB]
  decide

end Go.Proofs.YthiimpleljaimaaGreatDoor

/- The reference of layer 7: may an item be? -/
namespace Go.Proofs.YthiimpleljaimaaGreatDoor
open Go.RowKit Flo
attribute [local go_sem] run_store_complex

/-- What May says of an item at a right place. -/
def restB (x : Item) : Bool := (decide (1 ≤ x.count) && decide (x.count ≤ 255) && decide (0 ≤ x.index) && decide (x.index < x.count)) && !decide (x.key.toList = []) && decide (0 < sizeB x.key x.value) && (!x.gone || decide (x.value.toList = []))

theorem restB_iff (x : Item) : restB x = true ↔ (1 ≤ x.count ∧ x.count ≤ 255 ∧ 0 ≤ x.index ∧ x.index < x.count) ∧ x.key.toList ≠ [] ∧ (x.key.size : Int) ≤ 48 ∧ (x.value.size : Int) ≤ 64 ∧ (x.gone = false ∨ x.value.toList = []) := by
  have hs : (0 < sizeB x.key x.value) ↔ ((x.key.size : Int) ≤ 48 ∧ (x.value.size : Int) ≤ 64) := by
    unfold sizeB
    split <;> omega
  unfold restB
  simp only [Bool.and_eq_true, Bool.or_eq_true, Bool.not_eq_true', decide_eq_true_eq, decide_eq_false_iff_not, hs, and_assoc]
theorem mayB_rest (x : Item) : mayB x = (placeOk x.a x.b && restB x) := by
  unfold mayB restB
  cases placeOk x.a x.b <;> simp

end Go.Proofs.YthiimpleljaimaaGreatDoor

/- ring.whole: is a ring whole? -/
namespace Go.Proofs.YthiimpleljaimaaGreatDoor
open Go.RowKit Flo
attribute [local go_sem] run_store_complex

/-- An item that was found. -/
structure Found where
  at0 : Nat
  at1 : Nat
  size : Int
  settled : Bool
  item : Item
abbrev Found.row (f : Found) : List Value := [cx f.at0 f.at1, i64 f.size, .bool f.settled, .int .u64 f.item.seq, .int .u64 f.item.ver, i64 f.item.index, i64 f.item.count, cx f.item.a f.item.b, .bool f.item.gone, .string f.item.key, .string f.item.value]
instance : Inhabited Found := ⟨⟨0, 0, 0, false, ⟨0, 0, 0, 0, 0, 0, false, ByteArray.empty, ByteArray.empty⟩⟩⟩
abbrev Founds (w : World) (v : Value) (l : List Found) : Prop := Sl w 11 v (l.map Found.row)
theorem Founds.cell {w : World} {A : Option Addr} {n cap : Nat} {xs : List Found} (h : Founds w (.slice A n cap) xs) (hn : 0 < xs.length) :
    ∃ b off, A = some ⟨b, off, none⟩ ∧ b < w.heap.size ∧ ∀ k, k < xs.length → ∀ j u, (xs.getD k default).row[j]? = some u → w.cell? ⟨b, off + k * 11 + j, none⟩ = some u := by
  have hl := h.len
  rw [List.length_map] at hl
  obtain ⟨b, off, hA, hb, hx⟩ := h.at (by omega)
  exact ⟨b, off, hA, hb, fun k hk => (hx k (xs.getD k default).row (by simp [List.getD, hk])).2⟩

abbrev fd (l : List Found) (k : Nat) : Found := l.getD k default
/-- Where the items of the first k stand, by their index; none: it can't be. -/
def fillTo (l : List Found) : Nat → Option (Nat → Option Nat)
  | 0 => some fun _ => none
  | k + 1 => match fillTo l k with
    | none => none
    | some f => if (fd l k).item.count ≠ l.length ∨ (fd l k).item.index < 0 ∨ (l.length : Int) ≤ (fd l k).item.index ∨ (f (fd l k).item.index.toNat).isSome then none
      else some fun j => if j = (fd l k).item.index.toNat then some k else f j
noncomputable def linkB (l : List Found) (f : Nat → Option Nat) (k : Nat) : Bool := cxEq (fd l ((f k).getD 0)).item.a (fd l ((f k).getD 0)).item.b (fd l ((f ((k + 1) % l.length)).getD 0)).at0 (fd l ((f ((k + 1) % l.length)).getD 0)).at1
noncomputable def wholeB (l : List Found) : Bool := if (fd l 0).item.count ≠ l.length then false else match fillTo l l.length with
  | none => false
  | some f => (List.range l.length).all (linkB l f)

theorem fillTo_spec {l : List Found} : ∀ {k : Nat} {f : Nat → Option Nat}, fillTo l k = some f → (∀ j p, f j = some p → p < k ∧ j < l.length) ∧ (∀ p, p < k → 0 ≤ (fd l p).item.index ∧ (fd l p).item.index < l.length ∧ (fd l p).item.count = l.length ∧ f (fd l p).item.index.toNat = some p)
  | 0, f, h => by
    simp only [fillTo, Option.some.injEq] at h
    subst h
    exact ⟨by simp, by simp⟩
  | k + 1, f, h => by
    unfold fillTo at h
    cases hk : fillTo l k with
    | none => rw [hk] at h; cases h
    | some g =>
      rw [hk] at h
      obtain ⟨h1, h2⟩ := fillTo_spec hk
      simp only at h
      split at h
      · cases h
      · rename_i hc
        simp only [not_or, Decidable.not_not] at hc
        obtain ⟨c1, c2, c3, c4⟩ := hc
        injection h with h
        subst h
        refine ⟨fun j p hj => ?_, fun p hp => ?_⟩
        · simp only at hj
          split at hj
          · injection hj with hj; omega
          · have := h1 j p hj; omega
        · by_cases hpk : p = k
          · subst hpk
            exact ⟨by omega, by omega, c1, by simp⟩
          · obtain ⟨q1, q2, q3, q4⟩ := h2 p (by omega)
            refine ⟨q1, q2, q3, ?_⟩
            simp only
            rw [if_neg ?_, q4]
            intro he
            rw [← he, q4] at c4
            exact c4 rfl

theorem fillTo_none {l : List Found} {k : Nat} (h : fillTo l k = none) : ∀ m, k ≤ m → fillTo l m = none := by
  intro m hm
  induction m with
  | zero => have : k = 0 := by omega
            subst this; exact h
  | succ m ih =>
    by_cases hkm : k = m + 1
    · subst hkm; exact h
    · unfold fillTo; rw [ih (by omega)]
theorem nodup_le : ∀ (n : Nat) (l : List Nat), l.Nodup → (∀ x ∈ l, x < n) → l.length ≤ n
  | 0, l, _, h => by
    cases l with
    | nil => simp
    | cons x l => exact absurd (h x (by simp)) (by omega)
  | n + 1, l, hn, h => by
    have h1 := nodup_le n (l.filter fun x => decide (x ≠ n)) (hn.filter _) (fun x hx => by
      have := List.mem_filter.1 hx
      have h2 := h x this.1
      have h3 : x ≠ n := by simpa using this.2
      omega)
    have h2 : l.length ≤ (l.filter fun x => decide (x ≠ n)).length + 1 := by
      clear h h1
      induction l with
      | nil => simp
      | cons x l ih =>
        rw [List.nodup_cons] at hn
        by_cases hx : x = n
        · subst hx
          have : (l.filter fun y => decide (y ≠ x)) = l := List.filter_eq_self.2 (fun y hy => by
            have : y ≠ x := fun e => hn.1 (e ▸ hy)
            simpa using this)
          rw [List.filter_cons, if_neg (by simp), this, List.length_cons]
          omega
        · have := ih hn.2
          rw [List.filter_cons, if_pos (by simpa using hx), List.length_cons, List.length_cons]
          omega
    omega
theorem fillTo_all {l : List Found} {f : Nat → Option Nat} (h : fillTo l l.length = some f) {j : Nat} (hj : j < l.length) : ∃ p, f j = some p ∧ p < l.length := by
  obtain ⟨h1, h2⟩ := fillTo_spec h
  cases hf : f j with
  | some p => exact ⟨p, rfl, (h1 j p hf).1⟩
  | none =>
    exfalso
    have hn : (j :: (List.range l.length).map fun p => (fd l p).item.index.toNat).Nodup := by
      rw [List.nodup_cons]
      refine ⟨fun hm => ?_, ?_⟩
      · obtain ⟨p, hp, rfl⟩ := List.mem_map.1 hm
        rw [(h2 p (List.mem_range.1 hp)).2.2.2] at hf
        cases hf
      · refine List.Pairwise.map _ (R := fun a b => a < b ∧ a < l.length ∧ b < l.length) ?_ ?_
        · intro a b ⟨hab, ha, hb⟩ he
          have e1 := (h2 a ha).2.2.2
          have e2 := (h2 b hb).2.2.2
          rw [he, e2] at e1
          injection e1 with e1
          omega
        · refine List.Pairwise.imp_of_mem ?_ List.pairwise_lt_range
          intro a b ha hb hab
          exact ⟨hab, List.mem_range.1 ha, List.mem_range.1 hb⟩
    have := nodup_le l.length _ hn (fun x hx => by
      rcases List.mem_cons.1 hx with rfl | hx
      · exact hj
      · obtain ⟨p, hp, rfl⟩ := List.mem_map.1 hx
        have := h2 p (List.mem_range.1 hp)
        omega)
    simp at this
    omega

/-- A row's cell: where the item stands. -/
def ptr (b off : Nat) (o : Option Nat) : Value := .pointer (o.map fun p => ⟨b, off + p * 11, none⟩)
theorem ptr_none (b off : Nat) : ptr b off none = .pointer none := rfl
theorem ptr_some (b off p : Nat) : ptr b off (some p) = .pointer (some ⟨b, off + p * 11, none⟩) := rfl
/-- The row as it is filled behind k items. -/
def RowIs (wr : World) (g b off : Nat) (l : List Found) (f : Nat → Option Nat) : Prop :=
  ∃ cur : Array Value, wr.heap[g]? = some (.cells cur 228 (0, 0)) ∧ cur.size = l.length ∧ ∀ j, j < l.length → cur[j]? = some (ptr b off (f j))
theorem RowIs.cell {wr : World} {g b off : Nat} {l : List Found} {f : Nat → Option Nat} (h : RowIs wr g b off l f) {j : Nat} (hj : j < l.length) : wr.cell? ⟨g, j, none⟩ = some (ptr b off (f j)) ∧ wr.frozen? ⟨g, j, none⟩ = false ∧ g < wr.heap.size := by
  obtain ⟨cur, h1, h2, h3⟩ := h
  exact ⟨(cell_blk h1 j).trans (h3 j hj), frozen_blk h1 j, (Array.getElem?_eq_some_iff.1 h1).1⟩
theorem RowIs.set {wr : World} {g b off : Nat} {l : List Found} {f : Nat → Option Nat} (h : RowIs wr g b off l f) (i k : Nat) : RowIs (wr.setCell ⟨g, i, none⟩ (ptr b off (some k))) g b off l (fun j => if j = i then some k else f j) := by
  obtain ⟨cur, h1, h2, h3⟩ := h
  refine ⟨_, heap_setCell h1 i _, by simpa using h2, fun j hj => ?_⟩
  by_cases hji : j = i
  · subst hji
    simp [show j < cur.size from by omega]
  · rw [Array.getElem?_setIfInBounds_ne (fun e => hji e.symm), h3 j hj]
    simp only [if_neg hji]
theorem RowIs.below {wr wq : World} {g b off : Nat} {l : List Found} {f : Nat → Option Nat} (h : RowIs wr g b off l f) (hb : Below wr.heap.size wr wq) : RowIs wq g b off l f := by
  obtain ⟨cur, h1, h2, h3⟩ := h
  exact ⟨cur, blk_below h1 hb, h2, h3⟩
theorem RowIs.made (w : World) (b off : Nat) (l : List Found) : RowIs (w.alloc (.cells (madeCells #[Value.pointer none] l.length) 228)) w.heap.size b off l (fun _ => none) := by
  refine ⟨_, blk_new _ _, by simp [madeCells], fun j hj => ?_⟩
  unfold madeCells
  rw [Array.getElem?_map, Array.getElem?_range, if_pos hj]
  simp [Nat.mod_one, ptr]
theorem st0 {a w : World} (h : Below a.heap.size a w) {g : Nat} (hg : a.heap.size ≤ g) (o : Nat) (u : Value) : Below a.heap.size a (w.setCell ⟨g, o, none⟩ u) := h.setCell hg u

theorem info_pFound : (Tryz.prog.info? 228).map (fun i => (i.zero, i.size, i.bytes)) = some (some (.pointer none), 1, 8) := by kernel_rfl

set_option maxHeartbeats 4000000 in
set_option maxRecDepth 100000 in
theorem whole_any (A : Option Addr) (n cap : Nat) (l : List Found) (w : World) (h : Founds w (.slice A n cap) l) (hpos : 0 < l.length) (hbig : l.length * 8 ≤ 140737488351232) : Makes 84 #[.slice A n cap] w (.bool (wholeB l)) := by
  have n1 := h.len
  rw [List.length_map] at n1
  subst n1
  obtain ⟨b, off, rfl, hbs, hc⟩ := Founds.cell h hpos
  have c6 := hc 0 hpos 6 _ rfl
  rw [Nat.zero_mul, Nat.add_zero] at c6
  obtain ⟨i0, hi, hz0, hz1, hz2⟩ := info_parts info_pFound
  have hmk := fun W => run_make (P := Tryz.prog) W 227 228 i0 _ Tryz.underlying227 hi hz0 .i64 .i64 (l.length : Int) (l.length : Int) (by omega) (Int.le_refl _) (by rw [hz2]; omega) (by omega)
  rw [hz1] at hmk
  simp only [Int.toNat_natCast, Value.cells, Nat.mul_one] at hmk
  by_cases hcnt : (fd l 0).item.count = l.length
  · rw [hcnt] at c6
    have HW := Lib.hid (show wholeB l = match fillTo l l.length with | none => false | some f => (List.range l.length).all (linkB l f) from by unfold wholeB; rw [if_neg (by simpa using hcnt)])
    clear hcnt
    go_enter Tryz.func84, Tryz.ntmps84
    go_wp2_with fail
    go_loopw [22] (fun i wr => ∃ (k : Nat) (f : Nat → Option Nat), k ≤ l.length ∧ i = .int .i64 k ∧ Hid (fillTo l k = some f) ∧ Hid (RowIs wr w.heap.size b off l f) ∧ Below w.heap.size w wr) (fun i _ => l.length - (intOf i).toNat)
    case atStart => exact ⟨0, _, by omega, rfl, rfl, RowIs.made w b off l, Base.al (Below.refl _ _) _⟩
    case round =>
      obtain ⟨k, f, hk, rfl, hf, hrow, hb⟩ := hrel
      by_cases hlt : k < l.length
      · have hbq : b < wr.heap.size := Nat.lt_of_lt_of_le hbs hb.size
        have hcl := fun q u (hq : (fd l k).row[q]? = some u) => ((rd hb).1 b (off + k * 11 + q) hbs).trans (hc k hlt q u hq)
        have r3 := hcl 3 _ rfl
        have r4 := hcl 4 _ rfl
        have r5 := hcl 5 _ rfl
        have r6 := hcl 6 _ rfl
        have r7 := hcl 7 _ rfl
        have r8 := hcl 8 _ rfl
        have r9 := hcl 9 _ rfl
        have r10 := hcl 10 _ rfl
        clear hcl
        have hs : fillTo l (k + 1) = if (fd l k).item.count ≠ l.length ∨ (fd l k).item.index < 0 ∨ (l.length : Int) ≤ (fd l k).item.index ∨ (f (fd l k).item.index.toNat).isSome then none else some fun j => if j = (fd l k).item.index.toNat then some k else f j := by
          rw [fillTo, hf.out]
        obtain ⟨fk, hfk⟩ : ∃ fk, fk = fd l k := ⟨_, rfl⟩
        rw [← hfk] at r3 r4 r5 r6 r7 r8 r9 r10 hs
        clear hfk
        obtain ⟨a0, a1, sz, st, ⟨sq, vr, ix, ct, pa, pb, gn, ky, vl⟩⟩ := fk
        simp only at r3 r4 r5 r6 r7 r8 r9 r10 hs
        have hno : fillTo l (k + 1) = none → wholeB l = false := fun h => by rw [HW.out, fillTo_none h _ (by omega)]
        by_cases q1 : ct = l.length
        · subst q1
          by_cases q2 : ix < 0
          · have hv := hno (by rw [hs, if_pos (.inr (.inl q2))])
            have HV := Lib.hid hv
            clear hv hs hno
            go_wp2_with fail
            go_ret
            exact ⟨retB HV.out.symm, Base.al hb _⟩
          · by_cases q3 : (l.length : Int) ≤ ix
            · have hv := hno (by rw [hs, if_pos (.inr (.inr (.inl q3)))])
              have HV := Lib.hid hv
              clear hv hs hno
              go_wp2_with fail
              go_ret
              exact ⟨retB HV.out.symm, Base.al hb _⟩
            · obtain ⟨j, rfl⟩ : ∃ j : Nat, ix = j := ⟨ix.toNat, by omega⟩
              have hjl : j < l.length := by omega
              have hj0 : (0 : Int) ≤ (j : Int) := by omega
              have hj1 : (j : Int) < (l.length : Int) := by omega
              obtain ⟨w0, w1, w2⟩ := hrow.out.cell hjl
              rw [Int.toNat_natCast] at hs
              cases hfj : f j with
              | some p =>
                have hv := hno (by rw [hs, if_pos (.inr (.inr (.inr (by rw [hfj]; rfl))))])
                have HV := Lib.hid hv
                rw [hfj, ptr_some] at w0
                clear hv hs hno hfj
                go_wp2_with fail
                go_ret
                exact ⟨retB HV.out.symm, Base.al hb _⟩
              | none =>
                rw [if_neg (by rw [hfj]; simp; omega)] at hs
                have HS := Lib.hid hs
                rw [hfj, ptr_none] at w0
                have hrow2 := hrow.out.set j k
                rw [ptr_some] at hrow2
                have HR := Lib.hid hrow2
                clear hs hno hfj hrow2
                go_wp2_with fail
                refine wp_region_ph (D := fun w' => ∃ p : OnOf _, w' = p.v) 7 [] (by kernel_rfl) (by kernel_rfl) ⟨⟨_, Base.dr (Below.refl _ _)⟩, rfl⟩ ?_
                simp only [List.take_succ_cons, List.take_zero, List.drop_succ_cons, List.drop_zero]
                have on0 := @on_rd0; have on1 := @on_rd1; have on2 := @on_rd2; have on3 := @on_new1; have on4 := @on_new2
                repeat (first | ((with_reducible refine head_quiet ?_ ?_); (focus rfl); (intro K hK); go_simp; first | ((with_reducible refine hK _ ?_); clear hK K) | (rw [if_neg (by intro h; cases h)]; (with_reducible refine hK _ ?_); clear hK K) | (apply Exists.intro; refine ⟨fun _ => ?_, hK _ ?_⟩; (fail); clear hK K)))
                clear on0 on1 on2 on3 on4
                with_reducible refine head_nil ?_
                rintro _ rfl
                go_wp2_with fail
                exact ⟨⟨k + 1, _, by omega, by go_num, HS.out, HR.out.below (Base.dr (Base.al (Below.refl _ _) _)), Base.dr (Base.al (st0 hb (Nat.le_refl _) _ _) _)⟩, by simp [intOf]; omega⟩
        · have hv := hno (by rw [hs, if_pos (.inl q1)])
          have HV := Lib.hid hv
          have q1b : (ct != (l.length : Int)) = true := by rw [bne_iff_ne]; exact q1
          clear hv hs hno q1
          go_wp2_with fail
          go_ret
          exact ⟨retB HV.out.symm, Base.al hb _⟩
      · have hke : k = l.length := by omega
        subst hke
        have hall := fun j hj => fillTo_all (j := j) hf.out hj
        have hw : wholeB l = (List.range l.length).all (linkB l f) := by rw [HW.out, hf.out]
        have HALL := Lib.hid hall
        have HWB := Lib.hid hw
        clear hall hw hmk HW hk hlt hf
        obtain ⟨wo, rfl⟩ : ∃ wo : World, wo = wr := ⟨_, rfl⟩
        go_wp2_with fail
        go_loopw [63] (fun i wq => ∃ k : Nat, k ≤ l.length ∧ i = .int .i64 k ∧ Hid (∀ j, j < k → linkB l f j = true) ∧ Below wo.heap.size wo wq) (fun i _ => l.length - (intOf i).toNat)
        case atStart => exact ⟨0, by omega, rfl, (fun j hj => by omega), Below.refl _ _⟩
        case round =>
          obtain ⟨k, hk, rfl, hlk, hbo⟩ := hrel
          by_cases hlt : k < l.length
          · have hmod : ((k : Int) + 1).tmod (l.length : Int) = (((k + 1) % l.length : Nat) : Int) := by rw [Int.tmod_eq_emod_of_nonneg (by omega)]; push_cast; rfl
            have hw1 : IntKind.i64.wrap ((k : Int) + 1) = (k : Int) + 1 := by rw [IntKind.wrap_i64]; omega
            have hne0 : ((l.length : Int) == 0) = false := by rw [beq_eq_false_iff_ne]; omega
            have hne1 : l.length ≠ 0 := by omega
            have hmlt : (k + 1) % l.length < l.length := Nat.mod_lt _ (by omega)
            obtain ⟨p, hp, hpl⟩ := HALL.out k hlt
            obtain ⟨p', hp', hpl'⟩ := HALL.out ((k + 1) % l.length) hmlt
            have hrow1 := hrow.out.below hbo
            obtain ⟨w0, w1, w2⟩ := hrow1.cell hlt
            obtain ⟨x0, x1, x2⟩ := hrow1.cell hmlt
            rw [hp, ptr_some] at w0
            rw [hp', ptr_some] at x0
            have hlb : linkB l f k = cxEq (fd l p).item.a (fd l p).item.b (fd l p').at0 (fd l p').at1 := by unfold linkB; rw [hp, hp']; rfl
            have c7 := ((rd (Base.tr hb hbo)).1 b (off + p * 11 + 7) hbs).trans (hc p hpl 7 _ rfl)
            have c0 := ((rd (Base.tr hb hbo)).1 b (off + p' * 11 + 0) hbs).trans (hc p' hpl' 0 _ rfl)
            rw [Nat.add_zero] at c0
            have hbq := Nat.lt_of_lt_of_le hbs (Base.tr hb hbo).size
            unfold cxEq at hlb
            generalize (fd l p).item.a = na at *
            generalize (fd l p).item.b = nb at *
            generalize (fd l p').at0 = ma at *
            generalize (fd l p').at1 = mb at *
            obtain ⟨e1, he1⟩ : ∃ e, (FloatKind.f64.format.order na ma == some Ordering.eq) = e := ⟨_, rfl⟩
            obtain ⟨e2, he2⟩ : ∃ e, (FloatKind.f64.format.order nb mb == some Ordering.eq) = e := ⟨_, rfl⟩
            rw [he1, he2] at hlb
            generalize hj : (k + 1) % l.length = j at *
            have hj1 : (j : Int) < (l.length : Int) := by omega
            have hk1 : (k : Int) < (l.length : Int) := by omega
            have HLB := Lib.hid hlb
            clear hj hp hp' hlb c6
            cases e1 <;> cases e2
            all_goals
              go_wp2_with fail
              have on0 := @on_rd0; have on1 := @on_rd1; have on2 := @on_rd2; have on3 := @on_new1; have on4 := @on_new2
              refine wp_region_quiet_on (by kernel_rfl) (by kernel_rfl) ?_
              repeat ((with_reducible refine wpQuiet_step (fun K hK => ?_)); go_simp; first | ((with_reducible refine hK _ ?_); clear hK K) | (rw [if_neg (by intro h; cases h)]; (with_reducible refine hK _ ?_); clear hK K) | (apply Exists.intro; refine ⟨fun _ => ?_, hK _ ?_⟩; (fail); clear hK K))
              clear on0 on1 on2 on3 on4
              with_reducible refine wpQuiet_nil ?_
              intro _ hw'
              obtain ⟨pq, hw''⟩ := hw'
              subst hw''
              go_wp2_with fail
            rotate_right
            · refine ⟨⟨k + 1, by omega, by go_num, (fun j' hj' => ?_), Base.tr hbo pq.h⟩, by simp [intOf]; omega⟩
              by_cases he : j' = k
              · subst he; rw [HLB.out]; rfl
              · exact hlk.out j' (by omega)
            all_goals
              go_ret
              refine ⟨retB ?_, Base.tr (Base.tr hb hbo) pq.h⟩
              rw [HWB.out, eq_comm, List.all_eq_false]
              exact ⟨k, List.mem_range.2 hlt, by rw [HLB.out]; decide⟩
          · have hke : k = l.length := by omega
            subst hke
            go_wp2_with fail
            go_ret
            refine ⟨retB ?_, Base.tr hb hbo⟩
            rw [HWB.out, eq_comm, List.all_eq_true]
            exact fun x hx => hlk.out x (List.mem_range.1 hx)
  · have hv : wholeB l = false := by unfold wholeB; rw [if_pos hcnt]
    rw [hv]
    obtain ⟨q, hq⟩ : ∃ q, (fd l 0).item.count = q := ⟨_, rfl⟩
    rw [hq] at c6 hcnt
    have t1 : ((l.length : Int) != q) = true := by rw [bne_iff_ne]; exact fun e => hcnt e.symm
    clear hq hv hmk
    go_enter Tryz.func84, Tryz.ntmps84
    go_wp2_with fail
    go_ret
    exact ⟨rfl, Below.refl _ _⟩
end Go.Proofs.YthiimpleljaimaaGreatDoor

