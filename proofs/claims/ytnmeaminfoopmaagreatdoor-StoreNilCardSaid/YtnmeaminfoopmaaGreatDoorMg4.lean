/- ring.Link. -/
import Derived.Test.YtnmeaminfoopmaaGreatDoorMg2
import Derived.Test.YtnmeaminfoopmaaGreatDoorPh
namespace Go.Proofs.YtnmeaminfoopmaaGreatDoor
open Go.RowKit Flo

structure Pair where
  key : ByteArray
  value : ByteArray
  gone : Bool
abbrev Pair.row (p : Pair) : List Value := [.string p.key, .string p.value, .bool p.gone]
instance : Inhabited Pair := ⟨⟨ByteArray.empty, ByteArray.empty, false⟩⟩
abbrev Pairs (w : World) (v : Value) (l : List Pair) : Prop := Sl w 3 v (l.map Pair.row)
abbrev U64s (w : World) (v : Value) (l : List Int) : Prop := Sl w 1 v (l.map fun n => [Value.int .u64 n])
abbrev Places (w : World) (v : Value) (l : List (Nat × Nat)) : Prop := Sl w 1 v (l.map fun p => [cx p.1 p.2])

/-- The item number k of a ring. -/
def linkItem (seq : Int) (l : List Pair) (vers : List Int) (ps : List (Nat × Nat)) (k : Nat) : Item :=
  ⟨seq, vers.getD k 0, k, l.length, (ps.getD ((k + 1) % l.length) (0, 0)).1, (ps.getD ((k + 1) % l.length) (0, 0)).2, (l.getD k default).gone, (l.getD k default).key, (l.getD k default).value⟩
def linkOk (seq : Int) (l : List Pair) (vers : List Int) (ps : List (Nat × Nat)) : Prop :=
  l.length ≠ 0 ∧ vers.length = l.length ∧ ps.length = l.length ∧ ∀ k, k < l.length → mayB (linkItem seq l vers ps k) = true

set_option maxHeartbeats 2000000 in
set_option maxRecDepth 100000 in
theorem link_no (seq : Int) (A B C : Option Addr) (n m q c1 c2 c3 : Nat) (l : List Pair) (vers : List Int) (ps : List (Nat × Nat)) (w : World) (h1 : Pairs w (.slice A n c1) l) (h2 : U64s w (.slice B m c2) vers) (h3 : Places w (.slice C q c3) ps)
    (h : l.length = 0 ∨ vers.length ≠ l.length ∨ ps.length ≠ l.length) : Makes 73 #[.int .u64 seq, .slice A n c1, .slice B m c2, .slice C q c3] w (.tuple #[.slice none 0 0, i64 1]) := by
  have n1 := h1.len
  have n2 := h2.len
  have n3 := h3.len
  rw [List.length_map] at n1 n2 n3
  subst n1; subst n2; subst n3
  clear h1 h2 h3
  obtain ⟨t1, ht1⟩ : ∃ t, ((l.length : Int) == 0) = t := ⟨_, rfl⟩
  obtain ⟨t2, ht2⟩ : ∃ t, ((vers.length : Int) != (l.length : Int)) = t := ⟨_, rfl⟩
  obtain ⟨t3, ht3⟩ : ∃ t, ((ps.length : Int) != (l.length : Int)) = t := ⟨_, rfl⟩
  have hor : (t1 || t2 || t3) = true := by
    rw [← ht1, ← ht2, ← ht3, Bool.or_eq_true, Bool.or_eq_true, beq_iff_eq, bne_iff_ne, bne_iff_ne]
    omega
  cases t1 <;> cases t2 <;> cases t3
  · cases hor
  all_goals
    clear hor h
    go_enter Tryz.func73, Tryz.ntmps73
    go_wp2_with fail
    go_ret2
    exact ⟨rfl, Below.refl _ _⟩

theorem info_Item : (Tryz.prog.info? 73).map (fun i => (i.zero, i.size, i.bytes)) = some (some (Item.val ⟨0, 0, 0, 0, 0, 0, false, ByteArray.empty, ByteArray.empty⟩), 8, 88) := by kernel_rfl
end Go.Proofs.YtnmeaminfoopmaaGreatDoor

/- ring.Link. -/
namespace Go.Proofs.YtnmeaminfoopmaaGreatDoor
open Go.RowKit Flo
attribute [local go_sem] run_store_complex

theorem U64s.cell {w : World} {A : Option Addr} {n cap : Nat} {xs : List Int} (h : U64s w (.slice A n cap) xs) (hn : 0 < xs.length) :
    ∃ b off, A = some ⟨b, off, none⟩ ∧ b < w.heap.size ∧ ∀ k, k < xs.length → w.cell? ⟨b, off + k, none⟩ = some (.int .u64 (xs.getD k 0)) := by
  have hl := h.len
  rw [List.length_map] at hl
  obtain ⟨b, off, hA, hb, hx⟩ := h.at (by omega)
  refine ⟨b, off, hA, hb, fun k hk => ?_⟩
  have := (hx k [.int .u64 (xs.getD k 0)] (by simp [List.getD, hk])).2 0 _ rfl
  simpa using this
theorem Places.cell {w : World} {A : Option Addr} {n cap : Nat} {xs : List (Nat × Nat)} (h : Places w (.slice A n cap) xs) (hn : 0 < xs.length) :
    ∃ b off, A = some ⟨b, off, none⟩ ∧ b < w.heap.size ∧ ∀ k, k < xs.length → w.cell? ⟨b, off + k, none⟩ = some (cx (xs.getD k (0, 0)).1 (xs.getD k (0, 0)).2) := by
  have hl := h.len
  rw [List.length_map] at hl
  obtain ⟨b, off, hA, hb, hx⟩ := h.at (by omega)
  refine ⟨b, off, hA, hb, fun k hk => ?_⟩
  have := (hx k [cx (xs.getD k (0, 0)).1 (xs.getD k (0, 0)).2] (by simp [List.getD, hk])).2 0 _ rfl
  simpa using this
theorem Pairs.cell {w : World} {A : Option Addr} {n cap : Nat} {xs : List Pair} (h : Pairs w (.slice A n cap) xs) (hn : 0 < xs.length) :
    ∃ b off, A = some ⟨b, off, none⟩ ∧ b < w.heap.size ∧ ∀ k, k < xs.length → w.cell? ⟨b, off + k * 3, none⟩ = some (.string (xs.getD k default).key) ∧ w.cell? ⟨b, off + k * 3 + 1, none⟩ = some (.string (xs.getD k default).value) ∧ w.cell? ⟨b, off + k * 3 + 2, none⟩ = some (.bool (xs.getD k default).gone) := by
  have hl := h.len
  rw [List.length_map] at hl
  obtain ⟨b, off, hA, hb, hx⟩ := h.at (by omega)
  refine ⟨b, off, hA, hb, fun k hk => ?_⟩
  have := (hx k (xs.getD k default).row (by simp [List.getD, hk])).2
  exact ⟨this 0 _ rfl, this 1 _ rfl, this 2 _ rfl⟩

/-- What Link comes to. -/
def LinkPost (w : World) (seq : Int) (l : List Pair) (vers : List Int) (ps : List (Nat × Nat)) (e : Ending) (w' : World) : Prop :=
  (linkOk seq l vers ps → ∃ v, e = .returned (.tuple #[v, i64 0]) ∧ w'.ownsRow w.heap.size 73 8 v l.length ((List.range l.length).flatMap fun k => (linkItem seq l vers ps k).row)) ∧
  (¬ linkOk seq l vers ps → e = .returned (.tuple #[.slice none 0 0, i64 1])) ∧ Below w.heap.size w w'

theorem flat_succ {β : Type} (f : Nat → List β) (k : Nat) : (List.range (k + 1)).flatMap f = (List.range k).flatMap f ++ f k := by
  rw [List.range_succ, List.flatMap_append]; simp

set_option maxHeartbeats 4000000 in
set_option maxRecDepth 100000 in
theorem link_loop (seq : Int) (A B C : Option Addr) (c1 c2 c3 : Nat) (l : List Pair) (vers : List Int) (ps : List (Nat × Nat)) (w : World) (h1 : Pairs w (.slice A l.length c1) l) (h2 : U64s w (.slice B l.length c2) vers) (h3 : Places w (.slice C l.length c3) ps)
    (hpos : l.length ≠ 0) (hbig : l.length * 88 ≤ 140737488355328) :
    Calls Tryz.prog 73 #[.int .u64 seq, .slice A l.length c1, .slice B l.length c2, .slice C l.length c3] w (LinkPost w seq l vers ps) := by
  have t1 : ((l.length : Int) == 0) = false := by rw [beq_eq_false_iff_ne]; omega
  have lv : vers.length = l.length := by have := h2.len; rw [List.length_map] at this; exact this.symm
  have lp : ps.length = l.length := by have := h3.len; rw [List.length_map] at this; exact this.symm
  obtain ⟨i0, hi, hz0, hz1, hz2⟩ := info_parts info_Item
  have LV := Lib.hid lv
  have LP := Lib.hid lp
  clear lv lp
  go_enter Tryz.func73, Tryz.ntmps73
  go_wp2_with fail
  go_loopw [10, 33] (fun v i wr => ∃ k : Nat, k ≤ l.length ∧ i = .int .i64 k ∧ Hid (∀ j, j < k → mayB (linkItem seq l vers ps j) = true) ∧ wr.ownsRow w.heap.size 73 8 v k ((List.range k).flatMap fun k => (linkItem seq l vers ps k).row) ∧ Below w.heap.size w wr) (fun _ i _ => l.length - (intOf i).toNat)
  case atStart => exact ⟨0, Nat.zero_le _, rfl, (fun j hj => by omega), World.ownsRow_nil _ _ _ _, Below.refl _ _⟩
  case round =>
    obtain ⟨k, hk, rfl, hall, hown, hb⟩ := hrel
    by_cases hlt : k < l.length
    · obtain ⟨a1, o1, rfl, b1, p1⟩ := Pairs.cell (Sl.below h1 hb) (by omega)
      obtain ⟨a2, o2, rfl, b2, p2⟩ := U64s.cell (Sl.below h2 hb) (by have := LV.out; omega)
      obtain ⟨a3, o3, rfl, b3, p3⟩ := Places.cell (Sl.below h3 hb) (by have := LP.out; omega)
      obtain ⟨q0, q1, q2⟩ := p1 k hlt
      have hmod : ((k : Int) + 1).tmod (l.length : Int) = (((k + 1) % l.length : Nat) : Int) := by rw [Int.tmod_eq_emod_of_nonneg (by omega)]; push_cast; rfl
      have hw1 : IntKind.i64.wrap ((k : Int) + 1) = (k : Int) + 1 := by rw [IntKind.wrap_i64]; omega
      have hmlt : (k + 1) % l.length < l.length := Nat.mod_lt _ (by omega)
      have v0 := p2 k (by have := LV.out; omega)
      have c0 := p3 ((k + 1) % l.length) (by have := LP.out; omega)
      have hit : linkItem seq l vers ps k = ⟨seq, vers.getD k 0, k, l.length, (ps.getD ((k + 1) % l.length) (0, 0)).1, (ps.getD ((k + 1) % l.length) (0, 0)).2, (l.getD k default).gone, (l.getD k default).key, (l.getD k default).value⟩ := rfl
      have OWN := Lib.hid hown
      clear hown p1 p2 p3
      generalize ps.getD ((k + 1) % l.length) (0, 0) = pl at *
      generalize hj : (k + 1) % l.length = j at *
      have hj1 : (j : Int) < (l.length : Int) := by omega
      have hk1 : (k : Int) < (l.length : Int) := by omega
      clear hj
      generalize vers.getD k 0 = vk at *
      generalize l.getD k default = pk at *
      obtain ⟨pk, vv, gg⟩ := pk
      obtain ⟨pa, pb⟩ := pl
      simp only at q0 q1 q2 c0 hit
      have g := fun W => may_any (⟨seq, vk, k, l.length, pa, pb, gg, pk, vv⟩ : Item) W
      have hsm : mayB (⟨seq, vk, k, l.length, pa, pb, gg, pk, vv⟩ : Item) = mayB (linkItem seq l vers ps k) := by rw [hit]
      rw [hsm] at g
      have HIT := Lib.hid hit
      clear hit hsm
      cases hm : mayB (linkItem seq l vers ps k)
      all_goals
        rw [hm] at g
        have HM := Lib.hid hm
        have G := fun W => Lib.hid (g W)
        clear g hm
        go_wp2_with fail
        refine wp_region_ph (D := fun w' => ∃ p : OnOf _, w' = p.v) 24 [23] (by kernel_rfl) (by kernel_rfl) ⟨⟨_, Base.dr (Below.refl _ _)⟩, rfl⟩ ?_
        simp only [List.take_succ_cons, List.take_zero, List.drop_succ_cons, List.drop_zero]
        have on0 := @on_rd0; have on1 := @on_rd1; have on2 := @on_rd2; have on3 := @on_new1; have on4 := @on_new2
        repeat (first | ((with_reducible refine head_alloc ?_ 73 hi hz0 ⟨⟨_, Base.al (by repeat (first | exact Base.dr (Below.refl _ _) | refine Base.al ?_ _)) _⟩, rfl⟩ ?_); (focus rfl)) | ((with_reducible refine head_quiet ?_ ?_); (focus rfl); (intro K hK); go_simp; first | ((with_reducible refine hK _ ?_); clear hK K) | (rw [if_neg (by intro h; cases h)]; (with_reducible refine hK _ ?_); clear hK K) | (apply Exists.intro; refine ⟨fun _ => ?_, hK _ ?_⟩; (fail); clear hK K)))
        clear on0 on1 on2 on3 on4
        with_reducible refine head_nil ?_
        rintro _ rfl
        go_wp2_with fail
        refine (G _).out.mono ?_; rintro e x1 ⟨rfl, hx1⟩
        obtain ⟨hc1, hf1⟩ := rd hx1
        have hbx := Base.tr (Base.dr (Base.al (Base.al (Below.refl _ wr) _) _)) hx1
        have hb2 := Base.tr hb hbx
      · go_wp2_with fail
        go_ret2
        refine ⟨fun hok => absurd (hok.2.2.2 k hlt) (by rw [HM.out]; decide), fun _ => rfl, hb2⟩
      · have hown1 := own_below OWN.out hbx
        go_wp2_with (at_builtin; refine wpList_append_own _ rfl _ _ 133 rfl w.heap.size 73 i0 (Item.val ⟨0, 0, 0, 0, 0, 0, false, ByteArray.empty, ByteArray.empty⟩) 8 88 Tryz.underlying133 hi hz0 hz1 hz2 rfl (by decide) _ _ _ rfl (hown1.alloc _) ⟨x1.heap.size, 0, none⟩ 1 1 (Item.row ⟨seq, vk, k, l.length, pa, pb, gg, pk, vv⟩) rfl rfl ?c1 ?c2 ?c3 ?c4 ?c5 ?_)
        case c1 => exact news_of _ _ _
        case c2 => simp [Value.oneCell']
        case c3 => unfold maxLen; omega
        case c4 => omega
        case c5 => have := hb2.size; (try simp at this); (try simp); omega
        intro v' w2 hown2 hgrow _
        have hb3 := Base.gr (Base.al hb2 _) hgrow (fun g hg => (hown1.lt g hg).1)
        go_wp2_with fail
        refine ⟨⟨k + 1, by omega, by go_num, ?_, ?_, hb3⟩, by simp [intOf]; omega⟩
        · intro j' hj'
          by_cases he : j' = k
          · subst he; exact HM.out
          · exact hall.out j' (by omega)
        · rw [flat_succ, HIT.out]
          exact hown2
    · have hke : k = l.length := by omega
      subst hke
      go_wp2_with fail
      go_ret2
      have hok : linkOk seq l vers ps := ⟨hpos, LV.out, LP.out, hall.out⟩
      exact ⟨fun _ => ⟨_, rfl, hown⟩, fun h => absurd hok h, hb⟩

theorem link_any (seq : Int) (A B C : Option Addr) (n m q c1 c2 c3 : Nat) (l : List Pair) (vers : List Int) (ps : List (Nat × Nat)) (w : World) (h1 : Pairs w (.slice A n c1) l) (h2 : U64s w (.slice B m c2) vers) (h3 : Places w (.slice C q c3) ps)
    (hbig : l.length * 88 ≤ 140737488355328) :
    Calls Tryz.prog 73 #[.int .u64 seq, .slice A n c1, .slice B m c2, .slice C q c3] w (LinkPost w seq l vers ps) := by
  by_cases h : l.length = 0 ∨ vers.length ≠ l.length ∨ ps.length ≠ l.length
  · refine (link_no seq A B C n m q c1 c2 c3 l vers ps w h1 h2 h3 h).mono fun e w' ⟨he, hb⟩ => ⟨fun hok => ?_, fun _ => he, hb⟩
    obtain ⟨g1, g2, g3, _⟩ := hok
    rcases h with h | h | h
    · exact absurd h g1
    · exact absurd g2 h
    · exact absurd g3 h
  · have n1 := h1.len
    have n2 := h2.len
    have n3 := h3.len
    rw [List.length_map] at n1 n2 n3
    obtain ⟨e1, e2, e3⟩ : l.length ≠ 0 ∧ vers.length = l.length ∧ ps.length = l.length := by
      refine ⟨fun e => h (.inl e), ?_, ?_⟩
      · exact Decidable.byContradiction fun e => h (.inr (.inl e))
      · exact Decidable.byContradiction fun e => h (.inr (.inr e))
    rw [n1] at h1
    rw [n2, e2] at h2
    rw [n3, e3] at h3
    rw [n1, n2, n3, e2, e3]
    exact link_loop seq A B C c1 c2 c3 l vers ps w h1 h2 h3 e1 hbig
end Go.Proofs.YtnmeaminfoopmaaGreatDoor

/- The layer ring's example. -/
namespace Go.Proofs.YtnmeaminfoopmaaGreatDoor
open Go.RowKit Flo
attribute [local go_sem] run_store_complex

theorem example_ok : linkOk 5 [⟨⟨#[97]⟩, ⟨#[]⟩, false⟩] [5] [(near 2, near 8)] := by
  have p2 : part? (near ((2 : Nat) : Int)) = some 2 := part_some (nearest_Whole (n := 2) (by omega))
  have p8 : part? (near ((8 : Nat) : Int)) = some 8 := part_some (nearest_Whole (n := 8) (by omega))
  refine ⟨by decide, rfl, rfl, fun k hk => ?_⟩
  have hk0 : k = 0 := by simp at hk; omega
  subst hk0
  have h : linkItem 5 [⟨⟨#[97]⟩, ⟨#[]⟩, false⟩] [5] [(near 2, near 8)] 0 = ⟨5, 5, 0, 1, near 2, near 8, false, ⟨#[97]⟩, ⟨#[]⟩⟩ := rfl
  rw [h]
  have hp : placeOk (near 2) (near 8) = true := by
    unfold placeOk parts?
    rw [show near 2 = near ((2 : Nat) : Int) from rfl, show near 8 = near ((8 : Nat) : Int) from rfl, p2, p8]
    rfl
  unfold mayB
  rw [show (⟨5, 5, 0, 1, near 2, near 8, false, ⟨#[97]⟩, ⟨#[]⟩⟩ : Item).a = near 2 from rfl, show (⟨5, 5, 0, 1, near 2, near 8, false, ⟨#[97]⟩, ⟨#[]⟩⟩ : Item).b = near 8 from rfl, hp]
  simp [sizeB]
  decide

end Go.Proofs.YtnmeaminfoopmaaGreatDoor

/- The reference of layer 7: may an item be? -/
namespace Go.Proofs.YtnmeaminfoopmaaGreatDoor
open Go.RowKit Flo
attribute [local go_sem] run_store_complex

set_option maxHeartbeats 4000000 in
set_option maxRecDepth 100000 in
theorem refMay_place (x : Item) (w : World) (h : placeOk x.a x.b = false) : Makes 62 #[x.val] w (.bool false) := by
  obtain ⟨seq, ver, index, count, a, b, gone, key, value⟩ := x
  simp only at h
  unfold placeOk parts? at h
  have hr := fun W => right_any a b W
  cases ha : part? a with
  | none =>
    rw [ha] at hr
    have g := fun W => Lib.hid (hr W)
    clear h ha hr
    go_enter Tryz.func62, Tryz.ntmps62
    go_wp2_with fail
    refine (g _).out.mono ?_; rintro e w1 ⟨rfl, rfl⟩
    go_wp2_with fail
    go_ret
    exact ⟨rfl, Base.al (Below.refl _ _) _⟩
  | some s =>
    cases hb : part? b with
    | none =>
      rw [ha, hb] at hr
      have g := fun W => Lib.hid (hr W)
      clear h ha hb hr
      go_enter Tryz.func62, Tryz.ntmps62
      go_wp2_with fail
      refine (g _).out.mono ?_; rintro e w1 ⟨rfl, rfl⟩
      go_wp2_with fail
      go_ret
      exact ⟨rfl, Base.al (Below.refl _ _) _⟩
    | some o =>
      rw [ha, hb] at h hr
      have g := fun W => Lib.hid (hr W)
      have g1 := fun W => Lib.hid (sector_in (b := b) W ha)
      have g2 := fun W => Lib.hid (offset_in (a := a) W hb)
      clear ha hb hr
      by_cases hs : s ≤ 254
      · have ho : ¬ o ≤ 65535 := by simpa [hs] using h
        have t1 : decide ((255 : Int) ≤ (s : Int)) = false := decide_eq_false (by omega)
        have t2 : decide ((65536 : Int) ≤ (o : Int)) = true := decide_eq_true (by omega)
        clear h hs ho
        go_enter Tryz.func62, Tryz.ntmps62
        go_wp2_with fail
        refine (g _).out.mono ?_; rintro e w1 ⟨rfl, rfl⟩
        go_wp2_with fail
        refine (g1 _).out.mono ?_; rintro e w1 ⟨rfl, rfl⟩
        go_wp2_with fail
        refine (g2 _).out.mono ?_; rintro e w1 ⟨rfl, rfl⟩
        go_wp2_with fail
        go_ret
        exact ⟨rfl, Base.al (Below.refl _ _) _⟩
      · have t1 : decide ((255 : Int) ≤ (s : Int)) = true := decide_eq_true (by omega)
        clear h hs
        go_enter Tryz.func62, Tryz.ntmps62
        go_wp2_with fail
        refine (g _).out.mono ?_; rintro e w1 ⟨rfl, rfl⟩
        go_wp2_with fail
        refine (g1 _).out.mono ?_; rintro e w1 ⟨rfl, rfl⟩
        go_wp2_with fail
        go_ret
        exact ⟨rfl, Base.al (Below.refl _ _) _⟩

/-- What May says of an item at a right place. -/
def restB (x : Item) : Bool := (decide (1 ≤ x.count) && decide (x.count ≤ 255) && decide (0 ≤ x.index) && decide (x.index < x.count)) && !decide (x.key.toList = []) && decide (0 < sizeB x.key x.value) && (!x.gone || decide (x.value.toList = []))

theorem restB_iff (x : Item) : restB x = true ↔ (1 ≤ x.count ∧ x.count ≤ 255 ∧ 0 ≤ x.index ∧ x.index < x.count) ∧ x.key.toList ≠ [] ∧ (x.key.size : Int) ≤ 48 ∧ (x.value.size : Int) ≤ 64 ∧ (x.gone = false ∨ x.value.toList = []) := by
  have hs : (0 < sizeB x.key x.value) ↔ ((x.key.size : Int) ≤ 48 ∧ (x.value.size : Int) ≤ 64) := by
    unfold sizeB
    split <;> omega
  unfold restB
  simp only [Bool.and_eq_true, Bool.or_eq_true, Bool.not_eq_true', decide_eq_true_eq, decide_eq_false_iff_not, hs, and_assoc]
theorem mayB_rest (x : Item) : mayB x = (placeOk x.a x.b && restB x) := by
  unfold mayB restB
  cases placeOk x.a x.b <;> simp

set_option maxHeartbeats 8000000 in
set_option maxRecDepth 100000 in
theorem refMay_rest (x : Item) (w : World) (h : placeOk x.a x.b = true) : Makes 62 #[x.val] w (.bool (restB x)) := by
  obtain ⟨seq, ver, index, count, a, b, gone, key, value⟩ := x
  simp only at h
  unfold placeOk parts? at h
  have hr := fun W => right_any a b W
  cases ha : part? a with
  | none => rw [ha] at h; cases h
  | some s =>
    cases hb : part? b with
    | none => rw [ha, hb] at h; cases h
    | some o =>
      rw [ha, hb] at h hr
      have g := fun W => Lib.hid (hr W)
      have g1 := fun W => Lib.hid (sector_in (b := b) W ha)
      have g2 := fun W => Lib.hid (offset_in (a := a) W hb)
      have hso : s ≤ 254 ∧ o ≤ 65535 := by simpa using h
      have t1 : decide ((255 : Int) ≤ (s : Int)) = false := decide_eq_false (by omega)
      have t2 : decide ((65536 : Int) ≤ (o : Int)) = false := decide_eq_false (by omega)
      clear ha hb hr h hso
      obtain ⟨res, hres⟩ : ∃ res, res = restB ⟨seq, ver, index, count, a, b, gone, key, value⟩ := ⟨_, rfl⟩
      have hiff := restB_iff ⟨seq, ver, index, count, a, b, gone, key, value⟩
      rw [← hres] at hiff ⊢
      clear hres
      simp only at hiff
      have hz0 : 0 ≤ key.size := Nat.zero_le _
      have hz1 : 0 ≤ value.size := Nat.zero_le _
      cases gone
      all_goals
        have HR := Lib.hid hiff
        clear hiff
        go_enter Tryz.func62, Tryz.ntmps62
        go_wp2_with fail
        refine (g _).out.mono ?_; rintro e w1 ⟨rfl, rfl⟩
        go_wp2_with fail
        refine (g1 _).out.mono ?_; rintro e w1 ⟨rfl, rfl⟩
        go_wp2_with fail
        refine (g2 _).out.mono ?_; rintro e w1 ⟨rfl, rfl⟩
        go_wp2_with fail
        all_goals
          go_ret
          refine ⟨retB ?_, Base.al (Below.refl _ _) _⟩
          rw [Bool.eq_iff_iff, HR.out]
          first | (simp_all; done) | (simp_all; omega)

theorem refMay_any (x : Item) (w : World) : Makes 62 #[x.val] w (.bool (mayB x)) := by
  rw [mayB_rest]
  cases hp : placeOk x.a x.b
  · exact refMay_place x w hp
  · exact refMay_rest x w hp
end Go.Proofs.YtnmeaminfoopmaaGreatDoor

