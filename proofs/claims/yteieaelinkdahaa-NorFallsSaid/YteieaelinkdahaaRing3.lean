/- ring.Link. -/
import Derived.Test.YteieaelinkdahaaRing2
import Derived.Test.YteieaelinkdahaaPh
namespace Go.Proofs.Yteieaelinkdahaa
open Go.RowKit Flo
attribute [local go_sem] run_store_complex

theorem U64s.cell {w : World} {A : Option Addr} {n cap : Nat} {xs : List Int} (h : U64s w (.slice A n cap) xs) (hn : 0 < xs.length) :
    ∃ b off, A = some ⟨b, off, none⟩ ∧ b < w.heap.size ∧ ∀ k, k < xs.length → w.cell? ⟨b, off + k, none⟩ = some (.int .u64 (xs.getD k 0)) := by
  have hl := h.len
  rw [List.length_map] at hl
  obtain ⟨b, off, hA, hb, hx⟩ := h.at (by omega)
  refine ⟨b, off, hA, hb, fun k hk => ?_⟩
  have := (hx k [.int .u64 (xs.getD k 0)] (by simp [List.getD, hk])).2 0 _ rfl
  simpa using this
theorem Places.cell {w : World} {A : Option Addr} {n cap : Nat} {xs : List (Nat × Nat)} (h : Places w (.slice A n cap) xs) (hn : 0 < xs.length) :
    ∃ b off, A = some ⟨b, off, none⟩ ∧ b < w.heap.size ∧ ∀ k, k < xs.length → w.cell? ⟨b, off + k, none⟩ = some (cx (xs.getD k (0, 0)).1 (xs.getD k (0, 0)).2) := by
  have hl := h.len
  rw [List.length_map] at hl
  obtain ⟨b, off, hA, hb, hx⟩ := h.at (by omega)
  refine ⟨b, off, hA, hb, fun k hk => ?_⟩
  have := (hx k [cx (xs.getD k (0, 0)).1 (xs.getD k (0, 0)).2] (by simp [List.getD, hk])).2 0 _ rfl
  simpa using this
theorem Pairs.cell {w : World} {A : Option Addr} {n cap : Nat} {xs : List Pair} (h : Pairs w (.slice A n cap) xs) (hn : 0 < xs.length) :
    ∃ b off, A = some ⟨b, off, none⟩ ∧ b < w.heap.size ∧ ∀ k, k < xs.length → w.cell? ⟨b, off + k * 3, none⟩ = some (.string (xs.getD k default).key) ∧ w.cell? ⟨b, off + k * 3 + 1, none⟩ = some (.string (xs.getD k default).value) ∧ w.cell? ⟨b, off + k * 3 + 2, none⟩ = some (.bool (xs.getD k default).gone) := by
  have hl := h.len
  rw [List.length_map] at hl
  obtain ⟨b, off, hA, hb, hx⟩ := h.at (by omega)
  refine ⟨b, off, hA, hb, fun k hk => ?_⟩
  have := (hx k (xs.getD k default).row (by simp [List.getD, hk])).2
  exact ⟨this 0 _ rfl, this 1 _ rfl, this 2 _ rfl⟩

/-- What Link comes to. -/
def LinkPost (w : World) (seq : Int) (l : List Pair) (vers : List Int) (ps : List (Nat × Nat)) (e : Ending) (w' : World) : Prop :=
  (linkOk seq l vers ps → ∃ v, e = .returned (.tuple #[v, i64 0]) ∧ w'.ownsRow w.heap.size 49 8 v l.length ((List.range l.length).flatMap fun k => (linkItem seq l vers ps k).row)) ∧
  (¬ linkOk seq l vers ps → e = .returned (.tuple #[.slice none 0 0, i64 1])) ∧ Below w.heap.size w w'

theorem flat_succ {β : Type} (f : Nat → List β) (k : Nat) : (List.range (k + 1)).flatMap f = (List.range k).flatMap f ++ f k := by
  rw [List.range_succ, List.flatMap_append]; simp

set_option maxHeartbeats 4000000 in
set_option maxRecDepth 100000 in
theorem link_loop (seq : Int) (A B C : Option Addr) (c1 c2 c3 : Nat) (l : List Pair) (vers : List Int) (ps : List (Nat × Nat)) (w : World) (h1 : Pairs w (.slice A l.length c1) l) (h2 : U64s w (.slice B l.length c2) vers) (h3 : Places w (.slice C l.length c3) ps)
    (hpos : l.length ≠ 0) (hbig : l.length * 88 ≤ 140737488355328) :
    Calls Try.prog 53 #[.int .u64 seq, .slice A l.length c1, .slice B l.length c2, .slice C l.length c3] w (LinkPost w seq l vers ps) := by
  have t1 : ((l.length : Int) == 0) = false := by rw [beq_eq_false_iff_ne]; omega
  have lv : vers.length = l.length := by have := h2.len; rw [List.length_map] at this; exact this.symm
  have lp : ps.length = l.length := by have := h3.len; rw [List.length_map] at this; exact this.symm
  obtain ⟨i0, hi, hz0, hz1, hz2⟩ := info_parts info_Item
  have LV := Lib.hid lv
  have LP := Lib.hid lp
  clear lv lp
  go_enter Try.func53, Try.ntmps53
  go_wp2_with fail
  go_loopw [10, 33] (fun v i wr => ∃ k : Nat, k ≤ l.length ∧ i = .int .i64 k ∧ Hid (∀ j, j < k → mayB (linkItem seq l vers ps j) = true) ∧ wr.ownsRow w.heap.size 49 8 v k ((List.range k).flatMap fun k => (linkItem seq l vers ps k).row) ∧ Below w.heap.size w wr) (fun _ i _ => l.length - (intOf i).toNat)
  case atStart => exact ⟨0, Nat.zero_le _, rfl, (fun j hj => by omega), World.ownsRow_nil _ _ _ _, Below.refl _ _⟩
  case round =>
    obtain ⟨k, hk, rfl, hall, hown, hb⟩ := hrel
    by_cases hlt : k < l.length
    · obtain ⟨a1, o1, rfl, b1, p1⟩ := Pairs.cell (Sl.below h1 hb) (by omega)
      obtain ⟨a2, o2, rfl, b2, p2⟩ := U64s.cell (Sl.below h2 hb) (by have := LV.out; omega)
      obtain ⟨a3, o3, rfl, b3, p3⟩ := Places.cell (Sl.below h3 hb) (by have := LP.out; omega)
      obtain ⟨q0, q1, q2⟩ := p1 k hlt
      have hmod : ((k : Int) + 1).tmod (l.length : Int) = (((k + 1) % l.length : Nat) : Int) := by rw [Int.tmod_eq_emod_of_nonneg (by omega)]; push_cast; rfl
      have hw1 : IntKind.i64.wrap ((k : Int) + 1) = (k : Int) + 1 := by rw [IntKind.wrap_i64]; omega
      have hmlt : (k + 1) % l.length < l.length := Nat.mod_lt _ (by omega)
      have v0 := p2 k (by have := LV.out; omega)
      have c0 := p3 ((k + 1) % l.length) (by have := LP.out; omega)
      have hit : linkItem seq l vers ps k = ⟨seq, vers.getD k 0, k, l.length, (ps.getD ((k + 1) % l.length) (0, 0)).1, (ps.getD ((k + 1) % l.length) (0, 0)).2, (l.getD k default).gone, (l.getD k default).key, (l.getD k default).value⟩ := rfl
      have OWN := Lib.hid hown
      clear hown p1 p2 p3
      generalize ps.getD ((k + 1) % l.length) (0, 0) = pl at *
      generalize hj : (k + 1) % l.length = j at *
      have hj1 : (j : Int) < (l.length : Int) := by omega
      have hk1 : (k : Int) < (l.length : Int) := by omega
      clear hj
      generalize vers.getD k 0 = vk at *
      generalize l.getD k default = pk at *
      obtain ⟨pk, vv, gg⟩ := pk
      obtain ⟨pa, pb⟩ := pl
      simp only at q0 q1 q2 c0 hit
      have g := fun W => may_any (⟨seq, vk, k, l.length, pa, pb, gg, pk, vv⟩ : Item) W
      have hsm : mayB (⟨seq, vk, k, l.length, pa, pb, gg, pk, vv⟩ : Item) = mayB (linkItem seq l vers ps k) := by rw [hit]
      rw [hsm] at g
      have HIT := Lib.hid hit
      clear hit hsm
      cases hm : mayB (linkItem seq l vers ps k)
      all_goals
        rw [hm] at g
        have HM := Lib.hid hm
        have G := fun W => Lib.hid (g W)
        clear g hm
        go_wp2_with fail
        refine wp_region_ph (D := fun w' => ∃ p : OnOf _, w' = p.v) 24 [23] (by kernel_rfl) (by kernel_rfl) ⟨⟨_, Base.dr (Below.refl _ _)⟩, rfl⟩ ?_
        simp only [List.take_succ_cons, List.take_zero, List.drop_succ_cons, List.drop_zero]
        have on0 := @on_rd0; have on1 := @on_rd1; have on2 := @on_rd2; have on3 := @on_new1; have on4 := @on_new2
        repeat (first | ((with_reducible refine head_alloc ?_ 49 hi hz0 ⟨⟨_, Base.al (by repeat (first | exact Base.dr (Below.refl _ _) | refine Base.al ?_ _)) _⟩, rfl⟩ ?_); (focus rfl)) | ((with_reducible refine head_quiet ?_ ?_); (focus rfl); (intro K hK); go_simp; first | ((with_reducible refine hK _ ?_); clear hK K) | (rw [if_neg (by intro h; cases h)]; (with_reducible refine hK _ ?_); clear hK K) | (apply Exists.intro; refine ⟨fun _ => ?_, hK _ ?_⟩; (fail); clear hK K)))
        clear on0 on1 on2 on3 on4
        with_reducible refine head_nil ?_
        rintro _ rfl
        go_wp2_with fail
        refine (G _).out.mono ?_; rintro e x1 ⟨rfl, hx1⟩
        obtain ⟨hc1, hf1⟩ := rd hx1
        have hbx := Base.tr (Base.dr (Base.al (Base.al (Below.refl _ wr) _) _)) hx1
        have hb2 := Base.tr hb hbx
      · go_wp2_with fail
        go_ret2
        refine ⟨fun hok => absurd (hok.2.2.2 k hlt) (by rw [HM.out]; decide), fun _ => rfl, hb2⟩
      · have hown1 := own_below OWN.out hbx
        go_wp2_with (at_builtin; refine wpList_append_own _ rfl _ _ 95 rfl w.heap.size 49 i0 (Item.val ⟨0, 0, 0, 0, 0, 0, false, ByteArray.empty, ByteArray.empty⟩) 8 88 Try.underlying95 hi hz0 hz1 hz2 rfl (by decide) _ _ _ rfl (hown1.alloc _) ⟨x1.heap.size, 0, none⟩ 1 1 (Item.row ⟨seq, vk, k, l.length, pa, pb, gg, pk, vv⟩) rfl rfl ?c1 ?c2 ?c3 ?c4 ?c5 ?_)
        case c1 => exact news_of _ _ _
        case c2 => simp [Value.oneCell']
        case c3 => unfold maxLen; omega
        case c4 => omega
        case c5 => have := hb2.size; (try simp at this); (try simp); omega
        intro v' w2 hown2 hgrow _
        have hb3 := Base.gr (Base.al hb2 _) hgrow (fun g hg => (hown1.lt g hg).1)
        go_wp2_with fail
        refine ⟨⟨k + 1, by omega, by go_num, ?_, ?_, hb3⟩, by simp [intOf]; omega⟩
        · intro j' hj'
          by_cases he : j' = k
          · subst he; exact HM.out
          · exact hall.out j' (by omega)
        · rw [flat_succ, HIT.out]
          exact hown2
    · have hke : k = l.length := by omega
      subst hke
      go_wp2_with fail
      go_ret2
      have hok : linkOk seq l vers ps := ⟨hpos, LV.out, LP.out, hall.out⟩
      exact ⟨fun _ => ⟨_, rfl, hown⟩, fun h => absurd hok h, hb⟩

theorem link_any (seq : Int) (A B C : Option Addr) (n m q c1 c2 c3 : Nat) (l : List Pair) (vers : List Int) (ps : List (Nat × Nat)) (w : World) (h1 : Pairs w (.slice A n c1) l) (h2 : U64s w (.slice B m c2) vers) (h3 : Places w (.slice C q c3) ps)
    (hbig : l.length * 88 ≤ 140737488355328) :
    Calls Try.prog 53 #[.int .u64 seq, .slice A n c1, .slice B m c2, .slice C q c3] w (LinkPost w seq l vers ps) := by
  by_cases h : l.length = 0 ∨ vers.length ≠ l.length ∨ ps.length ≠ l.length
  · refine (link_no seq A B C n m q c1 c2 c3 l vers ps w h1 h2 h3 h).mono fun e w' ⟨he, hb⟩ => ⟨fun hok => ?_, fun _ => he, hb⟩
    obtain ⟨g1, g2, g3, _⟩ := hok
    rcases h with h | h | h
    · exact absurd h g1
    · exact absurd g2 h
    · exact absurd g3 h
  · have n1 := h1.len
    have n2 := h2.len
    have n3 := h3.len
    rw [List.length_map] at n1 n2 n3
    obtain ⟨e1, e2, e3⟩ : l.length ≠ 0 ∧ vers.length = l.length ∧ ps.length = l.length := by
      refine ⟨fun e => h (.inl e), ?_, ?_⟩
      · exact Decidable.byContradiction fun e => h (.inr (.inl e))
      · exact Decidable.byContradiction fun e => h (.inr (.inr e))
    rw [n1] at h1
    rw [n2, e2] at h2
    rw [n3, e3] at h3
    rw [n1, n2, n3, e2, e3]
    exact link_loop seq A B C c1 c2 c3 l vers ps w h1 h2 h3 e1 hbig
end Go.Proofs.Yteieaelinkdahaa
