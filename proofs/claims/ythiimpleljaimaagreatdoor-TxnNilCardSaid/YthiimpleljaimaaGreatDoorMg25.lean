/- Package view: Writes, Reads. -/
import Derived.Test.YthiimpleljaimaaGreatDoorMg24
import Derived.Test.YthiimpleljaimaaGreatDoorMg19
import Derived.Lib.MakeNoZero
namespace Go.Proofs.YthiimpleljaimaaGreatDoor
open Go Go.RowKit Flo
attribute [local go_sem] run_store_complex

/-- A store into a row of the call's own. -/
theorem own_setW {w : World} {base : Nat} {e : TypeId} {size g cap n : Nat} {xs : List Value} (h : w.ownsRow base e size (.slice (some ⟨g, 0, none⟩) n cap) n xs) (q : Nat) (u : Value) :
    (w.setCell ⟨g, q, none⟩ u).ownsRow base e size (.slice (some ⟨g, 0, none⟩) n cap) n (xs.set q u) := by
  refine ⟨by rw [List.length_set]; exact h.1, ?_⟩
  rcases h.2 with ⟨hv, _⟩ | ⟨g', cap', cur, hv, hbg, hgg, hnc, hcm, hcs, htake⟩
  · cases hv
  · simp only [Value.slice.injEq, Option.some.injEq, Addr.mk.injEq, and_true, true_and] at hv
    obtain ⟨rfl, rfl⟩ := hv
    refine .inr ⟨g, cap, _, rfl, hbg, heap_setCell hgg q u, hnc, hcm, by simpa using hcs, ?_⟩
    rw [Array.toList_setIfInBounds, ← htake]
    exact List.take_set ..
theorem own_frozenW {w : World} {base : Nat} {e : TypeId} {size g cap n : Nat} {xs : List Value} (h : w.ownsRow base e size (.slice (some ⟨g, 0, none⟩) n cap) n xs) (q : Nat) : w.frozen? ⟨g, q, none⟩ = false := by
  rcases h.2 with ⟨hv, _⟩ | ⟨g', cap', cur, hv, hbg, hgg, hnc, hcm, hcs, htake⟩
  · cases hv
  · simp only [Value.slice.injEq, Option.some.injEq, Addr.mk.injEq, and_true, true_and] at hv
    obtain ⟨rfl, rfl⟩ := hv
    exact frozen_blk hgg q
theorem own_row3 {w : World} {base g cap n : Nat} {ps : List Pair} (h : w.ownsRow base 71 3 (.slice (some ⟨g, 0, none⟩) n cap) n (ps.flatMap Pair.row)) {k : Nat} {p : Pair} (hk : ps[k]? = some p) :
    g < w.heap.size ∧ w.cell? ⟨g, k * 3, none⟩ = some (.string p.key) ∧ w.cell? ⟨g, k * 3 + 1, none⟩ = some (.string p.value) ∧ w.cell? ⟨g, k * 3 + 2, none⟩ = some (.bool p.gone) := by
  have hl : ps.length = n := by
    have h1 := h.1
    have : ∀ l : List Pair, (l.flatMap Pair.row).length = l.length * 3 := by
      intro l
      induction l with
      | nil => rfl
      | cons a l ih =>
        rw [List.flatMap_cons, List.length_append, ih]
        show 3 + l.length * 3 = (l.length + 1) * 3
        omega
    rw [this] at h1
    omega
  have hsl : Sl w 3 (.slice (some ⟨g, 0, none⟩) n cap) (ps.map Pair.row) := Sl.own _ (by intro y hy; obtain ⟨q, _, rfl⟩ := List.mem_map.1 hy; rfl) (by rw [List.length_map, ← List.flatMap_def, hl]; exact h)
  have hkl := (List.getElem?_eq_some_iff.1 hk).1
  obtain ⟨b, off, hA, hb, hx⟩ := hsl.at (by omega)
  injection hA with hA
  injection hA with h1 h2 _
  subst h1; subst h2
  have key := (hx k p.row (by rw [List.getElem?_map, hk]; rfl)).2
  have kk : ∀ j u, p.row[j]? = some u → w.cell? ⟨g, k * 3 + j, none⟩ = some u := fun j u hj => by
    have := key j u hj
    rwa [Nat.zero_add] at this
  exact ⟨hb, kk 0 _ rfl, kk 1 _ rfl, kk 2 _ rfl⟩
theorem own_len3 {w : World} {base n : Nat} {v : Value} {ps : List Pair} (h : w.ownsRow base 71 3 v n (ps.flatMap Pair.row)) : ps.length = n := by
  have h1 := h.1
  have : ∀ l : List Pair, (l.flatMap Pair.row).length = l.length * 3 := by
    intro l
    induction l with
    | nil => rfl
    | cons a l ih =>
      rw [List.flatMap_cons, List.length_append, ih]
      show 3 + l.length * 3 = (l.length + 1) * 3
      omega
  rw [this] at h1
  omega
/-- A writing without its mark. -/
def unmark (p : Pair) : Pair := ⟨p.key, p.value.extract 1 p.value.size, false⟩
theorem unmark_set {ps : List Pair} {k : Nat} {p : Pair} (h : ps[k]? = some p) : ((ps.take k).map unmark ++ ps.drop k).set k (unmark p) = (ps.take (k + 1)).map unmark ++ ps.drop (k + 1) := by
  obtain ⟨h1, h2⟩ := List.getElem?_eq_some_iff.1 h
  have e1 : ((ps.take k).map unmark).length = k := by simp; omega
  rw [List.set_append_right _ _ (by omega), e1, Nat.sub_self, List.drop_eq_getElem_cons h1, List.set_cons_zero, List.take_succ_eq_append_getElem h1, List.map_append, h2, List.append_assoc]
  rfl
theorem empty_no {b : ByteArray} (h : 0 < b.size) : b.toList.isEmpty = false := by
  rw [ByteArray.toList_eq]
  obtain ⟨⟨l⟩⟩ := b
  cases l with
  | nil => exact absurd h (by decide)
  | cons a l => rfl
set_option maxHeartbeats 8000000 in
set_option maxRecDepth 100000 in
theorem vwWrites_any {w : World} {B : Nat} {V : VwV} (h : VwR w B V) (hs : V.writes.size ≤ 100000) (hm : ∀ p ∈ inT V.writes, 0 < p.value.size ∧ p.value.size ≤ 1000000 ∧ p.gone = false) :
    Calls Tryz.prog 66 #[V.ptr] w fun e w' => ∃ u, e = .returned u ∧ w'.ownsRow w.heap.size 71 3 u V.writes.size (((inT V.writes).map unmark).flatMap Pair.row) ∧ Below w.heap.size w w' := by
  obtain ⟨wq, hwq⟩ := h.writes.ptr
  have c2 : w.cell? ⟨V.b, 2, none⟩ = some (.pointer wq) := (cell_blk h.box 2).trans (by show some V.writesV = _; rw [hwq])
  have G := Lib.hid (vwAll_any h.writes hs)
  rw [hwq] at G
  have hlt := h.lt
  have HM := Lib.hid hm
  have HL := Lib.hid (inT_len V.writes)
  generalize inT V.writes = ps at *
  generalize V.writes.size = n at *
  clear h hwq hm
  go_enter Tryz.func66, Tryz.ntmps66
  go_wp2_with fail
  refine G.out.mono ?_; rintro e w1 ⟨u, rfl, hown, hb1⟩
  obtain ⟨A1, c1, rfl⟩ : ∃ A c, u = .slice A n c := by
    rcases hown.2 with ⟨h1, h2⟩ | ⟨g', c', _, h1, _⟩
    · exact ⟨none, 0, by rw [h1, h2]⟩
    · exact ⟨_, _, h1⟩
  have HO := Lib.hid hown
  have HB := Lib.hid hb1
  clear hown hb1 G
  go_wp2_with fail
  go_loopw [15] (fun iv wr => ∃ k : Nat, k ≤ n ∧ iv = .int .i64 k ∧ Hid (wr.ownsRow w.heap.size 71 3 (.slice A1 n c1) n (((ps.take k).map unmark ++ ps.drop k).flatMap Pair.row)) ∧ Hid (Below w.heap.size w wr)) (fun iv _ => n - (intOf iv).toNat)
  case atStart => exact ⟨0, Nat.zero_le _, rfl, HO, HB⟩
  case round =>
    obtain ⟨k, hk, rfl, hown, hb⟩ := hrel
    clear HO HB
    have kwk : IntKind.i64.wrap ((k : Int) + 1) = (k : Int) + 1 := by rw [IntKind.wrap_i64]; omega
    by_cases hlt1 : k < n
    · have hkI : (k : Int) < (n : Int) := by omega
      obtain ⟨g, rfl⟩ : ∃ g, A1 = some ⟨g, 0, none⟩ := by
        rcases hown.out.2 with ⟨_, h2⟩ | ⟨g', c', _, h1, _⟩
        · omega
        · injection h1 with h1 _ _
          exact ⟨g', h1⟩
      obtain ⟨p, hp⟩ : ∃ p, ps[k]? = some p := ⟨_, List.getElem?_eq_getElem (by rw [HL.out]; exact hlt1)⟩
      have hgk : ((ps.take k).map unmark ++ ps.drop k)[k]? = some p := by
        rw [List.getElem?_append_right (by simp; omega)]
        simp only [List.length_map, List.length_take, HL.out, Nat.min_eq_left hk, Nat.sub_self, List.getElem?_drop, Nat.add_zero]
        exact hp
      obtain ⟨hgl, n0, n1, n2⟩ := own_row3 hown.out hgk
      obtain ⟨m1, m2, m3⟩ := HM.out p (List.mem_of_getElem? hp)
      have fz := fun q => own_frozenW hown.out q
      obtain ⟨pk, pv, pg⟩ := p
      simp only at n0 n1 n2 m1 m2 m3
      subst m3
      have hge := (Nat.le_refl 0)
      have HGK := Lib.hid hgk
      have HP := Lib.hid hp
      clear hgk hp hge
      have hown2 : (((wr.setCell ⟨g, k * 3 + 2, none⟩ (.bool pv.toList.isEmpty)).setCell ⟨g, k * 3 + 1, none⟩ (.string (pv.extract 1 pv.size))).alloc (.cells #[.string pk, .string pv, .bool false] 71)).ownsRow w.heap.size 71 3 (.slice (some ⟨g, 0, none⟩) n c1) n (((ps.take (k + 1)).map unmark ++ ps.drop (k + 1)).flatMap Pair.row) := by
        have q1 := own_setW (own_setW hown.out (k * 3 + 2) (.bool pv.toList.isEmpty)) (k * 3 + 1) (.string (pv.extract 1 pv.size))
        rw [empty_no m1] at q1 ⊢
        rw [flat_set Pair.row 3 (fun _ => rfl) _ k ⟨pk, pv, false⟩ ⟨pk, pv, false⟩ 2 (.bool false) HGK.out (by decide) rfl,
          flat_set Pair.row 3 (fun _ => rfl) _ k ⟨pk, pv, false⟩ ⟨pk, pv.extract 1 pv.size, false⟩ 1 (.string (pv.extract 1 pv.size)) (by rw [List.getElem?_set_self (List.getElem?_eq_some_iff.1 HGK.out).1]) (by decide) rfl,
          List.set_set, show (⟨pk, pv.extract 1 pv.size, false⟩ : Pair) = unmark ⟨pk, pv, false⟩ from rfl, unmark_set HP.out] at q1
        exact q1.alloc _
      have hgB : w.heap.size ≤ g := by
        rcases hown.out.2 with ⟨h1, _⟩ | ⟨g', c', _, h1, h2, _⟩
        · cases h1
        · injection h1 with h1 _ _
          injection h1 with h1
          injection h1 with h1 _ _
          omega
      have HO2 := Lib.hid hown2
      have HB2 := Lib.hid (Base.al (Base.st (Base.st hb.out hgB (k * 3 + 2) (.bool pv.toList.isEmpty)) hgB (k * 3 + 1) (.string (pv.extract 1 pv.size))) (.cells #[.string pk, .string pv, .bool false] 71))
      clear hown2 hown hb
      go_wp2_with fail
      exact ⟨⟨k + 1, by omega, by go_num, HO2, HB2⟩, by simp [intOf]; omega⟩
    · obtain rfl : k = n := by omega
      have HO2 : Hid (wr.ownsRow w.heap.size 71 3 (.slice A1 k c1) k ((ps.map unmark).flatMap Pair.row)) := Lib.hid (by
        have := hown.out
        rw [List.take_of_length_le (by rw [HL.out]; exact Nat.le_refl _), List.drop_eq_nil_of_le (by rw [HL.out]; exact Nat.le_refl _), List.append_nil] at this
        exact this)
      clear hown
      go_wp2_with fail
      go_ret
      exact ⟨_, rfl, HO2.out, hb.out⟩
end Go.Proofs.YthiimpleljaimaaGreatDoor

/- Package clash: a history in memory; Now, Clone, what is found at once. -/
namespace Go.Proofs.YthiimpleljaimaaGreatDoor
open Go Go.RowKit Flo
attribute [local go_sem] run_store_complex

/-- A history's block. -/
abbrev HsR (w : World) (hb g : Nat) (A : Option Addr) (n c : Nat) : Prop := w.heap[hb]? = some (.cells #[.int .u64 (g : Int), .slice A n c] 138 (0, 0))
set_option maxHeartbeats 2000000 in
set_option maxRecDepth 100000 in
theorem clashNew_any (w : World) : Calls Tryz.prog 30 #[] w fun e w' => e = .returned (.pointer (some ⟨w.heap.size, 0, none⟩)) ∧ HsR w' w.heap.size 0 none 0 0 ∧ Below w.heap.size w w' := by
  go_enter Tryz.func30, Tryz.ntmps30
  go_wp2_with fail
  go_ret
  exact ⟨rfl, blk_new w _, Base.al (Below.refl _ _) _⟩
set_option maxHeartbeats 4000000 in
set_option maxRecDepth 100000 in
theorem hsNow_any {w : World} {hb g n c : Nat} {A : Option Addr} (h : HsR w hb g A n c) (hs : g + n ≤ 1000000) : Makes 36 #[.pointer (some ⟨hb, 0, none⟩)] w (.int .u64 ((g + n : Nat) : Int)) := by
  have hlt := (Array.getElem?_eq_some_iff.1 h).1
  have c0 : w.cell? ⟨hb, 0, none⟩ = some (.int .u64 (g : Int)) := cell_blk h 0
  have c1 : w.cell? ⟨hb, 1, none⟩ = some (.slice A n c) := cell_blk h 1
  have q0 := fun p : OnOf w => on_cell hlt c0 p
  have q1 := fun p : OnOf w => on_cell hlt c1 p
  have k1 : IntKind.u64.wrap (n : Int) = (n : Int) := by rw [IntKind.wrap_u64]; omega
  have k2 : IntKind.u64.wrap ((g : Int) + (n : Int)) = (g : Int) + (n : Int) := by rw [IntKind.wrap_u64]; omega
  clear h c0 c1 hs
  go_enter Tryz.func36, Tryz.ntmps36
  go_wp2_with fail
  refine wp_region_quiet_on (by kernel_rfl) (by kernel_rfl) ?_
  repeat ((with_reducible refine wpQuiet_step (fun K hK => ?_)); go_simp; first | ((with_reducible refine hK _ ?_); clear hK K) | (rw [if_neg (by intro h; cases h)]; (with_reducible refine hK _ ?_); clear hK K) | (apply Exists.intro; refine ⟨fun _ => ?_, hK _ ?_⟩; (fail); clear hK K))
  with_reducible refine wpQuiet_nil ?_
  intro _ hw'
  obtain ⟨pq, hw''⟩ := hw'
  subst hw''
  go_wp2_with fail
  go_ret
  exact ⟨by push_cast; rfl, pq.h⟩
theorem own_emptyK (w : World) (e : TypeId) (k : Nat) : (w.alloc (.cells #[] e)).ownsRow w.heap.size e k (.slice (some ⟨w.heap.size, 0, none⟩) 0 0) 0 [] :=
  ⟨by simp, .inr ⟨w.heap.size, 0, #[], rfl, Nat.le_refl _, blk_new _ _, Nat.le_refl _, by unfold maxLen; omega, by simp, by simp⟩⟩
set_option maxHeartbeats 4000000 in
set_option maxRecDepth 100000 in
theorem clonePairs {w : World} {base g n c : Nat} {xs : List Value} (h : w.ownsRow base 71 3 (.slice (some ⟨g, 0, none⟩) n c) n xs) (hx : ∀ u ∈ xs, u.oneCell' = true) (hn : 0 < n) (hm : n ≤ 100000) :
    Calls Tryz.prog 101 #[.slice (some ⟨g, 0, none⟩) n c] w fun e w' => ∃ g' c', e = .returned (.slice (some ⟨g', 0, none⟩) n c') ∧ w'.ownsRow w.heap.size 71 3 (.slice (some ⟨g', 0, none⟩) n c') n xs ∧ Below w.heap.size w w' := by
  obtain ⟨i0, hi, hz0, hz1, hz2⟩ := info_parts info_PairS
  have hsrc := (own_below h (Base.al (Below.refl _ w) (.cells #[] 71))).cells (g := g) rfl
  have hll : xs.length = n * 3 := h.1
  have q22 : ∀ (w : World) (a : Option Addr) (n c n' c' : Nat), (binOp .eql 150 (.slice a n c) (.slice none n' c')).run Tryz.prog w = .ok (.bool a.isNone) w := fun w a n c n' c' => Lib.run_eql_slice_nil w _ _ a n c n' c' Tryz.underlying150
  clear h
  go_enter Tryz.func101, Tryz.ntmps101
  go_wp2_with (at_builtin; go_must (refine wpList_append_own _ rfl _ _ 150 rfl w.heap.size 71 i0 _ 3 40 Tryz.underlying150 hi hz0 hz1 hz2 rfl (by decide) _ _ _ rfl (own_emptyK _ _ 3) ⟨g, 0, none⟩ n c xs rfl hll hsrc hx ?c3 ?c4 ?c5 ?_))
  case c3 => unfold maxLen; omega
  case c4 => omega
  case c5 => simp
  intro v1 w1 hown1 hgrow hne
  have hb1 : Below w.heap.size w w1 := Base.gr (Base.al (Below.refl _ _) _) hgrow (fun g hg => ((own_emptyK w 71 3).lt g hg).1)
  obtain ⟨g', c', rfl⟩ : ∃ g' c', v1 = .slice (some ⟨g', 0, none⟩) n c' := by
    rcases hown1.2 with ⟨h0, h1⟩ | ⟨g', c', _, h0, _⟩
    · omega
    · exact ⟨g', c', h0⟩
  have HO := Lib.hid hown1
  clear hgrow hown1
  go_wp2_with fail
  go_ret
  exact ⟨g', c', rfl, HO.out, hb1⟩
set_option maxHeartbeats 4000000 in
set_option maxRecDepth 100000 in
theorem index_head {w : World} {g n c : Nat} {key : ByteArray} (h : w.cell? ⟨g, 0, none⟩ = some (.string key)) (hl : g < w.heap.size) (hn : 0 < n) : Gives 174 #[.slice (some ⟨g, 0, none⟩) n c, .string key] w (i64 0) := by
  have hnI : (0 : Int) < (n : Int) := by omega
  have hnz : ¬ n = 0 := by omega
  go_enter Tryz.func174, Tryz.ntmps174
  go_wp2_with fail
  go_loopw [8] (fun iv wr => iv = i64 0 ∧ wr = w) (fun _ _ => 0)
  case atStart => exact ⟨rfl, rfl⟩
  case round =>
    obtain ⟨rfl, rfl⟩ := hrel
    go_wp2_with fail
    go_ret
    exact ⟨rfl, rfl⟩
set_option maxHeartbeats 4000000 in
set_option maxRecDepth 100000 in
theorem contains_head {w : World} {g n c : Nat} {key : ByteArray} (h : w.cell? ⟨g, 0, none⟩ = some (.string key)) (hl : g < w.heap.size) (hn : 0 < n) : Gives 127 #[.slice (some ⟨g, 0, none⟩) n c, .string key] w (.bool true) := by
  have G := Lib.hid (index_head (c := c) h hl hn)
  clear h hl hn
  go_enter Tryz.func127, Tryz.ntmps127
  go_wp2_with fail
  refine G.out.mono ?_; rintro e w1 ⟨rfl, rfl⟩
  go_wp2_with fail
  go_ret
  exact ⟨rfl, rfl⟩
end Go.Proofs.YthiimpleljaimaaGreatDoor

/- Package clash: what clashes at its first key. -/
namespace Go.Proofs.YthiimpleljaimaaGreatDoor
open Go Go.RowKit Flo
attribute [local go_sem] run_store_complex

/-- What was read: its first key, in memory; the boxes of what was read. -/
structure RdFirst (w : World) (rb gb rg rn rc : Nat) (key : ByteArray) : Prop where
  cell : w.cell? ⟨rg, 0, none⟩ = some (.string key)
  lt : rg < w.heap.size
  pos : 0 < rn
  box : w.cell? ⟨rb, 0, none⟩ = some (.slice (some ⟨rg, 0, none⟩) rn rc)
  lb : rb < w.heap.size
  gox : w.cell? ⟨gb, 0, none⟩ = some (.slice none 0 0)
  gl : gb < w.heap.size
theorem RdFirst.below {w w' : World} {rb gb rg rn rc : Nat} {key : ByteArray} (h : RdFirst w rb gb rg rn rc key) (hb : Below w.heap.size w w') : RdFirst w' rb gb rg rn rc key :=
  ⟨(hb.cell (p := ⟨rg, 0, none⟩) h.lt).trans h.cell, Nat.lt_of_lt_of_le h.lt hb.size, h.pos, (hb.cell (p := ⟨rb, 0, none⟩) h.lb).trans h.box, Nat.lt_of_lt_of_le h.lb hb.size, (hb.cell (p := ⟨gb, 0, none⟩) h.gl).trans h.gox, Nat.lt_of_lt_of_le h.gl hb.size⟩
abbrev ptr0 (b : Nat) : Value := .pointer (some ⟨b, 0, none⟩)
set_option maxHeartbeats 4000000 in
set_option maxRecDepth 100000 in
theorem clash1_yes {w : World} {rb gb rg rn rc : Nat} {p : Pair} (h : RdFirst w rb gb rg rn rc p.key) : Makes 126 #[.agg (pairL p).toArray, ptr0 rb, ptr0 gb] w (.bool true) := by
  obtain ⟨pk, pv, pg⟩ := p
  have hb1 := Base.al (Below.refl _ w) (.cells #[.string pk, .string pv, .bool pg] 71)
  have h1 := h.below hb1
  have G := Lib.hid (contains_head (c := rc) h1.cell h1.lt h1.pos)
  have c0 := h1.box
  have l0 := h1.lb
  simp only at G
  clear h h1
  go_enter Tryz.func126, Tryz.ntmps126
  go_wp2_with fail
  refine G.out.mono ?_; rintro e w1 ⟨rfl, rfl⟩
  clear c0
  go_wp2_with fail
  go_ret
  exact ⟨rfl, hb1⟩
set_option maxHeartbeats 4000000 in
set_option maxRecDepth 100000 in
theorem indexF_pairs {w : World} {rb gb rg rn rc g n c : Nat} {p : Pair} (h : RdFirst w rb gb rg rn rc p.key) (c0 : w.cell? ⟨g, 0, none⟩ = some (.string p.key)) (c1 : w.cell? ⟨g, 1, none⟩ = some (.string p.value)) (c2 : w.cell? ⟨g, 2, none⟩ = some (.bool p.gone)) (hl : g < w.heap.size) (hn : 0 < n) :
    Makes 173 #[.slice (some ⟨g, 0, none⟩) n c, .func (.func 126) #[] #[ptr0 rb, ptr0 gb]] w (i64 0) := by
  have G := Lib.hid (clash1_yes h)
  obtain ⟨pk, pv, pg⟩ := p
  have hnI : (0 : Int) < (n : Int) := by omega
  have hnz : ¬ n = 0 := by omega
  simp only at c0 c1 c2
  clear h
  go_enter Tryz.func173, Tryz.ntmps173
  go_wp2_with fail
  go_loopw [8] (fun iv wr => iv = i64 0 ∧ wr = w) (fun _ _ => 0)
  case atStart => exact ⟨rfl, rfl⟩
  case round =>
    obtain ⟨rfl, rfl⟩ := hrel
    go_wp2_with fail
    refine G.out.mono ?_; rintro e w1 ⟨rfl, hb⟩
    clear c0 c1 c2
    go_wp2_with fail
    go_ret
    exact ⟨rfl, hb⟩
set_option maxHeartbeats 4000000 in
set_option maxRecDepth 100000 in
theorem containsF_pairs {w : World} {rb gb rg rn rc g n c : Nat} {p : Pair} (h : RdFirst w rb gb rg rn rc p.key) (c0 : w.cell? ⟨g, 0, none⟩ = some (.string p.key)) (c1 : w.cell? ⟨g, 1, none⟩ = some (.string p.value)) (c2 : w.cell? ⟨g, 2, none⟩ = some (.bool p.gone)) (hl : g < w.heap.size) (hn : 0 < n) :
    Makes 125 #[.slice (some ⟨g, 0, none⟩) n c, .func (.func 126) #[] #[ptr0 rb, ptr0 gb]] w (.bool true) := by
  have G := Lib.hid (indexF_pairs (c := c) h c0 c1 c2 hl hn)
  clear h c0 c1 c2 hl hn
  go_enter Tryz.func125, Tryz.ntmps125
  go_wp2_with fail
  refine G.out.mono ?_; rintro e w1 ⟨rfl, hb⟩
  go_wp2_with fail
  go_ret
  exact ⟨rfl, hb⟩
set_option maxHeartbeats 4000000 in
set_option maxRecDepth 100000 in
theorem clash_yes {w : World} {rg rn rc g n c : Nat} {p : Pair} (r0 : w.cell? ⟨rg, 0, none⟩ = some (.string p.key)) (rl : rg < w.heap.size) (rp : 0 < rn) (c0 : w.cell? ⟨g, 0, none⟩ = some (.string p.key)) (c1 : w.cell? ⟨g, 1, none⟩ = some (.string p.value)) (c2 : w.cell? ⟨g, 2, none⟩ = some (.bool p.gone)) (hl : g < w.heap.size) (hn : 0 < n) :
    Makes 95 #[.slice (some ⟨rg, 0, none⟩) rn rc, .slice none 0 0, .slice (some ⟨g, 0, none⟩) n c] w (.bool true) := by
  have hb1 : Below w.heap.size w ((w.alloc (.cells #[.slice (some ⟨rg, 0, none⟩) rn rc] 39)).alloc (.cells #[.slice none 0 0] 144)) := Base.al (Base.al (Below.refl _ _) _) _
  have hR : RdFirst ((w.alloc (.cells #[.slice (some ⟨rg, 0, none⟩) rn rc] 39)).alloc (.cells #[.slice none 0 0] 144)) w.heap.size (w.heap.size + 1) rg rn rc p.key :=
    ⟨(hb1.cell (p := ⟨rg, 0, none⟩) rl).trans r0, Nat.lt_of_lt_of_le rl hb1.size, rp, cell_blk (blk_old (blk_new w _)) 0, (Array.getElem?_eq_some_iff.1 (blk_old (blk_new w _))).1, cell_blk (blk_new1 w _ _) 0, (Array.getElem?_eq_some_iff.1 (blk_new1 w _ _)).1⟩
  have G := Lib.hid (containsF_pairs (c := c) (n := n) hR ((hb1.cell (p := ⟨g, 0, none⟩) hl).trans c0) ((hb1.cell (p := ⟨g, 1, none⟩) hl).trans c1) ((hb1.cell (p := ⟨g, 2, none⟩) hl).trans c2) (Nat.lt_of_lt_of_le hl hb1.size) hn)
  clear hR r0 rl rp c0 c1 c2 hl hn
  go_enter Tryz.func95, Tryz.ntmps95
  go_wp2_with fail
  refine G.out.mono ?_; rintro e w1 ⟨rfl, hb⟩
  have hb2 := Base.tr hb1 hb
  go_wp2_with fail
  go_ret
  exact ⟨rfl, hb2⟩
end Go.Proofs.YthiimpleljaimaaGreatDoor

