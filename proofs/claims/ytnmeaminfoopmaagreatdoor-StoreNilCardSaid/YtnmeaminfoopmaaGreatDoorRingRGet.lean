/- The reference's Get of an item. -/
import Derived.Test.YtnmeaminfoopmaaGreatDoorRingGet
namespace Go.Proofs.YtnmeaminfoopmaaGreatDoor
open Go.RowKit Flo
attribute [local go_sem] run_store_complex

theorem read_ex (l : List Nat) : ∃ R : Read, R.of l := by
  obtain ⟨a, ha⟩ : ∃ a, pNum l 8 0 0 = a := ⟨_, rfl⟩
  obtain ⟨b, hb⟩ : ∃ b, pNum l 8 a.2.1 a.2.2 = b := ⟨_, rfl⟩
  obtain ⟨c, hc⟩ : ∃ c, pNum l 1 b.2.1 b.2.2 = c := ⟨_, rfl⟩
  obtain ⟨d, hd⟩ : ∃ d, pNum l 1 c.2.1 c.2.2 = d := ⟨_, rfl⟩
  obtain ⟨e, he⟩ : ∃ e, pNum l 3 d.2.1 d.2.2 = e := ⟨_, rfl⟩
  obtain ⟨f, hf⟩ : ∃ f, pNum l 1 e.2.1 e.2.2 = f := ⟨_, rfl⟩
  obtain ⟨g, hg⟩ : ∃ g, pTxt l 48 f.2.1 f.2.2 = g := ⟨_, rfl⟩
  obtain ⟨h, hh⟩ : ∃ h, pTxt l 64 g.2.1 g.2.2 = h := ⟨_, rfl⟩
  exact ⟨⟨a, b, c, d, e, f, g, h⟩, ⟨ha, hb, hc, hd, he, hf, hg, hh⟩⟩
theorem pNum_yes {l : List Nat} {k a : Nat} (h : a + k ≤ l.length) : pNum l k a 0 = (beVal ((l.drop a).take k), a + k, 0) := by
  unfold pNum pGet; rw [if_pos rfl, if_neg (by omega)]
theorem pNum_no {l : List Nat} {k a : Nat} (h : l.length < a + k) : pNum l k a 0 = (0, 0, 3) := by
  unfold pNum pGet; rw [if_pos rfl, if_pos h]
theorem pNum_err {l : List Nat} {k a e : Nat} (h : e ≠ 0) : pNum l k a e = (0, a, e) := if_neg h
theorem pTxt_err {l : List Nat} {k a e : Nat} (h : e ≠ 0) : pTxt l k a e = ([], a, e) := if_neg h
theorem beVal_one {l : List Nat} {a : Nat} (h : a < l.length) : beVal ((l.drop a).take 1) = l[a] := by
  have : (l.drop a).take 1 = [l[a]] := by rw [List.drop_eq_getElem_cons h]; rfl
  rw [this]; simp [beVal]
theorem beVal_three {l : List Nat} {a : Nat} (h : a + 2 < l.length) : beVal ((l.drop a).take 3) = l[a] * 65536 + l[a + 1] * 256 + l[a + 2] := by
  have : (l.drop a).take 3 = [l[a], l[a + 1], l[a + 2]] := by
    rw [List.drop_eq_getElem_cons (by omega : a < l.length), List.take_succ_cons, List.drop_eq_getElem_cons (by omega : a + 1 < l.length), List.take_succ_cons, List.drop_eq_getElem_cons (by omega : a + 1 + 1 < l.length), List.take_succ_cons, List.take_zero]
  rw [this]
  simp [beVal]
  omega
/-- What is read of 22 bytes and more. -/
structure Long (R : Read) (l : List Nat) (h : 22 ≤ l.length) : Prop where
  n1 : R.n1 = (beVal ((l.drop 0).take 8), 8, 0)
  n2 : R.n2 = (beVal ((l.drop 8).take 8), 16, 0)
  n3 : R.n3 = (l[16], 17, 0)
  n4 : R.n4 = (l[17], 18, 0)
  n5 : R.n5 = (l[18] * 65536 + l[19] * 256 + l[20], 21, 0)
  n6 : R.n6 = (l[21], 22, 0)
  n7 : R.n7 = pText l 22 48
  n8 : R.n8 = if R.n7.2.2 = 0 then pText l R.n7.2.1 64 else ([], R.n7.2.1, R.n7.2.2)
theorem read_long {R : Read} {l : List Nat} (hR : R.of l) (h : 22 ≤ l.length) : Long R l h := by
  obtain ⟨h1, h2, h3, h4, h5, h6, h7, h8⟩ := hR
  have e1 := h1.symm.trans (pNum_yes (l := l) (k := 8) (a := 0) (by omega))
  rw [e1] at h2
  have e2 := h2.symm.trans (pNum_yes (l := l) (k := 8) (a := 8) (by omega))
  rw [e2] at h3
  have e3 := h3.symm.trans (pNum_yes (l := l) (k := 1) (a := 16) (by omega))
  rw [e3] at h4
  have e4 := h4.symm.trans (pNum_yes (l := l) (k := 1) (a := 17) (by omega))
  rw [e4] at h5
  have e5 := h5.symm.trans (pNum_yes (l := l) (k := 3) (a := 18) (by omega))
  rw [e5] at h6
  have e6 := h6.symm.trans (pNum_yes (l := l) (k := 1) (a := 21) (by omega))
  rw [e6] at h7
  refine ⟨e1, e2, ?_, ?_, ?_, ?_, h7.symm, h8.symm⟩
  · rw [e3, beVal_one (by omega)]
  · rw [e4, beVal_one (by omega)]
  · rw [e5, beVal_three (by omega)]
  · rw [e6, beVal_one (by omega)]
theorem read_short {R : Read} {l : List Nat} (hR : R.of l) (h : l.length < 22) : R.n6.1 = 0 ∧ R.n8.2.2 = 3 := by
  obtain ⟨h1, h2, h3, h4, h5, h6, h7, h8⟩ := hR
  have step : ∀ {n m : Nat × Nat × Nat} {k : Nat}, n.2.2 = 3 → pNum l k n.2.1 n.2.2 = m → m.2.2 = 3 ∧ m.1 = 0 := by
    intro n m k hn hm
    rw [hn, pNum_err (by decide)] at hm
    subst hm
    exact ⟨rfl, rfl⟩
  have fin : R.n6.2.2 = 3 → R.n8.2.2 = 3 := by
    intro e
    rw [e, pTxt_err (by decide)] at h7
    rw [← h7, pTxt_err (by show (3 : Nat) ≠ 0; decide)] at h8
    rw [← h8]
  by_cases c1 : l.length < 8
  · have e1 := h1.symm.trans (pNum_no (l := l) (k := 8) (a := 0) (by omega))
    have s1 : R.n1.2.2 = 3 := by rw [e1]
    have s2 := step s1 h2
    have s3 := step s2.1 h3
    have s4 := step s3.1 h4
    have s5 := step s4.1 h5
    have s6 := step s5.1 h6
    exact ⟨s6.2, fin s6.1⟩
  · have e1 := h1.symm.trans (pNum_yes (l := l) (k := 8) (a := 0) (by omega))
    rw [e1] at h2
    by_cases c2 : l.length < 16
    · have e2 := h2.symm.trans (pNum_no (l := l) (k := 8) (a := 8) (by omega))
      have s2 : R.n2.2.2 = 3 := by rw [e2]
      have s3 := step s2 h3
      have s4 := step s3.1 h4
      have s5 := step s4.1 h5
      have s6 := step s5.1 h6
      exact ⟨s6.2, fin s6.1⟩
    · have e2 := h2.symm.trans (pNum_yes (l := l) (k := 8) (a := 8) (by omega))
      rw [e2] at h3
      by_cases c3 : l.length < 17
      · have e3 := h3.symm.trans (pNum_no (l := l) (k := 1) (a := 16) (by omega))
        have s3 : R.n3.2.2 = 3 := by rw [e3]
        have s4 := step s3 h4
        have s5 := step s4.1 h5
        have s6 := step s5.1 h6
        exact ⟨s6.2, fin s6.1⟩
      · have e3 := h3.symm.trans (pNum_yes (l := l) (k := 1) (a := 16) (by omega))
        rw [e3] at h4
        by_cases c4 : l.length < 18
        · have e4 := h4.symm.trans (pNum_no (l := l) (k := 1) (a := 17) (by omega))
          have s4 : R.n4.2.2 = 3 := by rw [e4]
          have s5 := step s4 h5
          have s6 := step s5.1 h6
          exact ⟨s6.2, fin s6.1⟩
        · have e4 := h4.symm.trans (pNum_yes (l := l) (k := 1) (a := 17) (by omega))
          rw [e4] at h5
          by_cases c5 : l.length < 21
          · have e5 := h5.symm.trans (pNum_no (l := l) (k := 3) (a := 18) (by omega))
            have s5 : R.n5.2.2 = 3 := by rw [e5]
            have s6 := step s5 h6
            exact ⟨s6.2, fin s6.1⟩
          · have e5 := h5.symm.trans (pNum_yes (l := l) (k := 3) (a := 18) (by omega))
            rw [e5] at h6
            have e6 := h6.symm.trans (pNum_no (l := l) (k := 1) (a := 21) (by omega))
            have s6 : R.n6.2.2 = 3 := by rw [e6]
            exact ⟨by rw [e6], fin s6⟩

/-- Where the reference's Get stands: its item, its none, its result. -/
structure Sg (w W : World) (C : List Value) : Prop where
  it : W.heap[w.heap.size + 1 + 1]? = some (.cells C.toArray 73 (0, 0))
  no : W.heap[w.heap.size + 1]? = some (.cells #[.int .u64 0, .int .u64 0, i64 0, i64 0, cx 0 0, .bool false, .string { data := #[] }, .string { data := #[] }] 73 (0, 0))
  res : W.heap[w.heap.size]? = some (.cells #[.int .u64 0, .int .u64 0, i64 0, i64 0, cx 0 0, .bool false, .string { data := #[] }, .string { data := #[] }] 73 (0, 0))
  below : Below w.heap.size w W
theorem Sg.set {w W : World} {C : List Value} (h : Sg w W C) (i : Nat) (x : Value) : Sg w (W.setCell ⟨w.heap.size + 1 + 1, i, none⟩ x) (C.set i x) := by
  refine ⟨?_, ?_, ?_, below_set h.below (by omega) _ _⟩
  · have := heap_setCell h.it i x
    simpa using this
  · rw [Below.heap_setCell _ _ _ _ (by show w.heap.size + 1 ≠ w.heap.size + 1 + 1; omega)]; exact h.no
  · rw [Below.heap_setCell _ _ _ _ (by show w.heap.size ≠ w.heap.size + 1 + 1; omega)]; exact h.res
theorem Sg.later {w W W' : World} {C : List Value} (h : Sg w W C) (hb : Below W.heap.size W W') : Sg w W' C :=
  ⟨blk_below h.it hb, blk_below h.no hb, blk_below h.res hb, Base.tr h.below hb⟩

set_option maxHeartbeats 8000000 in
set_option maxRecDepth 100000 in
theorem rGetIt_any (A : Option Addr) (n cap : Nat) (l : List Nat) (w : World) (h : Byt w (.slice A n cap) l) (hl : ∀ b ∈ l, b < 256) (hm : l.length ≤ 100000) (R : Read) (hR : R.of l) :
    Makes 105 #[.slice A n cap] w (.tuple #[R.res l.length, i64 (R.err l.length)]) := by
  have hn := h.len
  rw [List.length_map] at hn
  subst hn
  by_cases hs : l.length < 22
  · obtain ⟨r6, r8⟩ := read_short hR hs
    have hv : R.err l.length = 3 := by unfold Read.err; rw [if_neg (by omega), if_pos (by omega), r8]
    have HV := Lib.hid hv
    clear hv r6 r8 h hR
    go_enter Tryz.func105, Tryz.ntmps105
    go_wp2_with fail
    exact bodyPost_ret (v := .tuple #[.agg #[.int .u64 0, .int .u64 0, i64 0, i64 0, cx 0 0, .bool false, .string { data := #[] }, .string { data := #[] }], i64 (3 : Nat)]) (by simp [results, Tryz.results105, go_sem]) rfl ⟨by rw [res_no (by rw [HV.out]; decide), HV.out, zeroIt_val], Base.al (Base.al (Below.refl _ _) _) _⟩
  · have hlen : 22 ≤ l.length := by omega
    have L := read_long hR hlen
    obtain ⟨b, off, rfl, hb, hx⟩ := Byt.cell h (by omega)
    have G1 := fun W (hB : Below w.heap.size w W) => Lib.hid (rGet_any (some ⟨b, off, none⟩) l.length cap l 0 8 W (Sl.below h hB) hl (by omega) (by omega) (by omega) hm)
    have G2 := fun W (hB : Below w.heap.size w W) => Lib.hid (rGet_any (some ⟨b, off, none⟩) l.length cap l 8 8 W (Sl.below h hB) hl (by omega) (by omega) (by omega) hm)
    have G3 := fun a most W (hB : Below w.heap.size w W) ha hmo => Lib.hid (rText_any (some ⟨b, off, none⟩) l.length cap l a most W (Sl.below h hB) hl ha hmo hm)
    have v1 : pGet l 0 8 = (beVal ((l.drop 0).take 8), 8, 0) := by unfold pGet; rw [if_neg (by omega)]
    have v2 : pGet l 8 8 = (beVal ((l.drop 8).take 8), 16, 0) := by unfold pGet; rw [if_neg (by omega)]
    rw [v1] at G1
    rw [v2] at G2
    have hcell : ∀ j, (hj : j < l.length) → w.cell? ⟨b, off + j, none⟩ = some (.int .u8 (l[j] : Int)) := by
      intro j hj
      have := hx j (bv l[j]) (by rw [List.getElem?_map, List.getElem?_eq_getElem hj]; rfl)
      rwa [Addr.add_lit] at this
    have k16 := hcell 16 (by omega)
    have k17 := hcell 17 (by omega)
    have k18 := hcell 18 (by omega)
    have k19 := hcell 19 (by omega)
    have k20 := hcell 20 (by omega)
    have k21 := hcell 21 (by omega)
    have b16 := hl _ (List.getElem_mem (by omega : 16 < l.length))
    have b17 := hl _ (List.getElem_mem (by omega : 17 < l.length))
    have b21 := hl _ (List.getElem_mem (by omega : 21 < l.length))
    have b18 := hl _ (List.getElem_mem (by omega : 18 < l.length))
    have b19 := hl _ (List.getElem_mem (by omega : 19 < l.length))
    have b20 := hl _ (List.getElem_mem (by omega : 20 < l.length))
    obtain ⟨L1, L2, L3, L4, L5, L6, L7, L8⟩ := L
    generalize beVal ((l.drop 0).take 8) = q1 at *
    generalize beVal ((l.drop 8).take 8) = q2 at *
    generalize l[16] = d16 at *
    generalize l[17] = d17 at *
    generalize l[18] = d18 at *
    generalize l[19] = d19 at *
    generalize l[20] = d20 at *
    generalize l[21] = d21 at *
    clear hx hcell v1 v2
    go_enter Tryz.func105, Tryz.ntmps105
    go_wp2_with fail
    refine (G1 _ (Base.al (Base.al (Below.refl _ _) _) _)).out.mono ?_; rintro e x1 ⟨rfl, rfl⟩
    go_wp2_with fail
    refine (G2 _ (Base.al (Base.al (Below.refl _ _) _) _)).out.mono ?_; rintro e x1 ⟨rfl, rfl⟩
    go_wp2_with fail
    have m16 : (16 : Int) < (l.length : Int) := by omega
    have m17 : (17 : Int) < (l.length : Int) := by omega
    have m18 : (18 : Int) < (l.length : Int) := by omega
    have m19 : (19 : Int) < (l.length : Int) := by omega
    have m20 : (20 : Int) < (l.length : Int) := by omega
    have m21 : (21 : Int) < (l.length : Int) := by omega
    obtain ⟨i0, hi, hz0, hz1, hz2⟩ := info_parts info_Item
    refine wp_region_ph (D := fun w' => ∃ p : OnOf _, w' = p.v) 16 [15] (by kernel_rfl) (by kernel_rfl) ⟨⟨_, Base.dr (Below.refl _ _)⟩, rfl⟩ ?_
    simp only [List.take_succ_cons, List.take_zero, List.drop_succ_cons, List.drop_zero]
    have on0 := @on_rd0; have on1 := @on_rd1; have on2 := @on_rd2; have on3 := @on_new1; have on4 := @on_new2
    repeat (first | ((with_reducible refine head_alloc ?_ 73 hi hz0 ⟨⟨_, Base.al (by repeat (first | exact Base.dr (Below.refl _ _) | refine Base.al ?_ _)) _⟩, rfl⟩ ?_); (focus rfl)) | ((with_reducible refine head_quiet ?_ ?_); (focus rfl); (intro K hK); go_simp; first | ((with_reducible refine hK _ ?_); clear hK K) | (rw [if_neg (by intro h; cases h)]; (with_reducible refine hK _ ?_); clear hK K) | (apply Exists.intro; refine ⟨fun _ => ?_, hK _ ?_⟩; (fail); clear hK K)))
    clear on0 on1 on2 on3 on4
    with_reducible refine head_nil ?_
    rintro _ rfl
    have hr5 := fun W => rget_any d18 d19 d20 W (by omega) (by omega) (by omega) (by omega) (by omega) (by omega)
    have hp5 := plc_val (d18 * 65536 + d19 * 256 + d20) (by omega)
    rw [show ((d18 * 65536 + d19 * 256 + d20 : Nat) : Int) / 65536 = d18 by omega, show ((d18 * 65536 + d19 * 256 + d20 : Nat) : Int) / 256 % 256 = d19 by omega, show ((d18 * 65536 + d19 * 256 + d20 : Nat) : Int) % 256 = d20 by omega] at hp5
    rw [hp5] at hr5
    have R5 := fun W => Lib.hid (hr5 W)
    clear hr5 hp5
    go_wp2_with fail
    obtain ⟨W1, hW1⟩ : ∃ W, W = (((w.alloc (.cells #[.int .u64 0, .int .u64 0, i64 0, i64 0, cx 0 0, .bool false, .string { data := #[] }, .string { data := #[] }] 73)).alloc (.cells #[.int .u64 0, .int .u64 0, i64 0, i64 0, cx 0 0, .bool false, .string { data := #[] }, .string { data := #[] }] 73)).alloc (.cells #[.int .u64 (q1 : Int), .int .u64 (q2 : Int), i64 (d16 : Int), i64 (d17 : Int), cx 0 0, .bool ((d21 : Int) == 1), .string { data := #[] }, .string { data := #[] }] 73)).drew := ⟨_, rfl⟩
    have g1 : Sg w W1 [.int .u64 (q1 : Int), .int .u64 (q2 : Int), i64 (d16 : Int), i64 (d17 : Int), cx 0 0, .bool ((d21 : Int) == 1), .string { data := #[] }, .string { data := #[] }] := by
      rw [hW1]
      exact ⟨blk_new2 w _ _ _, blk_old (blk_new1 w _ _), blk_old (blk_old (blk_new w _)), Base.dr (Base.al (Base.al (Base.al (Below.refl _ _) _) _) _)⟩
    rw [← hW1]
    clear hW1
    obtain ⟨e1, -⟩ := rd g1.below
    have hq1 := (Array.getElem?_eq_some_iff.1 g1.it).1
    have hbw : b < W1.heap.size := Nat.lt_of_lt_of_le hb g1.below.size
    have j18 : W1.cell? ⟨b, off + 18, none⟩ = some (.int .u8 (d18 : Int)) := (e1 _ _ hb).trans k18
    have j19 : W1.cell? ⟨b, off + 19, none⟩ = some (.int .u8 (d19 : Int)) := (e1 _ _ hb).trans k19
    have j20 : W1.cell? ⟨b, off + 20, none⟩ = some (.int .u8 (d20 : Int)) := (e1 _ _ hb).trans k20
    have j21 : W1.cell? ⟨b, off + 21, none⟩ = some (.int .u8 (d21 : Int)) := (e1 _ _ hb).trans k21
    have f1 := fun o => frozen_blk g1.it o
    have x4 : W1.cell? ⟨w.heap.size + 1 + 1, 4, none⟩ = some (cx 0 0) := cell_blk g1.it 4
    clear e1 k16 k17 k18 k19 k20 k21 G1 G2
    have q0_ : W1.cell? ⟨w.heap.size, 0, none⟩ = some (.int .u64 0) := cell_blk g1.res 0
    have q1_ : W1.cell? ⟨w.heap.size, 1, none⟩ = some (.int .u64 0) := cell_blk g1.res 1
    have q2_ : W1.cell? ⟨w.heap.size, 2, none⟩ = some (i64 0) := cell_blk g1.res 2
    have q3_ : W1.cell? ⟨w.heap.size, 3, none⟩ = some (i64 0) := cell_blk g1.res 3
    have q4_ : W1.cell? ⟨w.heap.size, 4, none⟩ = some (cx 0 0) := cell_blk g1.res 4
    have q5_ : W1.cell? ⟨w.heap.size, 5, none⟩ = some (.bool false) := cell_blk g1.res 5
    have q6_ : W1.cell? ⟨w.heap.size, 6, none⟩ = some (.string { data := #[] }) := cell_blk g1.res 6
    have q7_ : W1.cell? ⟨w.heap.size, 7, none⟩ = some (.string { data := #[] }) := cell_blk g1.res 7
    have qf := fun o => frozen_blk g1.res o
    have n0_ : W1.cell? ⟨w.heap.size + 1, 0, none⟩ = some (.int .u64 0) := cell_blk g1.no 0
    have n1_ : W1.cell? ⟨w.heap.size + 1, 1, none⟩ = some (.int .u64 0) := cell_blk g1.no 1
    have n2_ : W1.cell? ⟨w.heap.size + 1, 2, none⟩ = some (i64 0) := cell_blk g1.no 2
    have n3_ : W1.cell? ⟨w.heap.size + 1, 3, none⟩ = some (i64 0) := cell_blk g1.no 3
    have n4_ : W1.cell? ⟨w.heap.size + 1, 4, none⟩ = some (cx 0 0) := cell_blk g1.no 4
    have n5_ : W1.cell? ⟨w.heap.size + 1, 5, none⟩ = some (.bool false) := cell_blk g1.no 5
    have n6_ : W1.cell? ⟨w.heap.size + 1, 6, none⟩ = some (.string { data := #[] }) := cell_blk g1.no 6
    have n7_ : W1.cell? ⟨w.heap.size + 1, 7, none⟩ = some (.string { data := #[] }) := cell_blk g1.no 7
    refine wp_region_ph (D := fun w' => ∃ p : OnOf _, w' = p.v) 11 [] (by kernel_rfl) (by kernel_rfl) ⟨⟨_, Base.dr (Below.refl _ _)⟩, rfl⟩ ?_
    simp only [List.take_succ_cons, List.take_zero, List.drop_succ_cons, List.drop_zero]
    have on0 := @on_rd0; have on1 := @on_rd1; have on2 := @on_rd2; have on3 := @on_new1; have on4 := @on_new2
    repeat (first | ((with_reducible refine head_quiet ?_ ?_); (focus rfl); (intro K hK); go_simp; first | ((with_reducible refine hK _ ?_); clear hK K) | (rw [if_neg (by intro h; cases h)]; (with_reducible refine hK _ ?_); clear hK K) | (apply Exists.intro; refine ⟨fun _ => ?_, hK _ ?_⟩; ((with_reducible exact (R5 _).out)); clear hK K)))
    clear on0 on1 on2 on3 on4
    with_reducible refine head_nil ?_
    rintro _ rfl
    by_cases hd : 1 < d21
    · have hv : R.err l.length = 2 := by unfold Read.err; rw [L6, if_pos hd]
      have HV := Lib.hid hv
      clear hv
      go_wp2_with fail
      exact bodyPost_ret (v := .tuple #[.agg #[.int .u64 0, .int .u64 0, i64 0, i64 0, cx 0 0, .bool false, .string { data := #[] }, .string { data := #[] }], i64 (2 : Nat)]) (by simp [results, Tryz.results105, go_sem, q0_, q1_, q2_, q3_, q4_, q5_, q6_, q7_]) rfl ⟨by rw [res_no (by rw [HV.out]; decide), HV.out, zeroIt_val], Base.dr (below_set (below_set (below_set (below_set (below_set (below_set (below_set (below_set (below_set g1.below (by omega) _ _) (Nat.le_refl _) _ _) (Nat.le_refl _) _ _) (Nat.le_refl _) _ _) (Nat.le_refl _) _ _) (Nat.le_refl _) _ _) (Nat.le_refl _) _ _) (Nat.le_refl _) _ _) (Nat.le_refl _) _ _)⟩
    · have g2 : Sg w (W1.setCell ⟨w.heap.size + 1 + 1, 4, none⟩ (cx (plc (d18 * 65536 + d19 * 256 + d20)).1 (plc (d18 * 65536 + d19 * 256 + d20)).2)).drew [.int .u64 (q1 : Int), .int .u64 (q2 : Int), i64 (d16 : Int), i64 (d17 : Int), cx (plc (d18 * 65536 + d19 * 256 + d20)).1 (plc (d18 * 65536 + d19 * 256 + d20)).2, .bool ((d21 : Int) == 1), .string { data := #[] }, .string { data := #[] }] := (g1.set 4 (cx (plc (d18 * 65536 + d19 * 256 + d20)).1 (plc (d18 * 65536 + d19 * 256 + d20)).2)).later (Base.dr (Below.refl _ _))
      clear q0_ q1_ q2_ q3_ q4_ q5_ q6_ q7_ qf n0_ n1_ n2_ n3_ n4_ n5_ n6_ n7_
      go_wp2_with fail
      refine (G3 22 48 _ g2.below (by omega) (by omega)).out.mono ?_; rintro e W2 ⟨rfl, hb2⟩
      have g2 := g2.later hb2
      rw [← L7]
      clear hb2 g1 x4 f1 j18 j19 j20 j21 hq1 hbw
      have le7 : R.n7.2.1 ≤ l.length := by rw [L7]; have := pTxt_le (l := l) (m := 48) (a := 22) (e := 0) hlen; exact this
      clear L7
      have q0_ : W2.cell? ⟨w.heap.size, 0, none⟩ = some (.int .u64 0) := cell_blk g2.res 0
      have q1_ : W2.cell? ⟨w.heap.size, 1, none⟩ = some (.int .u64 0) := cell_blk g2.res 1
      have q2_ : W2.cell? ⟨w.heap.size, 2, none⟩ = some (i64 0) := cell_blk g2.res 2
      have q3_ : W2.cell? ⟨w.heap.size, 3, none⟩ = some (i64 0) := cell_blk g2.res 3
      have q4_ : W2.cell? ⟨w.heap.size, 4, none⟩ = some (cx 0 0) := cell_blk g2.res 4
      have q5_ : W2.cell? ⟨w.heap.size, 5, none⟩ = some (.bool false) := cell_blk g2.res 5
      have q6_ : W2.cell? ⟨w.heap.size, 6, none⟩ = some (.string { data := #[] }) := cell_blk g2.res 6
      have q7_ : W2.cell? ⟨w.heap.size, 7, none⟩ = some (.string { data := #[] }) := cell_blk g2.res 7
      have qf := fun o => frozen_blk g2.res o
      have n0_ : W2.cell? ⟨w.heap.size + 1, 0, none⟩ = some (.int .u64 0) := cell_blk g2.no 0
      have n1_ : W2.cell? ⟨w.heap.size + 1, 1, none⟩ = some (.int .u64 0) := cell_blk g2.no 1
      have n2_ : W2.cell? ⟨w.heap.size + 1, 2, none⟩ = some (i64 0) := cell_blk g2.no 2
      have n3_ : W2.cell? ⟨w.heap.size + 1, 3, none⟩ = some (i64 0) := cell_blk g2.no 3
      have n4_ : W2.cell? ⟨w.heap.size + 1, 4, none⟩ = some (cx 0 0) := cell_blk g2.no 4
      have n5_ : W2.cell? ⟨w.heap.size + 1, 5, none⟩ = some (.bool false) := cell_blk g2.no 5
      have n6_ : W2.cell? ⟨w.heap.size + 1, 6, none⟩ = some (.string { data := #[] }) := cell_blk g2.no 6
      have n7_ : W2.cell? ⟨w.heap.size + 1, 7, none⟩ = some (.string { data := #[] }) := cell_blk g2.no 7
      by_cases e7 : R.n7.2.2 = 0
      · have t7 : ((R.n7.2.2 : Int) != 0) = false := by rw [bne_eq_false_iff_eq]; omega
        rw [if_pos e7] at L8
        have HL8 := Lib.hid L8
        clear L8
        clear q0_ q1_ q2_ q3_ q4_ q5_ q6_ q7_ qf n0_ n1_ n2_ n3_ n4_ n5_ n6_ n7_
        go_wp2_with fail
        refine (G3 R.n7.2.1 64 _ g2.below le7 (by omega)).out.mono ?_; rintro e W3 ⟨rfl, hb3⟩
        have g3 := g2.later hb3
        rw [← HL8.out]
        have le8 : R.n8.2.1 ≤ l.length := by rw [HL8.out]; have := pTxt_le (l := l) (m := 64) (a := R.n7.2.1) (e := 0) le7; exact this
        clear hb3 g2 G3 HL8
        have q0_ : W3.cell? ⟨w.heap.size, 0, none⟩ = some (.int .u64 0) := cell_blk g3.res 0
        have q1_ : W3.cell? ⟨w.heap.size, 1, none⟩ = some (.int .u64 0) := cell_blk g3.res 1
        have q2_ : W3.cell? ⟨w.heap.size, 2, none⟩ = some (i64 0) := cell_blk g3.res 2
        have q3_ : W3.cell? ⟨w.heap.size, 3, none⟩ = some (i64 0) := cell_blk g3.res 3
        have q4_ : W3.cell? ⟨w.heap.size, 4, none⟩ = some (cx 0 0) := cell_blk g3.res 4
        have q5_ : W3.cell? ⟨w.heap.size, 5, none⟩ = some (.bool false) := cell_blk g3.res 5
        have q6_ : W3.cell? ⟨w.heap.size, 6, none⟩ = some (.string { data := #[] }) := cell_blk g3.res 6
        have q7_ : W3.cell? ⟨w.heap.size, 7, none⟩ = some (.string { data := #[] }) := cell_blk g3.res 7
        have qf := fun o => frozen_blk g3.res o
        have n0_ : W3.cell? ⟨w.heap.size + 1, 0, none⟩ = some (.int .u64 0) := cell_blk g3.no 0
        have n1_ : W3.cell? ⟨w.heap.size + 1, 1, none⟩ = some (.int .u64 0) := cell_blk g3.no 1
        have n2_ : W3.cell? ⟨w.heap.size + 1, 2, none⟩ = some (i64 0) := cell_blk g3.no 2
        have n3_ : W3.cell? ⟨w.heap.size + 1, 3, none⟩ = some (i64 0) := cell_blk g3.no 3
        have n4_ : W3.cell? ⟨w.heap.size + 1, 4, none⟩ = some (cx 0 0) := cell_blk g3.no 4
        have n5_ : W3.cell? ⟨w.heap.size + 1, 5, none⟩ = some (.bool false) := cell_blk g3.no 5
        have n6_ : W3.cell? ⟨w.heap.size + 1, 6, none⟩ = some (.string { data := #[] }) := cell_blk g3.no 6
        have n7_ : W3.cell? ⟨w.heap.size + 1, 7, none⟩ = some (.string { data := #[] }) := cell_blk g3.no 7
        have i0_ : W3.cell? ⟨w.heap.size + 1 + 1, 0, none⟩ = some (.int .u64 (q1 : Int)) := cell_blk g3.it 0
        have i1_ : W3.cell? ⟨w.heap.size + 1 + 1, 1, none⟩ = some (.int .u64 (q2 : Int)) := cell_blk g3.it 1
        have i2_ : W3.cell? ⟨w.heap.size + 1 + 1, 2, none⟩ = some (i64 (d16 : Int)) := cell_blk g3.it 2
        have i3_ : W3.cell? ⟨w.heap.size + 1 + 1, 3, none⟩ = some (i64 (d17 : Int)) := cell_blk g3.it 3
        have i4_ : W3.cell? ⟨w.heap.size + 1 + 1, 4, none⟩ = some (cx (plc (d18 * 65536 + d19 * 256 + d20)).1 (plc (d18 * 65536 + d19 * 256 + d20)).2) := cell_blk g3.it 4
        have i5_ : W3.cell? ⟨w.heap.size + 1 + 1, 5, none⟩ = some (.bool ((d21 : Int) == 1)) := cell_blk g3.it 5
        have i6_ : W3.cell? ⟨w.heap.size + 1 + 1, 6, none⟩ = some (.string { data := #[] }) := cell_blk g3.it 6
        have i7_ : W3.cell? ⟨w.heap.size + 1 + 1, 7, none⟩ = some (.string { data := #[] }) := cell_blk g3.it 7
        have if_ := fun o => frozen_blk g3.it o
        by_cases e8 : R.n8.2.2 = 0
        · have t8 : ((R.n8.2.2 : Int) != 0) = false := by rw [bne_eq_false_iff_eq]; omega
          by_cases hat : R.n8.2.1 < l.length
          · have hv : R.err l.length = 2 := by unfold Read.err; rw [L6, if_neg hd, if_neg (by simp [e8]), if_pos hat]
            have HV := Lib.hid hv
            have t9 : ((R.n8.2.1 : Int) != (l.length : Int)) = true := by rw [bne_iff_ne]; omega
            clear hv
            go_wp2_with fail
            exact bodyPost_ret (v := .tuple #[.agg #[.int .u64 0, .int .u64 0, i64 0, i64 0, cx 0 0, .bool false, .string { data := #[] }, .string { data := #[] }], i64 (2 : Nat)]) (by simp [results, Tryz.results105, go_sem, q0_, q1_, q2_, q3_, q4_, q5_, q6_, q7_]) rfl ⟨by rw [res_no (by rw [HV.out]; decide), HV.out, zeroIt_val], below_set (below_set (below_set (below_set (below_set (below_set (below_set (below_set (below_set (below_set g3.below (by omega) _ _) (by omega) _ _) (Nat.le_refl _) _ _) (Nat.le_refl _) _ _) (Nat.le_refl _) _ _) (Nat.le_refl _) _ _) (Nat.le_refl _) _ _) (Nat.le_refl _) _ _) (Nat.le_refl _) _ _) (Nat.le_refl _) _ _⟩
          · have t9 : ((R.n8.2.1 : Int) != (l.length : Int)) = false := by rw [bne_eq_false_iff_eq]; omega
            have M := fun W => Lib.hid (refMay_any R.item W)
            have hv : R.err l.length = if mayB R.item = false then 1 else 0 := by unfold Read.err; rw [L6, if_neg hd, if_neg (by simp [e8]), if_neg hat]
            have hit : R.item = ⟨q1, q2, d16, d17, (plc (d18 * 65536 + d19 * 256 + d20)).1, (plc (d18 * 65536 + d19 * 256 + d20)).2, ((d21 : Int) == 1), toB R.n7.1, toB R.n8.1⟩ := by unfold Read.item; rw [L1, L2, L3, L4, L5, L6]
            cases hmay : mayB R.item
            all_goals
              rw [hmay] at M hv
              simp only [if_true, if_false, Bool.true_eq_false, Bool.false_eq_true] at hv
              have HV := Lib.hid hv
              rw [hit] at M
              have HIT := Lib.hid hit
              clear hv hmay hit
              go_wp2_with fail
              refine (M _).out.mono ?_; rintro e W4 ⟨rfl, hb4⟩
              have g4 := ((g3.set 6 (.string (toB R.n7.1))).set 7 (.string (toB R.n8.1))).later hb4
              clear hb4 M g3 q0_ q1_ q2_ q3_ q4_ q5_ q6_ q7_ qf n0_ n1_ n2_ n3_ n4_ n5_ n6_ n7_ i0_ i1_ i2_ i3_ i4_ i5_ i6_ i7_ if_
              have q0_ : W4.cell? ⟨w.heap.size, 0, none⟩ = some (.int .u64 0) := cell_blk g4.res 0
              have q1_ : W4.cell? ⟨w.heap.size, 1, none⟩ = some (.int .u64 0) := cell_blk g4.res 1
              have q2_ : W4.cell? ⟨w.heap.size, 2, none⟩ = some (i64 0) := cell_blk g4.res 2
              have q3_ : W4.cell? ⟨w.heap.size, 3, none⟩ = some (i64 0) := cell_blk g4.res 3
              have q4_ : W4.cell? ⟨w.heap.size, 4, none⟩ = some (cx 0 0) := cell_blk g4.res 4
              have q5_ : W4.cell? ⟨w.heap.size, 5, none⟩ = some (.bool false) := cell_blk g4.res 5
              have q6_ : W4.cell? ⟨w.heap.size, 6, none⟩ = some (.string { data := #[] }) := cell_blk g4.res 6
              have q7_ : W4.cell? ⟨w.heap.size, 7, none⟩ = some (.string { data := #[] }) := cell_blk g4.res 7
              have qf := fun o => frozen_blk g4.res o
              have n0_ : W4.cell? ⟨w.heap.size + 1, 0, none⟩ = some (.int .u64 0) := cell_blk g4.no 0
              have n1_ : W4.cell? ⟨w.heap.size + 1, 1, none⟩ = some (.int .u64 0) := cell_blk g4.no 1
              have n2_ : W4.cell? ⟨w.heap.size + 1, 2, none⟩ = some (i64 0) := cell_blk g4.no 2
              have n3_ : W4.cell? ⟨w.heap.size + 1, 3, none⟩ = some (i64 0) := cell_blk g4.no 3
              have n4_ : W4.cell? ⟨w.heap.size + 1, 4, none⟩ = some (cx 0 0) := cell_blk g4.no 4
              have n5_ : W4.cell? ⟨w.heap.size + 1, 5, none⟩ = some (.bool false) := cell_blk g4.no 5
              have n6_ : W4.cell? ⟨w.heap.size + 1, 6, none⟩ = some (.string { data := #[] }) := cell_blk g4.no 6
              have n7_ : W4.cell? ⟨w.heap.size + 1, 7, none⟩ = some (.string { data := #[] }) := cell_blk g4.no 7
              have i0_ : W4.cell? ⟨w.heap.size + 1 + 1, 0, none⟩ = some (.int .u64 (q1 : Int)) := cell_blk g4.it 0
              have i1_ : W4.cell? ⟨w.heap.size + 1 + 1, 1, none⟩ = some (.int .u64 (q2 : Int)) := cell_blk g4.it 1
              have i2_ : W4.cell? ⟨w.heap.size + 1 + 1, 2, none⟩ = some (i64 (d16 : Int)) := cell_blk g4.it 2
              have i3_ : W4.cell? ⟨w.heap.size + 1 + 1, 3, none⟩ = some (i64 (d17 : Int)) := cell_blk g4.it 3
              have i4_ : W4.cell? ⟨w.heap.size + 1 + 1, 4, none⟩ = some (cx (plc (d18 * 65536 + d19 * 256 + d20)).1 (plc (d18 * 65536 + d19 * 256 + d20)).2) := cell_blk g4.it 4
              have i5_ : W4.cell? ⟨w.heap.size + 1 + 1, 5, none⟩ = some (.bool ((d21 : Int) == 1)) := cell_blk g4.it 5
              have i6_ : W4.cell? ⟨w.heap.size + 1 + 1, 6, none⟩ = some (.string (toB R.n7.1)) := cell_blk g4.it 6
              have i7_ : W4.cell? ⟨w.heap.size + 1 + 1, 7, none⟩ = some (.string (toB R.n8.1)) := cell_blk g4.it 7
              have if_ := fun o => frozen_blk g4.it o
              go_wp2_with fail
            · exact bodyPost_ret (v := .tuple #[.agg #[.int .u64 0, .int .u64 0, i64 0, i64 0, cx 0 0, .bool false, .string { data := #[] }, .string { data := #[] }], i64 (1 : Nat)]) (by simp [results, Tryz.results105, go_sem, q0_, q1_, q2_, q3_, q4_, q5_, q6_, q7_]) rfl ⟨by rw [res_no (by rw [HV.out]; decide), HV.out, zeroIt_val], below_set (below_set (below_set (below_set (below_set (below_set (below_set (below_set (g4.below) (Nat.le_refl _) _ _) (Nat.le_refl _) _ _) (Nat.le_refl _) _ _) (Nat.le_refl _) _ _) (Nat.le_refl _) _ _) (Nat.le_refl _) _ _) (Nat.le_refl _) _ _) (Nat.le_refl _) _ _⟩
            · exact bodyPost_ret (v := .tuple #[.agg #[.int .u64 (q1 : Int), .int .u64 (q2 : Int), i64 (d16 : Int), i64 (d17 : Int), cx (plc (d18 * 65536 + d19 * 256 + d20)).1 (plc (d18 * 65536 + d19 * 256 + d20)).2, .bool ((d21 : Int) == 1), .string (toB R.n7.1), .string (toB R.n8.1)], i64 (0 : Nat)]) (by simp [results, Tryz.results105, go_sem, q0_, q1_, q2_, q3_, q4_, q5_, q6_, q7_]) rfl ⟨by rw [res_yes HV.out, HV.out, HIT.out], below_set (below_set (below_set (below_set (below_set (below_set (below_set (below_set (g4.below) (Nat.le_refl _) _ _) (Nat.le_refl _) _ _) (Nat.le_refl _) _ _) (Nat.le_refl _) _ _) (Nat.le_refl _) _ _) (Nat.le_refl _) _ _) (Nat.le_refl _) _ _) (Nat.le_refl _) _ _⟩
        · have t8 : ((R.n8.2.2 : Int) != 0) = true := by rw [bne_iff_ne]; omega
          have hv : R.err l.length = R.n8.2.2 := by unfold Read.err; rw [L6, if_neg hd, if_pos e8]
          have HV := Lib.hid hv
          clear hv
          go_wp2_with fail
          exact bodyPost_ret (v := .tuple #[.agg #[.int .u64 0, .int .u64 0, i64 0, i64 0, cx 0 0, .bool false, .string { data := #[] }, .string { data := #[] }], i64 (R.n8.2.2 : Nat)]) (by simp [results, Tryz.results105, go_sem, q0_, q1_, q2_, q3_, q4_, q5_, q6_, q7_]) rfl ⟨by rw [res_no (by rw [HV.out]; exact e8), HV.out, zeroIt_val], below_set (below_set (below_set (below_set (below_set (below_set (below_set (below_set (g3.below) (Nat.le_refl _) _ _) (Nat.le_refl _) _ _) (Nat.le_refl _) _ _) (Nat.le_refl _) _ _) (Nat.le_refl _) _ _) (Nat.le_refl _) _ _) (Nat.le_refl _) _ _) (Nat.le_refl _) _ _⟩
      · have t7 : ((R.n7.2.2 : Int) != 0) = true := by rw [bne_iff_ne]; omega
        rw [if_neg e7] at L8
        have hv : R.err l.length = R.n7.2.2 := by unfold Read.err; rw [L6, if_neg hd, L8, if_pos e7]
        have HV := Lib.hid hv
        clear hv L8
        go_wp2_with fail
        exact bodyPost_ret (v := .tuple #[.agg #[.int .u64 0, .int .u64 0, i64 0, i64 0, cx 0 0, .bool false, .string { data := #[] }, .string { data := #[] }], i64 (R.n7.2.2 : Nat)]) (by simp [results, Tryz.results105, go_sem, q0_, q1_, q2_, q3_, q4_, q5_, q6_, q7_]) rfl ⟨by rw [res_no (by rw [HV.out]; exact e7), HV.out, zeroIt_val], below_set (below_set (below_set (below_set (below_set (below_set (below_set (below_set (g2.below) (Nat.le_refl _) _ _) (Nat.le_refl _) _ _) (Nat.le_refl _) _ _) (Nat.le_refl _) _ _) (Nat.le_refl _) _ _) (Nat.le_refl _) _ _) (Nat.le_refl _) _ _) (Nat.le_refl _) _ _⟩
end Go.Proofs.YtnmeaminfoopmaaGreatDoor
