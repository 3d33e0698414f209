/- Package view: Reads, Ranges; package clash: the history's Clash, Add, Forget. -/
import Derived.Test.YthiimpleljaimaaGreatDoorMg25
import Derived.Test.YthiimpleljaimaaGreatDoorMg26
namespace Go.Proofs.YthiimpleljaimaaGreatDoor
open Go Go.RowKit Flo
attribute [local go_sem] run_store_complex

set_option maxHeartbeats 8000000 in
set_option maxRecDepth 100000 in
theorem vwReads_any {w : World} {B : Nat} {V : VwV} (h : VwR w B V) (hs : V.reads.size ≤ 100000) :
    Calls Tryz.prog 91 #[V.ptr] w fun e w' => ∃ u, e = .returned u ∧ w'.ownsRow w.heap.size 9 1 u V.reads.size ((inT V.reads).map fun p => .string p.key) ∧ Below w.heap.size w w' := by
  obtain ⟨i0, hi, hz0, hz1, hz2⟩ := info_parts info_strS
  obtain ⟨rq, hrq⟩ := h.reads.ptr
  have c3 : w.cell? ⟨V.b, 3, none⟩ = some (.pointer rq) := (cell_blk h.box 3).trans (by show some V.readsV = _; rw [hrq])
  have G := Lib.hid (vwAll_any h.reads hs)
  rw [hrq] at G
  have hlt := h.lt
  have HL := Lib.hid (inT_len V.reads)
  have HS := Lib.hid hs
  generalize inT V.reads = ps at *
  generalize V.reads.size = n at *
  clear h hrq hs
  go_enter Tryz.func91, Tryz.ntmps91
  go_wp2_with fail
  refine G.out.mono ?_; rintro e w1 ⟨u, rfl, hown, hb1⟩
  obtain ⟨A1, c1, rfl⟩ : ∃ A c, u = .slice A n c := by
    rcases hown.2 with ⟨h1, h2⟩ | ⟨g', c', _, h1, _⟩
    · exact ⟨none, 0, by rw [h1, h2]⟩
    · exact ⟨_, _, h1⟩
  have HO := Lib.hid hown
  have HB := Lib.hid hb1
  have hz1' := hb1.size
  clear hown hb1 G c3
  go_wp2_with fail
  go_loopw [3, 15] (fun uv iv wr => ∃ k : Nat, k ≤ n ∧ iv = .int .i64 k ∧ Hid (wr.ownsRow w1.heap.size 9 1 uv k ((ps.take k).map fun p => .string p.key)) ∧ Hid (Below w1.heap.size w1 wr)) (fun _ iv _ => n - (intOf iv).toNat)
  case atStart => exact ⟨0, Nat.zero_le _, rfl, Lib.hid (World.ownsRow_nil _ _ _ _), Lib.hid (Below.refl _ _)⟩
  case round =>
    obtain ⟨k, hk, rfl, hown, hb⟩ := hrel
    have HSn : n ≤ 100000 := HS.out
    have kwk : IntKind.i64.wrap ((k : Int) + 1) = (k : Int) + 1 := by rw [IntKind.wrap_i64]; omega
    by_cases hlt1 : k < n
    · have hkI : (k : Int) < (n : Int) := by omega
      obtain ⟨g, rfl⟩ : ∃ g, A1 = some ⟨g, 0, none⟩ := by
        rcases HO.out.2 with ⟨_, h2⟩ | ⟨g', c', _, h1, _⟩
        · omega
        · injection h1 with h1 _ _
          exact ⟨g', h1⟩
      obtain ⟨p, hp⟩ : ∃ p, ps[k]? = some p := ⟨_, List.getElem?_eq_getElem (by rw [HL.out]; exact hlt1)⟩
      obtain ⟨hgl, n0, n1, n2⟩ := own_row3 (own_below HO.out hb.out) hp
      have htk : (ps.take (k + 1)).map (fun p => Value.string p.key) = (ps.take k).map (fun p => Value.string p.key) ++ [.string p.key] := by
        obtain ⟨h1, h2⟩ := List.getElem?_eq_some_iff.1 hp
        rw [List.take_succ_eq_append_getElem h1, List.map_append, h2]
        rfl
      have HTK := Lib.hid htk
      obtain ⟨pk, pv, pg⟩ := p
      simp only at n0 n1 n2
      clear hp htk
      have hb2 := Base.al hb.out (.cells #[.string pk, .string pv, .bool pg] 71)
      have hown2 := hown.out.alloc (.cells #[.string pk, .string pv, .bool pg] 71)
      obtain ⟨wS, hwS⟩ : ∃ W, W = w := ⟨_, rfl⟩
      clear hwS
      obtain ⟨w, rfl⟩ : ∃ w, w = w1 := ⟨_, rfl⟩
      go_wp2_with (at_builtin; refine wpList_append_own _ rfl _ _ 39 rfl w.heap.size 9 i0 (.string { data := #[] }) 1 16 Tryz.underlying39 hi hz0 hz1 hz2 rfl (by decide) _ _ _ rfl (hown2.alloc _) ⟨(wr.heap.size + 1), 0, none⟩ 1 1 [.string pk] rfl rfl ?c1 ?c2 ?c3 ?c4 ?c5 ?_)
      try (case c1 => exact news_at (by simp) _ _)
      case c2 => simp [Value.oneCell']
      case c3 => unfold maxLen; omega
      case c4 => omega
      case c5 => have := hb2.size; (try simp at this); (try simp); omega
      intro v' w2 hown3 hgrow _
      have hb3 := Base.gr (Base.al hb2 _) hgrow (fun g hg => (hown2.lt g hg).1)
      have HO3 : Hid (w2.ownsRow w.heap.size 9 1 _ (k + 1) ((ps.take (k + 1)).map fun p => .string p.key)) := Lib.hid (by
        rw [HTK.out, List.map_take]
        exact hown3)
      go_wp2_with fail
      exact ⟨⟨k + 1, by omega, by go_num, HO3, Lib.hid hb3⟩, by simp [intOf]; omega⟩
    · obtain rfl : k = n := by omega
      have HO2 : Hid (wr.ownsRow w.heap.size 9 1 _ k (ps.map fun p => .string p.key)) := Lib.hid (by
        have := hown.out
        rw [List.take_of_length_le (by rw [HL.out]; exact Nat.le_refl _)] at this
        exact own_base this hz1')
      have HB2 := Lib.hid (Base.tr HB.out hb.out)
      clear hown
      go_wp2_with fail
      go_ret
      exact ⟨_, rfl, HO2.out, HB2.out⟩
set_option maxHeartbeats 4000000 in
set_option maxRecDepth 100000 in
theorem vwRanges_nil {w : World} {B : Nat} {V : VwV} (h : VwR w B V) (hr : V.rg = .slice none 0 0) : Gives 92 #[V.ptr] w (.slice none 0 0) := by
  have c4 : w.cell? ⟨V.b, 4, none⟩ = some (.slice none 0 0) := (cell_blk h.box 4).trans (by show some V.rg = _; rw [hr])
  have q22 : ∀ (w : World) (a : Option Addr) (n c n' c' : Nat), (binOp .eql 144 (.slice a n c) (.slice none n' c')).run Tryz.prog w = .ok (.bool a.isNone) w := fun w a n c n' c' => Lib.run_eql_slice_nil w _ _ a n c n' c' Tryz.underlying144
  have G : ∀ W, Hid (Gives 71 #[.slice none 0 0] W (.slice none 0 0)) := fun W => Lib.hid (by
    go_enter Tryz.func71, Tryz.ntmps71
    go_wp2_with fail
    go_ret
    exact ⟨rfl, rfl⟩)
  clear h hr
  go_enter Tryz.func92, Tryz.ntmps92
  go_wp2_with fail
  refine (G _).out.mono ?_; rintro e w1 ⟨rfl, rfl⟩
  go_wp2_with fail
  go_ret
  exact ⟨rfl, rfl⟩
set_option maxHeartbeats 4000000 in
set_option maxRecDepth 100000 in
/-- Nothing came since. -/
theorem hsClash_none {w : World} {hb g n c : Nat} {A : Option Addr} (h : HsR w hb g A n c) (hs : g + n ≤ 1000000) (since : Nat) (hsi : g + n ≤ since) (v : Value) : Makes 65 #[ptr0 hb, .int .u64 (since : Int), v] w (.tuple #[.bool false, .bool true]) := by
  have G := Lib.hid (hsNow_any h hs)
  have t1 : decide (g + n ≤ since) = true := decide_eq_true (by omega)
  clear h hs hsi
  generalize g + n = m at *
  go_enter Tryz.func65, Tryz.ntmps65
  go_wp2_with fail
  refine G.out.mono ?_; rintro e w1 ⟨rfl, hb1⟩
  go_wp2_with fail
  go_ret2
  exact ⟨rfl, hb1⟩
/-- The first pair of what was written, in memory. -/
structure WrFirst (w : World) (g : Nat) (p : Pair) : Prop where
  c0 : w.cell? ⟨g, 0, none⟩ = some (.string p.key)
  c1 : w.cell? ⟨g, 1, none⟩ = some (.string p.value)
  c2 : w.cell? ⟨g, 2, none⟩ = some (.bool p.gone)
  lt : g < w.heap.size
theorem WrFirst.below {w w' : World} {g : Nat} {p : Pair} (h : WrFirst w g p) (hb : Below w.heap.size w w') : WrFirst w' g p :=
  ⟨(hb.cell (p := ⟨g, 0, none⟩) h.lt).trans h.c0, (hb.cell (p := ⟨g, 1, none⟩) h.lt).trans h.c1, (hb.cell (p := ⟨g, 2, none⟩) h.lt).trans h.c2, Nat.lt_of_lt_of_le h.lt hb.size⟩
set_option maxHeartbeats 4000000 in
set_option maxRecDepth 100000 in
theorem hsClash1_yes {w : World} {rb gb rg rn rc g n c : Nat} {p : Pair} (h : RdFirst w rb gb rg rn rc p.key) (hw : WrFirst w g p) (hn : 0 < n) : Makes 94 #[.slice (some ⟨g, 0, none⟩) n c, ptr0 rb, ptr0 gb] w (.bool true) := by
  have G := Lib.hid (clash_yes (rc := rc) (c := c) h.cell h.lt h.pos hw.c0 hw.c1 hw.c2 hw.lt hn)
  have b0 := h.box
  have b1 := h.lb
  have b2 := h.gox
  have b3 := h.gl
  clear h hw hn
  go_enter Tryz.func94, Tryz.ntmps94
  go_wp2_with fail
  refine G.out.mono ?_; rintro e w1 ⟨rfl, hb⟩
  go_wp2_with fail
  go_ret
  exact ⟨rfl, hb⟩
set_option maxHeartbeats 4000000 in
set_option maxRecDepth 100000 in
theorem indexF_hist {w : World} {rb gb rg rn rc g n c lg ln lc : Nat} {p : Pair} (h : RdFirst w rb gb rg rn rc p.key) (hw : WrFirst w g p) (hn : 0 < n) (hl : w.cell? ⟨lg, 0, none⟩ = some (.slice (some ⟨g, 0, none⟩) n c)) (hlg : lg < w.heap.size) (hln : 0 < ln) :
    Makes 124 #[.slice (some ⟨lg, 0, none⟩) ln lc, .func (.func 94) #[] #[ptr0 rb, ptr0 gb]] w (i64 0) := by
  have G := Lib.hid (hsClash1_yes (c := c) h hw hn)
  have hnI : (0 : Int) < (ln : Int) := by omega
  have hnz : ¬ ln = 0 := by omega
  clear h hw hn
  go_enter Tryz.func124, Tryz.ntmps124
  go_wp2_with fail
  go_loopw [8] (fun iv wr => iv = i64 0 ∧ wr = w) (fun _ _ => 0)
  case atStart => exact ⟨rfl, rfl⟩
  case round =>
    obtain ⟨rfl, rfl⟩ := hrel
    go_wp2_with fail
    refine G.out.mono ?_; rintro e w1 ⟨rfl, hb⟩
    clear hl
    go_wp2_with fail
    go_ret
    exact ⟨rfl, hb⟩
set_option maxHeartbeats 4000000 in
set_option maxRecDepth 100000 in
theorem containsF_hist {w : World} {rb gb rg rn rc g n c lg ln lc : Nat} {p : Pair} (h : RdFirst w rb gb rg rn rc p.key) (hw : WrFirst w g p) (hn : 0 < n) (hl : w.cell? ⟨lg, 0, none⟩ = some (.slice (some ⟨g, 0, none⟩) n c)) (hlg : lg < w.heap.size) (hln : 0 < ln) :
    Makes 93 #[.slice (some ⟨lg, 0, none⟩) ln lc, .func (.func 94) #[] #[ptr0 rb, ptr0 gb]] w (.bool true) := by
  have G := Lib.hid (indexF_hist (lc := lc) h hw hn hl hlg hln)
  clear h hw hn hl hlg hln
  go_enter Tryz.func93, Tryz.ntmps93
  go_wp2_with fail
  refine G.out.mono ?_; rintro e w1 ⟨rfl, hb⟩
  go_wp2_with fail
  go_ret
  exact ⟨rfl, hb⟩
set_option maxHeartbeats 8000000 in
set_option maxRecDepth 100000 in
/-- What came since clashes with what was read first. -/
theorem hsClash_yes {w : World} {B hb lg ln lc g n c : Nat} {V : VwV} {p : Pair} (h : HsR w hb 0 (some ⟨lg, 0, none⟩) ln lc) (hln : 0 < ln) (hln2 : ln ≤ 1000) (hlc : ln ≤ lc) (hl : w.cell? ⟨lg, 0, none⟩ = some (.slice (some ⟨g, 0, none⟩) n c)) (hlg : lg < w.heap.size) (hw : WrFirst w g p) (hn : 0 < n)
    (hv : VwR w B V) (hr : V.rg = .slice none 0 0) (hs : V.reads.size ≤ 100000) (ps : List Pair) (pv : ByteArray) (hps : inT V.reads = ⟨p.key, pv, false⟩ :: ps) : Makes 65 #[ptr0 hb, .int .u64 0, V.ptr] w (.tuple #[.bool true, .bool true]) := by
  have G := Lib.hid (hsNow_any h (by omega))
  have GR := fun W (hb : Below w.heap.size w W) => Lib.hid (vwReads_any (hv.below hb) hs)
  have GG := fun W (hb : Below w.heap.size w W) => Lib.hid (vwRanges_nil (hv.below hb) hr)
  have HPS := Lib.hid hps
  have HV := Lib.hid (show V.reads.size = ps.length + 1 by rw [← inT_len, hps]; rfl)
  have H := Lib.hid h
  have HW := Lib.hid hw
  have HL := Lib.hid hl
  have t1 : decide (0 + ln ≤ 0) = false := decide_eq_false (by omega)
  have t2 : ¬ ln = 0 := by omega
  clear h hv hr hs hps hw hl
  go_enter Tryz.func65, Tryz.ntmps65
  go_wp2_with fail
  refine G.out.mono ?_; rintro e w1 ⟨rfl, hb1⟩
  go_wp2_with fail
  refine (GR _ hb1).out.mono ?_; rintro e w2 ⟨u, rfl, hown, hb2⟩
  obtain ⟨rg, rc, rfl⟩ : ∃ rg rc, u = .slice (some ⟨rg, 0, none⟩) V.reads.size rc := by
    rcases hown.2 with ⟨h1, h2⟩ | ⟨g', c', _, h1, _⟩
    · have := HV.out; omega
    · exact ⟨_, _, h1⟩
  have hrc : w2.cell? ⟨rg, 0, none⟩ = some (.string p.key) := by
    have h1 := (hown.cells (g := rg) rfl) 0 (.string p.key) (by rw [HPS.out]; rfl)
    exact h1
  have hrl := (hown.lt rg rfl).2
  have hrp : 0 < V.reads.size := by rw [HV.out]; omega
  clear hown
  generalize V.reads.size = rn at *
  have hb12 := Base.tr hb1 hb2
  go_wp2_with fail
  refine (GG _ hb12).out.mono ?_; rintro e w3 ⟨rfl, rfl⟩
  go_wp2_with fail
  obtain ⟨W, hW⟩ : ∃ W, W = (w3.alloc (.cells #[.slice (some ⟨rg, 0, none⟩) rn rc] 39)).alloc (.cells #[.slice none 0 0] 144) := ⟨_, rfl⟩
  have hb3 : Below w3.heap.size w3 W := by rw [hW]; exact Base.al (Base.al (Below.refl _ _) _) _
  have hbW : Below w.heap.size w W := Base.tr hb12 hb3
  have RF : RdFirst W w3.heap.size (w3.heap.size + 1) rg rn rc p.key := ⟨(hb3.cell (p := ⟨rg, 0, none⟩) hrl).trans hrc, Nat.lt_of_lt_of_le hrl hb3.size, hrp, by rw [hW]; go_simp, by rw [hW, World.alloc, World.alloc, Array.size_push, Array.size_push]; omega, by rw [hW]; go_simp, by rw [hW, World.alloc, World.alloc, Array.size_push, Array.size_push]; omega⟩
  rw [← hW]
  clear hW
  have hhb := (Array.getElem?_eq_some_iff.1 H.out).1
  have hhbW := Nat.lt_of_lt_of_le hhb hbW.size
  have c0 : W.cell? ⟨hb, 0, none⟩ = some (.int .u64 (0 : Int)) := (hbW.cell (p := ⟨hb, 0, none⟩) hhb).trans (cell_blk H.out 0)
  have c1 : W.cell? ⟨hb, 1, none⟩ = some (.slice (some ⟨lg, 0, none⟩) ln lc) := (hbW.cell (p := ⟨hb, 1, none⟩) hhb).trans (cell_blk H.out 1)
  have q0 := fun p : OnOf W => on_cell hhbW c0 p
  have WF : WrFirst W g p := HW.out.below hbW
  have LF : W.cell? ⟨lg, 0, none⟩ = some (.slice (some ⟨g, 0, none⟩) n c) := (hbW.cell (p := ⟨lg, 0, none⟩) hlg).trans HL.out
  have llt := Nat.lt_of_lt_of_le hlg hbW.size
  clear H HW HL hb2 hb12 hb1 hb3 hrc hrl GG GR
  generalize w3.heap.size = rb at *
  refine wp_region_quiet_on (by kernel_rfl) (by kernel_rfl) ?_
  repeat ((with_reducible refine wpQuiet_step (fun K hK => ?_)); go_simp; first | ((with_reducible refine hK _ ?_); clear hK K) | (rw [if_neg (by intro h; cases h)]; (with_reducible refine hK _ ?_); clear hK K) | (apply Exists.intro; refine ⟨fun _ => ?_, hK _ ?_⟩; (fail); clear hK K))
  with_reducible refine wpQuiet_nil ?_
  intro _ hw'
  obtain ⟨pq, hw''⟩ := hw'
  subst hw''
  have kw0 : IntKind.u64.wrap 0 = 0 := rfl
  have kt0 : (0 : Int).toNat = 0 := rfl
  have c0' := (pq.h.cell (p := ⟨hb, 0, none⟩) hhbW).trans c0
  have c1' := (pq.h.cell (p := ⟨hb, 1, none⟩) hhbW).trans c1
  have G2 := Lib.hid (containsF_hist (lc := lc) (c := c) (RF.below pq.h) (WF.below pq.h) hn ((pq.h.cell (p := ⟨lg, 0, none⟩) llt).trans LF) (Nat.lt_of_lt_of_le llt pq.h.size) hln)
  have hb4 := Base.tr hbW pq.h
  have hhb4 := Nat.lt_of_lt_of_le hhbW pq.h.size
  generalize pq.v = w4 at *
  clear c0 c1 q0
  go_wp2_with fail
  refine G2.out.mono ?_; rintro e w5 ⟨rfl, hb5⟩
  have c0 := (hb5.cell (p := ⟨hb, 0, none⟩) hhb4).trans c0'
  have hhb5 := Nat.lt_of_lt_of_le hhb4 hb5.size
  have q0 := fun p : OnOf w5 => on_cell hhb5 c0 p
  have hb6 := Base.tr hb4 hb5
  clear c0' c1'
  go_wp2_with fail
  refine wp_region_quiet_on (by kernel_rfl) (by kernel_rfl) ?_
  repeat ((with_reducible refine wpQuiet_step (fun K hK => ?_)); go_simp; first | ((with_reducible refine hK _ ?_); clear hK K) | (rw [if_neg (by intro h; cases h)]; (with_reducible refine hK _ ?_); clear hK K) | (apply Exists.intro; refine ⟨fun _ => ?_, hK _ ?_⟩; (fail); clear hK K))
  with_reducible refine wpQuiet_nil ?_
  intro _ hw'
  obtain ⟨pq, hw''⟩ := hw'
  subst hw''
  go_wp2_with fail
  go_ret2
  exact ⟨rfl, Base.tr hb6 pq.h⟩
end Go.Proofs.YthiimpleljaimaaGreatDoor

/- Package clash: the history's Add (the first writes) and Forget. -/
namespace Go.Proofs.YthiimpleljaimaaGreatDoor
open Go Go.RowKit Flo
attribute [local go_sem] run_store_complex

theorem info_slP : (Tryz.prog.info? 150).map (fun i => (i.zero, i.size, i.bytes)) = some (some (.slice none 0 0), 1, 24) := by kernel_rfl
set_option maxHeartbeats 8000000 in
set_option maxRecDepth 100000 in
/-- The first writes. -/
theorem hsAdd_first {w : World} {base hb g n c : Nat} {p : Pair} {ps : List Pair} (h : HsR w hb 0 none 0 0) (hown : w.ownsRow base 71 3 (.slice (some ⟨g, 0, none⟩) n c) n ((p :: ps).flatMap Pair.row)) (hn : 0 < n) (hm : n ≤ 100000) :
    Calls Tryz.prog 68 #[ptr0 hb, .slice (some ⟨g, 0, none⟩) n c] w fun e w' => e = .returned (.int .u64 1) ∧ ∃ lg lc wg wc, HsR w' hb 0 (some ⟨lg, 0, none⟩) 1 lc ∧ 1 ≤ lc ∧ w'.cell? ⟨lg, 0, none⟩ = some (.slice (some ⟨wg, 0, none⟩) n wc) ∧ w.heap.size ≤ lg ∧ lg < w'.heap.size ∧ w.heap.size ≤ wg ∧ WrFirst w' wg p ∧ (∃ cs f, w'.heap[lg]? = some (.cells cs 150 f)) ∧ (∃ cs f, w'.heap[wg]? = some (.cells cs 71 f)) ∧ Out (· = hb) w w' := by
  obtain ⟨i0, hi, hz0, hz1, hz2⟩ := info_parts info_slP
  have hx : ∀ u ∈ (p :: ps).flatMap Pair.row, u.oneCell' = true := by
    intro u hu
    obtain ⟨q, _, hq⟩ := List.mem_flatMap.1 hu
    simp only [Pair.row, List.mem_cons, List.not_mem_nil, or_false] at hq
    rcases hq with rfl | rfl | rfl <;> rfl
  have GC := fun W (hb : Below w.heap.size w W) => Lib.hid (clonePairs (own_below hown hb) hx hn hm)
  have hlt := (Array.getElem?_eq_some_iff.1 h).1
  have c1 : w.cell? ⟨hb, 1, none⟩ = some (.slice none 0 0) := cell_blk h 1
  have q1 := fun p : OnOf w => on_cell hlt c1 p
  have H := Lib.hid h
  clear h hown hx
  go_enter Tryz.func68, Tryz.ntmps68
  go_wp2_with fail
  refine wp_region_po (fun w' => ∃ p : OnOf w, w' = p.v) 11 [6, 7, 8] (by kernel_rfl) (by kernel_rfl) ⟨⟨_, Base.dr (Below.refl _ _)⟩, rfl⟩ ?_
  simp only [List.take_succ_cons, List.take_zero, List.drop_succ_cons, List.drop_zero]
  have on0 := @on_rd0; have on1 := @on_rd1; have on2 := @on_rd2; have on3 := @on_new1; have on4 := @on_new2; have on5 := @gr_rd0
  repeat ((with_reducible refine seq_read ?_ ?_); (focus rfl); (intro K hK); (unfold readsAt); go_simp; first | ((with_reducible refine hK _ ?_); clear hK K) | (rw [if_neg (by intro h; cases h)]; (with_reducible refine hK _ ?_); clear hK K))
  refine seq_eff (by rfl) (by first | rfl | go_simp) ?_
  intro K hK
  unfold effAt2
  go_simp
  have hbd := Base.dr (Below.refl _ w)
  refine ⟨rfl, (GC _ hbd).out.mono ?_⟩; rintro e w2 ⟨wg, wc, rfl, hown2, hb2⟩
  have hb3 := Base.tr hbd hb2
  refine ⟨_, rfl, ⟨⟨_, hb3⟩, rfl⟩, hK _ _ ?_⟩
  clear hK K
  repeat ((with_reducible refine seq_read ?_ ?_); (focus rfl); (intro K hK); (unfold readsAt); go_simp; first | ((with_reducible refine hK _ ?_); clear hK K) | (rw [if_neg (by intro h; cases h)]; (with_reducible refine hK _ ?_); clear hK K))
  refine seq_eff (by rfl) (by first | rfl | go_simp) ?_
  intro K hK
  unfold effAt2
  go_simp
  refine ⟨⟨⟨_, Base.al hb3 _⟩, rfl⟩, hK _ _ ?_⟩
  clear hK K
  repeat ((with_reducible refine seq_read ?_ ?_); (focus rfl); (intro K hK); (unfold readsAt); go_simp; first | ((with_reducible refine hK _ ?_); clear hK K) | (rw [if_neg (by intro h; cases h)]; (with_reducible refine hK _ ?_); clear hK K))
  refine seq_eff (by rfl) (by first | rfl | go_simp) ?_
  intro K hK
  refine eff_append _ _ _ 136 rfl w.heap.size 150 i0 _ 1 24 Tryz.underlying136 hi hz0 hz1 hz2 rfl (by decide) (.slice none 0 0) 0 [] rfl (World.ownsRow_nil _ _ _ _) ⟨w2.heap.size, 0, none⟩ 1 1 [.slice (some ⟨wg, 0, none⟩) n wc] rfl rfl (news_of _ _ _) (by simp [Value.oneCell']) (by unfold maxLen; omega) (by decide) ?_ ?_
  · have := hb3.size
    simp; omega
  intro v' w3 hown3 hgrow hbk
  have hb4 : Below w.heap.size w w3 := Base.gr (Base.al hb3 _) hgrow (fun g hg => by cases hg)
  refine ⟨⟨⟨_, hb4⟩, rfl⟩, hK _ _ ?_⟩
  clear hK K
  repeat ((with_reducible refine seq_read ?_ ?_); (focus rfl); (intro K hK); (unfold readsAt); go_simp; first | ((with_reducible refine hK _ ?_); clear hK K) | (rw [if_neg (by intro h; cases h)]; (with_reducible refine hK _ ?_); clear hK K))
  clear on0 on1 on2 on3 on4 on5
  with_reducible refine seq_nil ?_
  obtain ⟨lg, lc, rfl⟩ : ∃ lg lc, v' = .slice (some ⟨lg, 0, none⟩) 1 lc := by
    rcases hown3.2 with ⟨h1, h2⟩ | ⟨g', c', _, h1, _⟩
    · simp at h2
    · exact ⟨_, _, h1⟩
  have hlc : 1 ≤ lc := by
    rcases hown3.2 with ⟨h1, h2⟩ | ⟨g', c', _, h1, _, _, h2, _⟩
    · simp at h2
    · simp only [Value.slice.injEq, Option.some.injEq, Addr.mk.injEq, and_true, true_and] at h1
      obtain ⟨rfl, rfl⟩ := h1
      simpa using h2
  have hlg := hown3.lt lg rfl
  have hlv : w3.cell? ⟨lg, 0, none⟩ = some (.slice (some ⟨wg, 0, none⟩) n wc) := hown3.cells (g := lg) rfl 0 _ rfl
  have hb23 : Below w2.heap.size w2 w3 := Base.gr (Base.al (Below.refl _ _) _) hgrow (fun g hg => by cases hg)
  have hwg := hown2.lt wg rfl
  obtain ⟨hwl, d0, d1, d2⟩ := own_row3 (k := 0) (own_below hown2 hb23) rfl
  have hz4 := hb4.size
  have hwd : w.drew.heap.size = w.heap.size := rfl
  have hbx : w3.heap[hb]? = some (.cells #[.int .u64 0, .slice none 0 0] 138 (0, 0)) := by rw [hb4.block hb hlt]; exact H.out
  have hs4 := heap_setCell hbx 1 (.slice (some ⟨lg, 0, none⟩) 1 lc)
  have ho4 : Out (· = hb) w (w3.setCell ⟨hb, 1, none⟩ (.slice (some ⟨lg, 0, none⟩) 1 lc)) := Out.set (O := (· = hb)) (Out.of_below hb4) rfl 1 _
  have hne1 : ¬ lg = hb := by omega
  have hne2 : ¬ wg = hb := by rw [hwd] at hwg; omega
  have k1 : (w3.setCell ⟨hb, 1, none⟩ (.slice (some ⟨lg, 0, none⟩) 1 lc)).cell? ⟨lg, 0, none⟩ = some (.slice (some ⟨wg, 0, none⟩) n wc) := by go_simp
  have k2 : WrFirst (w3.setCell ⟨hb, 1, none⟩ (.slice (some ⟨lg, 0, none⟩) 1 lc)) wg p := ⟨by go_simp, by go_simp, by go_simp, by simpa using hwl⟩
  have hz5 : (w3.setCell ⟨hb, 1, none⟩ (.slice (some ⟨lg, 0, none⟩) 1 lc)).heap.size = w3.heap.size := by simp
  have ho34 : Out (· = hb) w3 (w3.setCell ⟨hb, 1, none⟩ (.slice (some ⟨lg, 0, none⟩) 1 lc)) := Out.set (O := (· = hb)) (Out.refl _ _) rfl 1 _
  have hLT : ∃ cs f, (w3.setCell ⟨hb, 1, none⟩ (.slice (some ⟨lg, 0, none⟩) 1 lc)).heap[lg]? = some (.cells cs 150 f) := by
    rcases hown3.2 with ⟨h1, h2⟩ | ⟨g', c', cs, h1, _, hgg, _⟩
    · simp at h2
    · simp only [Value.slice.injEq, Option.some.injEq, Addr.mk.injEq, and_true, true_and] at h1
      obtain ⟨rfl, rfl⟩ := h1
      exact ⟨_, _, ho34.blk hgg hne1⟩
  have hWT : ∃ cs f, (w3.setCell ⟨hb, 1, none⟩ (.slice (some ⟨lg, 0, none⟩) 1 lc)).heap[wg]? = some (.cells cs 71 f) := by
    rcases (own_below hown2 hb23).2 with ⟨h1, h2⟩ | ⟨g', c', cs, h1, _, hgg, _⟩
    · omega
    · simp only [Value.slice.injEq, Option.some.injEq, Addr.mk.injEq, and_true, true_and] at h1
      obtain ⟨rfl, rfl⟩ := h1
      exact ⟨_, _, ho34.blk hgg hne2⟩
  have HLT := Lib.hid hLT
  have HWT := Lib.hid hWT
  clear hLT hWT ho34
  clear hown2 hown3 hgrow hbk q1 c1 GC
  have c13 : w3.cell? ⟨hb, 1, none⟩ = some (.slice none 0 0) := cell_blk hbx 1
  have fz := frozen_blk hbx 1
  go_wp2_with fail
  generalize w3.setCell ⟨hb, 1, none⟩ (.slice (some ⟨lg, 0, none⟩) 1 lc) = w4 at *
  have hs5 : HsR w4 hb 0 (some ⟨lg, 0, none⟩) 1 lc := hs4
  have GN := Lib.hid (hsNow_any hs5 (by omega))
  clear hs4 c13 fz hbx
  refine GN.out.mono ?_; rintro e w5 ⟨rfl, hb5⟩
  go_wp2_with fail
  go_ret
  have hl4 : hb < w4.heap.size := by omega
  exact ⟨rfl, lg, lc, wg, wc, (hb5.block hb hl4).trans hs5, hlc, (hb5.cell (p := ⟨lg, 0, none⟩) (by show lg < _; omega)).trans k1, hlg.1, by have := hb5.size; omega, hwg.1, k2.below hb5, by obtain ⟨cs, f, hx⟩ := HLT.out; exact ⟨cs, f, blk_below hx hb5⟩, by obtain ⟨cs, f, hx⟩ := HWT.out; exact ⟨cs, f, blk_below hx hb5⟩, ho4.then hb5⟩
set_option maxHeartbeats 4000000 in
set_option maxRecDepth 100000 in
/-- Nothing is forgotten. -/
theorem hsForget_none {w : World} {hb n c : Nat} {A : Option Addr} (h : HsR w hb 0 A n c) (hs : n ≤ 1000000) : Makes 64 #[ptr0 hb, .int .u64 0] w (.tuple #[]) := by
  have G := Lib.hid (hsNow_any h (by omega))
  have hlt := (Array.getElem?_eq_some_iff.1 h).1
  have c0 : w.cell? ⟨hb, 0, none⟩ = some (.int .u64 (0 : Int)) := cell_blk h 0
  have t1 : min (0 : Int) ((0 + n : Nat) : Int) = 0 := by omega
  clear h hs
  go_enter Tryz.func64, Tryz.ntmps64
  go_wp2_with fail
  refine G.out.mono ?_; rintro e w1 ⟨rfl, hb1⟩
  have c0' := (hb1.cell (p := ⟨hb, 0, none⟩) hlt).trans c0
  clear c0
  go_wp2_with fail
  refine bodyPost_ret (results_none rfl _ _ _) rfl ?_
  exact ⟨rfl, hb1⟩
set_option maxHeartbeats 4000000 in
set_option maxRecDepth 100000 in
theorem cloneNonePairs (w : World) (ad : Addr) (c : Nat) :
    Makes1 90 #[.slice (some ad) 0 c] w (.slice (some ⟨w.heap.size, 0, none⟩) 0 0) (.cells #[] 150) := by
  have q22 : ∀ (w : World) (a : Option Addr) (n c n' c' : Nat), (binOp .eql 136 (.slice a n c) (.slice none n' c')).run Tryz.prog w = .ok (.bool a.isNone) w := fun w a n c n' c' => Lib.run_eql_slice_nil w _ _ a n c n' c' Tryz.underlying136
  go_enter Tryz.func90, Tryz.ntmps90
  go_wp2_with fail
  go_ret
  exact ⟨rfl, rfl⟩
set_option maxHeartbeats 4000000 in
set_option maxRecDepth 100000 in
/-- All is forgotten. -/
theorem hsForget_first {w : World} {hb lg lc : Nat} (h : HsR w hb 0 (some ⟨lg, 0, none⟩) 1 lc) :
    Calls Tryz.prog 64 #[ptr0 hb, .int .u64 1] w fun e w' => e = .returned (.tuple #[]) ∧ Out (· = hb) w w' := by
  have G := Lib.hid (hsNow_any h (by omega))
  have GC := fun W ad c => Lib.hid (cloneNonePairs W ad c)
  have hlt := (Array.getElem?_eq_some_iff.1 h).1
  have c0 : w.cell? ⟨hb, 0, none⟩ = some (.int .u64 (0 : Int)) := cell_blk h 0
  have c1 : w.cell? ⟨hb, 1, none⟩ = some (.slice (some ⟨lg, 0, none⟩) 1 lc) := cell_blk h 1
  have H := Lib.hid h
  have kw : IntKind.u64.wrap 1 = 1 := rfl
  clear h
  go_enter Tryz.func64, Tryz.ntmps64
  go_wp2_with fail
  refine G.out.mono ?_; rintro e w1 ⟨rfl, hb1⟩
  have c0' := (hb1.cell (p := ⟨hb, 0, none⟩) hlt).trans c0
  have c1' := (hb1.cell (p := ⟨hb, 1, none⟩) hlt).trans c1
  have hlt1 := Nat.lt_of_lt_of_le hlt hb1.size
  have q0 := fun p : OnOf w1 => on_cell hlt1 c0' p
  have q1 := fun p : OnOf w1 => on_cell hlt1 c1' p
  clear c0 c1
  go_wp2_with fail
  refine wp_region_po (fun w' => ∃ p : OnOf w1, w' = p.v) 15 [12] (by kernel_rfl) (by kernel_rfl) ⟨⟨_, Base.dr (Below.refl _ _)⟩, rfl⟩ ?_
  simp only [List.take_succ_cons, List.take_zero, List.drop_succ_cons, List.drop_zero]
  have on0 := @on_rd0; have on1 := @on_rd1; have on2 := @on_rd2; have on3 := @on_new1; have on4 := @on_new2; have on5 := @gr_rd0
  repeat ((with_reducible refine seq_read ?_ ?_); (focus rfl); (intro K hK); (unfold readsAt); go_simp; first | ((with_reducible refine hK _ ?_); clear hK K) | (rw [if_neg (by intro h; cases h)]; (with_reducible refine hK _ ?_); clear hK K))
  obtain ⟨ad, had⟩ : ∃ ad : Addr, (if lc = 1 then some (⟨lg, 0, none⟩ : Addr) else some ⟨lg, 1, none⟩) = some ad := by split <;> exact ⟨_, rfl⟩
  rw [had]
  clear had
  refine seq_eff (by rfl) (by first | rfl | go_simp) ?_
  intro K hK
  unfold effAt2
  go_simp
  have hbd := Base.dr (Below.refl _ w1)
  refine ⟨rfl, (GC _ _ _).out.mono ?_⟩; rintro e w2 ⟨rfl, rfl⟩
  have hb3 := Base.al hbd (.cells #[] 150)
  refine ⟨_, rfl, ⟨⟨_, hb3⟩, rfl⟩, hK _ _ ?_⟩
  clear hK K
  repeat ((with_reducible refine seq_read ?_ ?_); (focus rfl); (intro K hK); (unfold readsAt); go_simp; first | ((with_reducible refine hK _ ?_); clear hK K) | (rw [if_neg (by intro h; cases h)]; (with_reducible refine hK _ ?_); clear hK K))
  clear on0 on1 on2 on3 on4 on5
  with_reducible refine seq_nil ?_
  generalize w1.drew.alloc (.cells #[] 150) = w2 at *
  have hb4 := Base.tr hb1 hb3
  have hbx : w2.heap[hb]? = some (.cells #[.int .u64 0, .slice (some ⟨lg, 0, none⟩) 1 lc] 138 (0, 0)) := (hb4.block hb hlt).trans H.out
  have c12 : w2.cell? ⟨hb, 1, none⟩ = some (.slice (some ⟨lg, 0, none⟩) 1 lc) := cell_blk hbx 1
  have c02 : w2.cell? ⟨hb, 0, none⟩ = some (.int .u64 0) := cell_blk hbx 0
  have f1 := frozen_blk hbx 1
  have f0 := frozen_blk hbx 0
  have ho5 : Out (· = hb) w ((w2.setCell ⟨hb, 1, none⟩ (.slice (some ⟨w1.heap.size, 0, none⟩) 0 0)).setCell ⟨hb, 0, none⟩ (.int .u64 1)) := Out.set (O := (· = hb)) (Out.set (O := (· = hb)) (Out.of_below hb4) rfl 1 _) rfl 0 _
  clear q0 q1 c0' c1' GC hbx hb3 hbd
  go_wp2_with fail
  go_end0
  exact ⟨rfl, ho5⟩
end Go.Proofs.YthiimpleljaimaaGreatDoor

