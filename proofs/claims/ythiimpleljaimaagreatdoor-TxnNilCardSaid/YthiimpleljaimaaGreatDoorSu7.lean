/- (*Store).comes: any item, any tree. -/
import Derived.Test.YthiimpleljaimaaGreatDoorMg30
import Derived.Test.YthiimpleljaimaaGreatDoorPh2
import Derived.Test.YthiimpleljaimaaGreatDoorMg8
namespace Go.Proofs.YthiimpleljaimaaGreatDoor
open Go Go.RowKit Flo
attribute [local go_sem] run_store_complex

theorem zero_pnote (w : World) : (zeroValue 188).run Tryz.prog w = .ok nilP w := by kernel_rfl
/-- The note that stands under a key counts for more than x. -/
def beats (y x : Nt) : Prop := x.f.item.ver < y.f.item.ver ∨ y.f.item.ver = x.f.item.ver ∧ x.f.item.seq ≤ y.f.item.seq

set_option maxHeartbeats 16000000 in
set_option maxRecDepth 100000 in
theorem comes_set {O : Nat → Prop} {B : Nat} {w : World} {T : StV} (h : StR O B w T) {x : Nt} (hx : x ∈ T.nts) (hgn : x.f.item.gone = false) (had : Option Nt) (hno : mget T.nm x.f.item.key = had.map Nt.ptr) (hy : ∀ y, had = some y → y ∈ T.nts ∧ ¬ beats y x) (hsz : T.t.size ≤ 600000) :
    Calls Tryz.prog 86 #[T.ptr, x.ptr] w fun e w' => e = .returned (.tuple #[]) ∧ ∃ trv, StR O B w' { T with nm := mput T.nm x.f.item.key x.ptr, trv := trv, t := setT x.f.item.key x.f.item.value T.t } ∧ Out (fun k => k = T.TB ∨ k = T.MB) w w' := by
  have K := keys_string (P := Tryz.prog) (k := 9) Tryz.underlying9
  have hxb := h.nt x hx
  obtain ⟨xb, ⟨a0, a1, sz, st, ⟨sq, vr, ix, ct, pa, pb, gn, ky, vl⟩⟩, sec, cnt⟩ := x
  simp only at hgn hno
  subst hgn
  have hxr := hxb.1
  have hxB : B ≤ xb := hxb.2
  have n3 : w.cell? ⟨xb, 3, none⟩ = some (.int .u64 sq) := cell_blk hxr 3
  have n4 : w.cell? ⟨xb, 4, none⟩ = some (.int .u64 vr) := cell_blk hxr 4
  have n5 : w.cell? ⟨xb, 5, none⟩ = some (i64 ix) := cell_blk hxr 5
  have n6 : w.cell? ⟨xb, 6, none⟩ = some (i64 ct) := cell_blk hxr 6
  have n7 : w.cell? ⟨xb, 7, none⟩ = some (cx pa pb) := cell_blk hxr 7
  have n8 : w.cell? ⟨xb, 8, none⟩ = some (.bool false) := cell_blk hxr 8
  have n9 : w.cell? ⟨xb, 9, none⟩ = some (.string ky) := cell_blk hxr 9
  have n10 : w.cell? ⟨xb, 10, none⟩ = some (.string vl) := cell_blk hxr 10
  have HH := Lib.hid h
  have hlt := h.lt
  have hbs := h.base
  have HNO := Lib.hid hno
  have HYS : Hid (∀ y : Nt, had = some y → ∃ yv yq : Int, w.cell? ⟨y.b, 4, none⟩ = some (.int .u64 yv) ∧ w.cell? ⟨y.b, 3, none⟩ = some (.int .u64 yq) ∧ y.b < w.heap.size ∧ (yv < vr ∨ yv = vr ∧ yq < sq)) := Lib.hid (fun y e => by
    obtain ⟨hm, hbt⟩ := hy y e
    have hyb := (h.nt y hm).1
    refine ⟨y.f.item.ver, y.f.item.seq, cell_blk hyb 4, cell_blk hyb 3, (Array.getElem?_eq_some_iff.1 hyb).1, ?_⟩
    unfold beats at hbt
    simp only at hbt
    omega)
  have HSZ := Lib.hid hsz
  clear hxb hxr hno h hx hy hsz
  go_enter Tryz.func86, Tryz.ntmps86
  go_wp2_with fail
  obtain ⟨W1, hW1⟩ : ∃ W, W = w.alloc (.cells #[.int .u64 sq, .int .u64 vr, .int .i64 ix, .int .i64 ct, .complex .f64 pa pb, .bool false, .string ky, .string vl] 129) := ⟨_, rfl⟩
  rw [← hW1]
  have hS1 : StR O B W1 T := by rw [hW1]; exact HH.out.below (Base.al (Below.refl _ _) _)
  have hb1 : Below w.heap.size w W1 := by rw [hW1]; exact Base.al (Below.refl _ _) _
  have hit : W1.heap[w.heap.size]? = some (.cells #[.int .u64 sq, .int .u64 vr, .int .i64 ix, .int .i64 ct, .complex .f64 pa pb, .bool false, .string ky, .string vl] 129 (0, 0)) := by rw [hW1]; exact blk_new w _
  clear hW1 n3 n4 n5 n6 n7 n8 n9 n10
  have HS1 := Lib.hid hS1
  have HB1 := Lib.hid hb1
  have HIT := Lib.hid hit
  have z1 := (Array.getElem?_eq_some_iff.1 hit).1
  have q5 := fun p : OnOf W1 => on_cell (a := ⟨T.TB, 5, none⟩) hS1.lt (show W1.cell? ⟨T.TB, 5, none⟩ = some (.map (some T.MB)) from cell_blk hS1.box 5) p
  have qk := fun p : OnOf W1 => on_cell (a := ⟨w.heap.size, 6, none⟩) z1 (show W1.cell? ⟨w.heap.size, 6, none⟩ = some (.string ky) from cell_blk hit 6) p
  have hlk := fun p : OnOf W1 => (hS1.map.below p.h).lookup K Tryz.underlying121 (zero_pnote _) ky false
  rw [HNO.out] at hlk
  clear hS1 hb1 hit
  cases had with
  | none =>
    simp only [Option.map_none, Option.getD_none, Bool.false_eq_true, if_false] at hlk
    refine wp_region_quiet_on (by kernel_rfl) (by kernel_rfl) ?_
    repeat ((with_reducible refine wpQuiet_step (fun K hK => ?_)); go_simp; first | ((with_reducible refine hK _ ?_); clear hK K) | (rw [if_neg (by intro h; cases h)]; (with_reducible refine hK _ ?_); clear hK K) | (apply Exists.intro; refine ⟨fun _ => ?_, hK _ ?_⟩; (fail); clear hK K))
    with_reducible refine wpQuiet_nil ?_
    intro _ hw'
    obtain ⟨pq, hw''⟩ := hw'
    subst hw''
    clear q5 qk hlk
    have hp1 := pq.h
    generalize pq.v = W2 at *
    go_wp2_with fail
    refine wp_region_quiet_on (by kernel_rfl) (by kernel_rfl) ?_
    repeat ((with_reducible refine wpQuiet_step (fun K hK => ?_)); go_simp; first | ((with_reducible refine hK _ ?_); clear hK K) | (rw [if_neg (by intro h; cases h)]; (with_reducible refine hK _ ?_); clear hK K) | (apply Exists.intro; refine ⟨fun _ => ?_, hK _ ?_⟩; (fail); clear hK K))
    with_reducible refine wpQuiet_nil ?_
    intro _ hw'
    obtain ⟨pq, hw''⟩ := hw'
    subst hw''
    have hp2 := pq.h
    generalize pq.v = W3 at *
    have HS3 := Lib.hid ((HS1.out.below hp1).below hp2)
    have HB3 := Lib.hid (Base.tr (Base.tr HB1.out hp1) hp2)
    have HI3 := Lib.hid (blk_below (blk_below HIT.out hp1) hp2)
    clear hp1 hp2 HS1 HB1 HIT z1 pq
    have z3 := (Array.getElem?_eq_some_iff.1 HI3.out).1
    have q5 := fun p : OnOf W3 => on_cell (a := ⟨T.TB, 5, none⟩) HS3.out.lt (show W3.cell? ⟨T.TB, 5, none⟩ = some (.map (some T.MB)) from cell_blk HS3.out.box 5) p
    have qk := fun p : OnOf W3 => on_cell (a := ⟨w.heap.size, 6, none⟩) z3 (show W3.cell? ⟨w.heap.size, 6, none⟩ = some (.string ky) from cell_blk HI3.out 6) p
    go_wp2_with fail
    refine wp_region_po (fun w' => ∃ p : OnOf W3, w' = p.v) 7 [] (by kernel_rfl) (by kernel_rfl) ⟨⟨_, Base.dr (Below.refl _ _)⟩, rfl⟩ ?_
    simp only [List.take_succ_cons, List.take_zero, List.drop_succ_cons, List.drop_zero]
    have on0 := @on_rd0; have on1 := @on_rd1; have on2 := @on_rd2; have on3 := @on_new1; have on4 := @on_new2; have on5 := @gr_rd0
    repeat ((with_reducible refine seq_read ?_ ?_); (focus rfl); (intro K hK); (unfold readsAt); go_simp; first | ((with_reducible refine hK _ ?_); clear hK K) | (rw [if_neg (by intro h; cases h)]; (with_reducible refine hK _ ?_); clear hK K))
    clear on0 on1 on2 on3 on4 on5
    with_reducible refine seq_nil ?_
    clear q5 qk
    have hm3 := (HS3.out.below (Base.dr (Below.refl _ W3))).map
    have hne3 : some w.heap.size ≠ some T.MB := fun e => by
      injection e with e
      exact map_ne HS3.out.map HI3.out e.symm
    have HI3' : W3.drew.heap[w.heap.size]? = some _ := HI3.out
    go_wp2_with (refine wpList_update_R rfl 121 _ _ _ rfl 9 188 K Tryz.underlying121 rfl ky rfl (.pointer (some ⟨xb, 0, none⟩)) rfl hm3 ?_; intro w4 hm5 hg5 hs5; have HI4 := Lib.hid ((hg5.block _ z3 hne3).trans HI3'); have HS4 := Lib.hid ((HS3.out.below (Base.dr (Below.refl _ W3))).mapped hm5 hg5); have HB4 : Hid (Out (fun k => k = T.TB ∨ k = T.MB) w w4) := Lib.hid (((Out.of_below HB3.out).trans (Out.of_below (Base.dr (Below.refl _ W3)))).trans (outGr hg5 (fun g hg => by (injection hg with hg; exact .inr hg.symm)))); have z4 := (Array.getElem?_eq_some_iff.1 HI4.out).1; (have c5 : w4.cell? ⟨w.heap.size, 5, none⟩ = some (.bool false) := cell_blk HI4.out 5); clear hm5 hg5 hs5)
    clear hm3 hne3 HI3' HS3 HB3 HI3 z3 c5
    obtain ⟨tq, htq⟩ : ∃ tq, T.trv = .pointer tq := HS4.out.tree.ptr
    have q6 := fun p : OnOf w4 => on_cell (a := ⟨T.TB, 6, none⟩) HS4.out.lt (show w4.cell? ⟨T.TB, 6, none⟩ = some (.pointer tq) from (cell_blk HS4.out.box 6).trans (by show some T.trv = _; rw [htq])) p
    have qk := fun p : OnOf w4 => on_cell (a := ⟨w.heap.size, 6, none⟩) z4 (show w4.cell? ⟨w.heap.size, 6, none⟩ = some (.string ky) from cell_blk HI4.out 6) p
    have htr4 : TreeR w4.drew B T.t (.pointer tq) := by
      rw [← htq]
      exact HS4.out.tree.below (Base.dr (Below.refl _ w4))
    have qv := fun p : OnOf w4 => on_cell (a := ⟨w.heap.size, 7, none⟩) z4 (show w4.cell? ⟨w.heap.size, 7, none⟩ = some (.string vl) from cell_blk HI4.out 7) p
    have GT := Lib.hid (trSet_any ky vl T.t htr4 (HS4.out.below (Base.dr (Below.refl _ w4))).base (by have := HSZ.out; omega))
    clear htq htr4
    refine wp_region_po (fun w' => ∃ p : OnOf w4, w' = p.v) 12 [9] (by kernel_rfl) (by kernel_rfl) ⟨⟨_, Base.dr (Below.refl _ _)⟩, rfl⟩ ?_
    simp only [List.take_succ_cons, List.take_zero, List.drop_succ_cons, List.drop_zero]
    have on0 := @on_rd0; have on1 := @on_rd1; have on2 := @on_rd2; have on3 := @on_new1; have on4 := @on_new2; have on5 := @gr_rd0
    repeat ((with_reducible refine seq_read ?_ ?_); (focus rfl); (intro K hK); (unfold readsAt); go_simp; first | ((with_reducible refine hK _ ?_); clear hK K) | (rw [if_neg (by intro h; cases h)]; (with_reducible refine hK _ ?_); clear hK K))
    refine seq_eff (by rfl) (by first | rfl | go_simp) ?_
    intro K hK
    unfold effAt2
    go_simp
    refine ⟨rfl, GT.out.mono ?_⟩; rintro e w5 ⟨tq2, rfl, htr5, hb5⟩
    have hc5 := Base.tr (Base.dr (Below.refl _ w4)) hb5
    refine ⟨_, rfl, ⟨⟨_, hc5⟩, rfl⟩, hK _ _ ?_⟩
    clear hK K
    repeat ((with_reducible refine seq_read ?_ ?_); (focus rfl); (intro K hK); (unfold readsAt); go_simp; first | ((with_reducible refine hK _ ?_); clear hK K) | (rw [if_neg (by intro h; cases h)]; (with_reducible refine hK _ ?_); clear hK K))
    clear on0 on1 on2 on3 on4 on5
    with_reducible refine seq_nil ?_
    have HS5 := HS4.out.below hc5
    have f5 := fun o => frozen_blk HS5.box o
    have k6 : w5.cell? ⟨T.TB, 6, none⟩ = some T.trv := cell_blk HS5.box 6
    have HS6 := Lib.hid (HS5.setBox (T' := { T with nm := mput T.nm ky (.pointer (some ⟨xb, 0, none⟩)), trv := .pointer tq2, t := setT ky vl T.t }) 6 (.pointer tq2) rfl rfl htr5)
    have HB6 : Hid (Out (fun k => k = T.TB ∨ k = T.MB) w (w5.setCell ⟨T.TB, 6, none⟩ (.pointer tq2))) := Lib.hid ((HB4.out.trans (Out.of_below hc5)).set (.inl rfl) 6 (.pointer tq2))
    clear HS5 hb5 hc5 q6 qk qv HI4 HS4 HB4 htr5 GT
    go_wp2_with fail
    first | go_end0 | refine bodyPost_ret (results_none rfl _ _ _) rfl ?_
    exact ⟨rfl, ⟨_, HS6.out⟩, HB6.out⟩
  | some y =>
    obtain ⟨yv, yq, y4, y3, hyl, hcase⟩ := HYS.out y rfl
    simp only [Option.map_some, Option.getD_some, Bool.false_eq_true, if_false] at hlk
    obtain ⟨yb, yf, yse, ycn⟩ := y
    simp only at y4 y3 hyl
    have t1 : decide (vr < yv) = false := decide_eq_false (by omega)
    have hlk' := hlk
    clear hlk
    have hlk : ∀ p : OnOf W1, _ := hlk'
    clear hlk'
    have qy := fun p : OnOf W1 => on_cell (a := ⟨yb, 4, none⟩) (Nat.lt_of_lt_of_le hyl HB1.out.size) ((HB1.out.cell (p := ⟨yb, 4, none⟩) hyl).trans y4) p
    have qs := fun p : OnOf W1 => on_cell (a := ⟨yb, 3, none⟩) (Nat.lt_of_lt_of_le hyl HB1.out.size) ((HB1.out.cell (p := ⟨yb, 3, none⟩) hyl).trans y3) p
    refine wp_region_quiet_on (by kernel_rfl) (by kernel_rfl) ?_
    repeat ((with_reducible refine wpQuiet_step (fun K hK => ?_)); go_simp; first | ((with_reducible refine hK _ ?_); clear hK K) | (rw [if_neg (by intro h; cases h)]; (with_reducible refine hK _ ?_); clear hK K) | (apply Exists.intro; refine ⟨fun _ => ?_, hK _ ?_⟩; (fail); clear hK K))
    with_reducible refine wpQuiet_nil ?_
    intro _ hw'
    obtain ⟨pq, hw''⟩ := hw'
    subst hw''
    clear q5 qk hlk
    have hp1 := pq.h
    have y5 : pq.v.cell? ⟨yb, 4, none⟩ = some (.int .u64 yv) := qy pq
    have y6 : pq.v.cell? ⟨yb, 3, none⟩ = some (.int .u64 yq) := qs pq
    have z5 : yb < pq.v.heap.size := Nat.lt_of_lt_of_le hyl (Nat.le_trans HB1.out.size pq.h.size)
    have v5 : pq.v.cell? ⟨w.heap.size, 1, none⟩ = some (.int .u64 vr) := cell_blk (blk_below HIT.out pq.h) 1
    have v6 : pq.v.cell? ⟨w.heap.size, 0, none⟩ = some (.int .u64 sq) := cell_blk (blk_below HIT.out pq.h) 0
    have z6 : w.heap.size < pq.v.heap.size := Nat.lt_of_lt_of_le z1 pq.h.size
    generalize pq.v = W2 at *
    have qv4 := fun p : OnOf W2 => on_cell z6 v5 p
    have qv3 := fun p : OnOf W2 => on_cell z6 v6 p
    have qy4 := fun p : OnOf W2 => on_cell z5 y5 p
    have qy3 := fun p : OnOf W2 => on_cell z5 y6 p
    clear y5 y6 v5 v6 qy qs y4 y3
    by_cases hlt1 : yv < vr
    · have t2 : (yv == vr) = false := by rw [beq_eq_false_iff_ne]; omega
      clear hcase
      go_wp2_with fail
      refine wp_region_quiet_on (by kernel_rfl) (by kernel_rfl) ?_
      repeat ((with_reducible refine wpQuiet_step (fun K hK => ?_)); go_simp; first | ((with_reducible refine hK _ ?_); clear hK K) | (rw [if_neg (by intro h; cases h)]; (with_reducible refine hK _ ?_); clear hK K) | (apply Exists.intro; refine ⟨fun _ => ?_, hK _ ?_⟩; (fail); clear hK K))
      with_reducible refine wpQuiet_nil ?_
      intro _ hw'
      obtain ⟨pq, hw''⟩ := hw'
      subst hw''
      clear qv4 qv3 qy4 qy3
      have hp2 := pq.h
      generalize pq.v = W3 at *
      have HS3 := Lib.hid ((HS1.out.below hp1).below hp2)
      have HB3 := Lib.hid (Base.tr (Base.tr HB1.out hp1) hp2)
      have HI3 := Lib.hid (blk_below (blk_below HIT.out hp1) hp2)
      clear hp1 hp2 HS1 HB1 HIT z1 pq
      have z3 := (Array.getElem?_eq_some_iff.1 HI3.out).1
      have q5 := fun p : OnOf W3 => on_cell (a := ⟨T.TB, 5, none⟩) HS3.out.lt (show W3.cell? ⟨T.TB, 5, none⟩ = some (.map (some T.MB)) from cell_blk HS3.out.box 5) p
      have qk := fun p : OnOf W3 => on_cell (a := ⟨w.heap.size, 6, none⟩) z3 (show W3.cell? ⟨w.heap.size, 6, none⟩ = some (.string ky) from cell_blk HI3.out 6) p
      go_wp2_with fail
      refine wp_region_po (fun w' => ∃ p : OnOf W3, w' = p.v) 7 [] (by kernel_rfl) (by kernel_rfl) ⟨⟨_, Base.dr (Below.refl _ _)⟩, rfl⟩ ?_
      simp only [List.take_succ_cons, List.take_zero, List.drop_succ_cons, List.drop_zero]
      have on0 := @on_rd0; have on1 := @on_rd1; have on2 := @on_rd2; have on3 := @on_new1; have on4 := @on_new2; have on5 := @gr_rd0
      repeat ((with_reducible refine seq_read ?_ ?_); (focus rfl); (intro K hK); (unfold readsAt); go_simp; first | ((with_reducible refine hK _ ?_); clear hK K) | (rw [if_neg (by intro h; cases h)]; (with_reducible refine hK _ ?_); clear hK K))
      clear on0 on1 on2 on3 on4 on5
      with_reducible refine seq_nil ?_
      clear q5 qk
      have hm3 := (HS3.out.below (Base.dr (Below.refl _ W3))).map
      have hne3 : some w.heap.size ≠ some T.MB := fun e => by
        injection e with e
        exact map_ne HS3.out.map HI3.out e.symm
      have HI3' : W3.drew.heap[w.heap.size]? = some _ := HI3.out
      go_wp2_with (refine wpList_update_R rfl 121 _ _ _ rfl 9 188 K Tryz.underlying121 rfl ky rfl (.pointer (some ⟨xb, 0, none⟩)) rfl hm3 ?_; intro w4 hm5 hg5 hs5; have HI4 := Lib.hid ((hg5.block _ z3 hne3).trans HI3'); have HS4 := Lib.hid ((HS3.out.below (Base.dr (Below.refl _ W3))).mapped hm5 hg5); have HB4 : Hid (Out (fun k => k = T.TB ∨ k = T.MB) w w4) := Lib.hid (((Out.of_below HB3.out).trans (Out.of_below (Base.dr (Below.refl _ W3)))).trans (outGr hg5 (fun g hg => by (injection hg with hg; exact .inr hg.symm)))); have z4 := (Array.getElem?_eq_some_iff.1 HI4.out).1; (have c5 : w4.cell? ⟨w.heap.size, 5, none⟩ = some (.bool false) := cell_blk HI4.out 5); clear hm5 hg5 hs5)
      clear hm3 hne3 HI3' HS3 HB3 HI3 z3 c5
      obtain ⟨tq, htq⟩ : ∃ tq, T.trv = .pointer tq := HS4.out.tree.ptr
      have q6 := fun p : OnOf w4 => on_cell (a := ⟨T.TB, 6, none⟩) HS4.out.lt (show w4.cell? ⟨T.TB, 6, none⟩ = some (.pointer tq) from (cell_blk HS4.out.box 6).trans (by show some T.trv = _; rw [htq])) p
      have qk := fun p : OnOf w4 => on_cell (a := ⟨w.heap.size, 6, none⟩) z4 (show w4.cell? ⟨w.heap.size, 6, none⟩ = some (.string ky) from cell_blk HI4.out 6) p
      have htr4 : TreeR w4.drew B T.t (.pointer tq) := by
        rw [← htq]
        exact HS4.out.tree.below (Base.dr (Below.refl _ w4))
      have qv := fun p : OnOf w4 => on_cell (a := ⟨w.heap.size, 7, none⟩) z4 (show w4.cell? ⟨w.heap.size, 7, none⟩ = some (.string vl) from cell_blk HI4.out 7) p
      have GT := Lib.hid (trSet_any ky vl T.t htr4 (HS4.out.below (Base.dr (Below.refl _ w4))).base (by have := HSZ.out; omega))
      clear htq htr4
      refine wp_region_po (fun w' => ∃ p : OnOf w4, w' = p.v) 12 [9] (by kernel_rfl) (by kernel_rfl) ⟨⟨_, Base.dr (Below.refl _ _)⟩, rfl⟩ ?_
      simp only [List.take_succ_cons, List.take_zero, List.drop_succ_cons, List.drop_zero]
      have on0 := @on_rd0; have on1 := @on_rd1; have on2 := @on_rd2; have on3 := @on_new1; have on4 := @on_new2; have on5 := @gr_rd0
      repeat ((with_reducible refine seq_read ?_ ?_); (focus rfl); (intro K hK); (unfold readsAt); go_simp; first | ((with_reducible refine hK _ ?_); clear hK K) | (rw [if_neg (by intro h; cases h)]; (with_reducible refine hK _ ?_); clear hK K))
      refine seq_eff (by rfl) (by first | rfl | go_simp) ?_
      intro K hK
      unfold effAt2
      go_simp
      refine ⟨rfl, GT.out.mono ?_⟩; rintro e w5 ⟨tq2, rfl, htr5, hb5⟩
      have hc5 := Base.tr (Base.dr (Below.refl _ w4)) hb5
      refine ⟨_, rfl, ⟨⟨_, hc5⟩, rfl⟩, hK _ _ ?_⟩
      clear hK K
      repeat ((with_reducible refine seq_read ?_ ?_); (focus rfl); (intro K hK); (unfold readsAt); go_simp; first | ((with_reducible refine hK _ ?_); clear hK K) | (rw [if_neg (by intro h; cases h)]; (with_reducible refine hK _ ?_); clear hK K))
      clear on0 on1 on2 on3 on4 on5
      with_reducible refine seq_nil ?_
      have HS5 := HS4.out.below hc5
      have f5 := fun o => frozen_blk HS5.box o
      have k6 : w5.cell? ⟨T.TB, 6, none⟩ = some T.trv := cell_blk HS5.box 6
      have HS6 := Lib.hid (HS5.setBox (T' := { T with nm := mput T.nm ky (.pointer (some ⟨xb, 0, none⟩)), trv := .pointer tq2, t := setT ky vl T.t }) 6 (.pointer tq2) rfl rfl htr5)
      have HB6 : Hid (Out (fun k => k = T.TB ∨ k = T.MB) w (w5.setCell ⟨T.TB, 6, none⟩ (.pointer tq2))) := Lib.hid ((HB4.out.trans (Out.of_below hc5)).set (.inl rfl) 6 (.pointer tq2))
      clear HS5 hb5 hc5 q6 qk qv HI4 HS4 HB4 htr5 GT
      go_wp2_with fail
      first | go_end0 | refine bodyPost_ret (results_none rfl _ _ _) rfl ?_
      exact ⟨rfl, ⟨_, HS6.out⟩, HB6.out⟩
    · have t2 : (yv == vr) = true := by rw [beq_iff_eq]; omega
      have t3 : decide (sq ≤ yq) = false := decide_eq_false (by omega)
      clear hcase
      go_wp2_with fail
      refine wp_region_quiet_on (by kernel_rfl) (by kernel_rfl) ?_
      repeat ((with_reducible refine wpQuiet_step (fun K hK => ?_)); go_simp; first | ((with_reducible refine hK _ ?_); clear hK K) | (rw [if_neg (by intro h; cases h)]; (with_reducible refine hK _ ?_); clear hK K) | (apply Exists.intro; refine ⟨fun _ => ?_, hK _ ?_⟩; (fail); clear hK K))
      with_reducible refine wpQuiet_nil ?_
      intro _ hw'
      obtain ⟨pq, hw''⟩ := hw'
      subst hw''
      clear qv4 qv3 qy4 qy3
      have hp2 := pq.h
      generalize pq.v = W3 at *
      have HS3 := Lib.hid ((HS1.out.below hp1).below hp2)
      have HB3 := Lib.hid (Base.tr (Base.tr HB1.out hp1) hp2)
      have HI3 := Lib.hid (blk_below (blk_below HIT.out hp1) hp2)
      clear hp1 hp2 HS1 HB1 HIT z1 pq
      have z3 := (Array.getElem?_eq_some_iff.1 HI3.out).1
      have q5 := fun p : OnOf W3 => on_cell (a := ⟨T.TB, 5, none⟩) HS3.out.lt (show W3.cell? ⟨T.TB, 5, none⟩ = some (.map (some T.MB)) from cell_blk HS3.out.box 5) p
      have qk := fun p : OnOf W3 => on_cell (a := ⟨w.heap.size, 6, none⟩) z3 (show W3.cell? ⟨w.heap.size, 6, none⟩ = some (.string ky) from cell_blk HI3.out 6) p
      go_wp2_with fail
      refine wp_region_po (fun w' => ∃ p : OnOf W3, w' = p.v) 7 [] (by kernel_rfl) (by kernel_rfl) ⟨⟨_, Base.dr (Below.refl _ _)⟩, rfl⟩ ?_
      simp only [List.take_succ_cons, List.take_zero, List.drop_succ_cons, List.drop_zero]
      have on0 := @on_rd0; have on1 := @on_rd1; have on2 := @on_rd2; have on3 := @on_new1; have on4 := @on_new2; have on5 := @gr_rd0
      repeat ((with_reducible refine seq_read ?_ ?_); (focus rfl); (intro K hK); (unfold readsAt); go_simp; first | ((with_reducible refine hK _ ?_); clear hK K) | (rw [if_neg (by intro h; cases h)]; (with_reducible refine hK _ ?_); clear hK K))
      clear on0 on1 on2 on3 on4 on5
      with_reducible refine seq_nil ?_
      clear q5 qk
      have hm3 := (HS3.out.below (Base.dr (Below.refl _ W3))).map
      have hne3 : some w.heap.size ≠ some T.MB := fun e => by
        injection e with e
        exact map_ne HS3.out.map HI3.out e.symm
      have HI3' : W3.drew.heap[w.heap.size]? = some _ := HI3.out
      go_wp2_with (refine wpList_update_R rfl 121 _ _ _ rfl 9 188 K Tryz.underlying121 rfl ky rfl (.pointer (some ⟨xb, 0, none⟩)) rfl hm3 ?_; intro w4 hm5 hg5 hs5; have HI4 := Lib.hid ((hg5.block _ z3 hne3).trans HI3'); have HS4 := Lib.hid ((HS3.out.below (Base.dr (Below.refl _ W3))).mapped hm5 hg5); have HB4 : Hid (Out (fun k => k = T.TB ∨ k = T.MB) w w4) := Lib.hid (((Out.of_below HB3.out).trans (Out.of_below (Base.dr (Below.refl _ W3)))).trans (outGr hg5 (fun g hg => by (injection hg with hg; exact .inr hg.symm)))); have z4 := (Array.getElem?_eq_some_iff.1 HI4.out).1; (have c5 : w4.cell? ⟨w.heap.size, 5, none⟩ = some (.bool false) := cell_blk HI4.out 5); clear hm5 hg5 hs5)
      clear hm3 hne3 HI3' HS3 HB3 HI3 z3 c5
      obtain ⟨tq, htq⟩ : ∃ tq, T.trv = .pointer tq := HS4.out.tree.ptr
      have q6 := fun p : OnOf w4 => on_cell (a := ⟨T.TB, 6, none⟩) HS4.out.lt (show w4.cell? ⟨T.TB, 6, none⟩ = some (.pointer tq) from (cell_blk HS4.out.box 6).trans (by show some T.trv = _; rw [htq])) p
      have qk := fun p : OnOf w4 => on_cell (a := ⟨w.heap.size, 6, none⟩) z4 (show w4.cell? ⟨w.heap.size, 6, none⟩ = some (.string ky) from cell_blk HI4.out 6) p
      have htr4 : TreeR w4.drew B T.t (.pointer tq) := by
        rw [← htq]
        exact HS4.out.tree.below (Base.dr (Below.refl _ w4))
      have qv := fun p : OnOf w4 => on_cell (a := ⟨w.heap.size, 7, none⟩) z4 (show w4.cell? ⟨w.heap.size, 7, none⟩ = some (.string vl) from cell_blk HI4.out 7) p
      have GT := Lib.hid (trSet_any ky vl T.t htr4 (HS4.out.below (Base.dr (Below.refl _ w4))).base (by have := HSZ.out; omega))
      clear htq htr4
      refine wp_region_po (fun w' => ∃ p : OnOf w4, w' = p.v) 12 [9] (by kernel_rfl) (by kernel_rfl) ⟨⟨_, Base.dr (Below.refl _ _)⟩, rfl⟩ ?_
      simp only [List.take_succ_cons, List.take_zero, List.drop_succ_cons, List.drop_zero]
      have on0 := @on_rd0; have on1 := @on_rd1; have on2 := @on_rd2; have on3 := @on_new1; have on4 := @on_new2; have on5 := @gr_rd0
      repeat ((with_reducible refine seq_read ?_ ?_); (focus rfl); (intro K hK); (unfold readsAt); go_simp; first | ((with_reducible refine hK _ ?_); clear hK K) | (rw [if_neg (by intro h; cases h)]; (with_reducible refine hK _ ?_); clear hK K))
      refine seq_eff (by rfl) (by first | rfl | go_simp) ?_
      intro K hK
      unfold effAt2
      go_simp
      refine ⟨rfl, GT.out.mono ?_⟩; rintro e w5 ⟨tq2, rfl, htr5, hb5⟩
      have hc5 := Base.tr (Base.dr (Below.refl _ w4)) hb5
      refine ⟨_, rfl, ⟨⟨_, hc5⟩, rfl⟩, hK _ _ ?_⟩
      clear hK K
      repeat ((with_reducible refine seq_read ?_ ?_); (focus rfl); (intro K hK); (unfold readsAt); go_simp; first | ((with_reducible refine hK _ ?_); clear hK K) | (rw [if_neg (by intro h; cases h)]; (with_reducible refine hK _ ?_); clear hK K))
      clear on0 on1 on2 on3 on4 on5
      with_reducible refine seq_nil ?_
      have HS5 := HS4.out.below hc5
      have f5 := fun o => frozen_blk HS5.box o
      have k6 : w5.cell? ⟨T.TB, 6, none⟩ = some T.trv := cell_blk HS5.box 6
      have HS6 := Lib.hid (HS5.setBox (T' := { T with nm := mput T.nm ky (.pointer (some ⟨xb, 0, none⟩)), trv := .pointer tq2, t := setT ky vl T.t }) 6 (.pointer tq2) rfl rfl htr5)
      have HB6 : Hid (Out (fun k => k = T.TB ∨ k = T.MB) w (w5.setCell ⟨T.TB, 6, none⟩ (.pointer tq2))) := Lib.hid ((HB4.out.trans (Out.of_below hc5)).set (.inl rfl) 6 (.pointer tq2))
      clear HS5 hb5 hc5 q6 qk qv HI4 HS4 HB4 htr5 GT
      go_wp2_with fail
      first | go_end0 | refine bodyPost_ret (results_none rfl _ _ _) rfl ?_
      exact ⟨rfl, ⟨_, HS6.out⟩, HB6.out⟩
set_option maxHeartbeats 16000000 in
set_option maxRecDepth 100000 in
theorem comes_cut {O : Nat → Prop} {B : Nat} {w : World} {T : StV} (h : StR O B w T) {x : Nt} (hx : x ∈ T.nts) (hgn : x.f.item.gone = true) (had : Option Nt) (hno : mget T.nm x.f.item.key = had.map Nt.ptr) (hy : ∀ y, had = some y → y ∈ T.nts ∧ ¬ beats y x) (hsz : T.t.size ≤ 600000) :
    Calls Tryz.prog 86 #[T.ptr, x.ptr] w fun e w' => e = .returned (.tuple #[]) ∧ ∃ trv, StR O B w' { T with nm := mput T.nm x.f.item.key x.ptr, trv := trv, t := cutT x.f.item.key T.t } ∧ Out (fun k => k = T.TB ∨ k = T.MB) w w' := by
  have K := keys_string (P := Tryz.prog) (k := 9) Tryz.underlying9
  have hxb := h.nt x hx
  obtain ⟨xb, ⟨a0, a1, sz, st, ⟨sq, vr, ix, ct, pa, pb, gn, ky, vl⟩⟩, sec, cnt⟩ := x
  simp only at hgn hno
  subst hgn
  have hxr := hxb.1
  have hxB : B ≤ xb := hxb.2
  have n3 : w.cell? ⟨xb, 3, none⟩ = some (.int .u64 sq) := cell_blk hxr 3
  have n4 : w.cell? ⟨xb, 4, none⟩ = some (.int .u64 vr) := cell_blk hxr 4
  have n5 : w.cell? ⟨xb, 5, none⟩ = some (i64 ix) := cell_blk hxr 5
  have n6 : w.cell? ⟨xb, 6, none⟩ = some (i64 ct) := cell_blk hxr 6
  have n7 : w.cell? ⟨xb, 7, none⟩ = some (cx pa pb) := cell_blk hxr 7
  have n8 : w.cell? ⟨xb, 8, none⟩ = some (.bool true) := cell_blk hxr 8
  have n9 : w.cell? ⟨xb, 9, none⟩ = some (.string ky) := cell_blk hxr 9
  have n10 : w.cell? ⟨xb, 10, none⟩ = some (.string vl) := cell_blk hxr 10
  have HH := Lib.hid h
  have hlt := h.lt
  have hbs := h.base
  have HNO := Lib.hid hno
  have HYS : Hid (∀ y : Nt, had = some y → ∃ yv yq : Int, w.cell? ⟨y.b, 4, none⟩ = some (.int .u64 yv) ∧ w.cell? ⟨y.b, 3, none⟩ = some (.int .u64 yq) ∧ y.b < w.heap.size ∧ (yv < vr ∨ yv = vr ∧ yq < sq)) := Lib.hid (fun y e => by
    obtain ⟨hm, hbt⟩ := hy y e
    have hyb := (h.nt y hm).1
    refine ⟨y.f.item.ver, y.f.item.seq, cell_blk hyb 4, cell_blk hyb 3, (Array.getElem?_eq_some_iff.1 hyb).1, ?_⟩
    unfold beats at hbt
    simp only at hbt
    omega)
  have HSZ := Lib.hid hsz
  clear hxb hxr hno h hx hy hsz
  go_enter Tryz.func86, Tryz.ntmps86
  go_wp2_with fail
  obtain ⟨W1, hW1⟩ : ∃ W, W = w.alloc (.cells #[.int .u64 sq, .int .u64 vr, .int .i64 ix, .int .i64 ct, .complex .f64 pa pb, .bool true, .string ky, .string vl] 129) := ⟨_, rfl⟩
  rw [← hW1]
  have hS1 : StR O B W1 T := by rw [hW1]; exact HH.out.below (Base.al (Below.refl _ _) _)
  have hb1 : Below w.heap.size w W1 := by rw [hW1]; exact Base.al (Below.refl _ _) _
  have hit : W1.heap[w.heap.size]? = some (.cells #[.int .u64 sq, .int .u64 vr, .int .i64 ix, .int .i64 ct, .complex .f64 pa pb, .bool true, .string ky, .string vl] 129 (0, 0)) := by rw [hW1]; exact blk_new w _
  clear hW1 n3 n4 n5 n6 n7 n8 n9 n10
  have HS1 := Lib.hid hS1
  have HB1 := Lib.hid hb1
  have HIT := Lib.hid hit
  have z1 := (Array.getElem?_eq_some_iff.1 hit).1
  have q5 := fun p : OnOf W1 => on_cell (a := ⟨T.TB, 5, none⟩) hS1.lt (show W1.cell? ⟨T.TB, 5, none⟩ = some (.map (some T.MB)) from cell_blk hS1.box 5) p
  have qk := fun p : OnOf W1 => on_cell (a := ⟨w.heap.size, 6, none⟩) z1 (show W1.cell? ⟨w.heap.size, 6, none⟩ = some (.string ky) from cell_blk hit 6) p
  have hlk := fun p : OnOf W1 => (hS1.map.below p.h).lookup K Tryz.underlying121 (zero_pnote _) ky false
  rw [HNO.out] at hlk
  clear hS1 hb1 hit
  cases had with
  | none =>
    simp only [Option.map_none, Option.getD_none, Bool.false_eq_true, if_false] at hlk
    refine wp_region_quiet_on (by kernel_rfl) (by kernel_rfl) ?_
    repeat ((with_reducible refine wpQuiet_step (fun K hK => ?_)); go_simp; first | ((with_reducible refine hK _ ?_); clear hK K) | (rw [if_neg (by intro h; cases h)]; (with_reducible refine hK _ ?_); clear hK K) | (apply Exists.intro; refine ⟨fun _ => ?_, hK _ ?_⟩; (fail); clear hK K))
    with_reducible refine wpQuiet_nil ?_
    intro _ hw'
    obtain ⟨pq, hw''⟩ := hw'
    subst hw''
    clear q5 qk hlk
    have hp1 := pq.h
    generalize pq.v = W2 at *
    go_wp2_with fail
    refine wp_region_quiet_on (by kernel_rfl) (by kernel_rfl) ?_
    repeat ((with_reducible refine wpQuiet_step (fun K hK => ?_)); go_simp; first | ((with_reducible refine hK _ ?_); clear hK K) | (rw [if_neg (by intro h; cases h)]; (with_reducible refine hK _ ?_); clear hK K) | (apply Exists.intro; refine ⟨fun _ => ?_, hK _ ?_⟩; (fail); clear hK K))
    with_reducible refine wpQuiet_nil ?_
    intro _ hw'
    obtain ⟨pq, hw''⟩ := hw'
    subst hw''
    have hp2 := pq.h
    generalize pq.v = W3 at *
    have HS3 := Lib.hid ((HS1.out.below hp1).below hp2)
    have HB3 := Lib.hid (Base.tr (Base.tr HB1.out hp1) hp2)
    have HI3 := Lib.hid (blk_below (blk_below HIT.out hp1) hp2)
    clear hp1 hp2 HS1 HB1 HIT z1 pq
    have z3 := (Array.getElem?_eq_some_iff.1 HI3.out).1
    have q5 := fun p : OnOf W3 => on_cell (a := ⟨T.TB, 5, none⟩) HS3.out.lt (show W3.cell? ⟨T.TB, 5, none⟩ = some (.map (some T.MB)) from cell_blk HS3.out.box 5) p
    have qk := fun p : OnOf W3 => on_cell (a := ⟨w.heap.size, 6, none⟩) z3 (show W3.cell? ⟨w.heap.size, 6, none⟩ = some (.string ky) from cell_blk HI3.out 6) p
    go_wp2_with fail
    refine wp_region_po (fun w' => ∃ p : OnOf W3, w' = p.v) 7 [] (by kernel_rfl) (by kernel_rfl) ⟨⟨_, Base.dr (Below.refl _ _)⟩, rfl⟩ ?_
    simp only [List.take_succ_cons, List.take_zero, List.drop_succ_cons, List.drop_zero]
    have on0 := @on_rd0; have on1 := @on_rd1; have on2 := @on_rd2; have on3 := @on_new1; have on4 := @on_new2; have on5 := @gr_rd0
    repeat ((with_reducible refine seq_read ?_ ?_); (focus rfl); (intro K hK); (unfold readsAt); go_simp; first | ((with_reducible refine hK _ ?_); clear hK K) | (rw [if_neg (by intro h; cases h)]; (with_reducible refine hK _ ?_); clear hK K))
    clear on0 on1 on2 on3 on4 on5
    with_reducible refine seq_nil ?_
    clear q5 qk
    have hm3 := (HS3.out.below (Base.dr (Below.refl _ W3))).map
    have hne3 : some w.heap.size ≠ some T.MB := fun e => by
      injection e with e
      exact map_ne HS3.out.map HI3.out e.symm
    have HI3' : W3.drew.heap[w.heap.size]? = some _ := HI3.out
    go_wp2_with (refine wpList_update_R rfl 121 _ _ _ rfl 9 188 K Tryz.underlying121 rfl ky rfl (.pointer (some ⟨xb, 0, none⟩)) rfl hm3 ?_; intro w4 hm5 hg5 hs5; have HI4 := Lib.hid ((hg5.block _ z3 hne3).trans HI3'); have HS4 := Lib.hid ((HS3.out.below (Base.dr (Below.refl _ W3))).mapped hm5 hg5); have HB4 : Hid (Out (fun k => k = T.TB ∨ k = T.MB) w w4) := Lib.hid (((Out.of_below HB3.out).trans (Out.of_below (Base.dr (Below.refl _ W3)))).trans (outGr hg5 (fun g hg => by (injection hg with hg; exact .inr hg.symm)))); have z4 := (Array.getElem?_eq_some_iff.1 HI4.out).1; (have c5 : w4.cell? ⟨w.heap.size, 5, none⟩ = some (.bool true) := cell_blk HI4.out 5); clear hm5 hg5 hs5)
    clear hm3 hne3 HI3' HS3 HB3 HI3 z3 c5
    obtain ⟨tq, htq⟩ : ∃ tq, T.trv = .pointer tq := HS4.out.tree.ptr
    have q6 := fun p : OnOf w4 => on_cell (a := ⟨T.TB, 6, none⟩) HS4.out.lt (show w4.cell? ⟨T.TB, 6, none⟩ = some (.pointer tq) from (cell_blk HS4.out.box 6).trans (by show some T.trv = _; rw [htq])) p
    have qk := fun p : OnOf w4 => on_cell (a := ⟨w.heap.size, 6, none⟩) z4 (show w4.cell? ⟨w.heap.size, 6, none⟩ = some (.string ky) from cell_blk HI4.out 6) p
    have htr4 : TreeR w4.drew B T.t (.pointer tq) := by
      rw [← htq]
      exact HS4.out.tree.below (Base.dr (Below.refl _ w4))
    have GT := Lib.hid (trCut_any T.t ky htr4 (HS4.out.below (Base.dr (Below.refl _ w4))).base (by have := HSZ.out; omega))
    clear htq htr4
    refine wp_region_po (fun w' => ∃ p : OnOf w4, w' = p.v) 10 [7] (by kernel_rfl) (by kernel_rfl) ⟨⟨_, Base.dr (Below.refl _ _)⟩, rfl⟩ ?_
    simp only [List.take_succ_cons, List.take_zero, List.drop_succ_cons, List.drop_zero]
    have on0 := @on_rd0; have on1 := @on_rd1; have on2 := @on_rd2; have on3 := @on_new1; have on4 := @on_new2; have on5 := @gr_rd0
    repeat ((with_reducible refine seq_read ?_ ?_); (focus rfl); (intro K hK); (unfold readsAt); go_simp; first | ((with_reducible refine hK _ ?_); clear hK K) | (rw [if_neg (by intro h; cases h)]; (with_reducible refine hK _ ?_); clear hK K))
    refine seq_eff (by rfl) (by first | rfl | go_simp) ?_
    intro K hK
    unfold effAt2
    go_simp
    refine ⟨rfl, GT.out.mono ?_⟩; rintro e w5 ⟨tq2, rfl, htr5, hb5⟩
    have hc5 := Base.tr (Base.dr (Below.refl _ w4)) hb5
    refine ⟨_, rfl, ⟨⟨_, hc5⟩, rfl⟩, hK _ _ ?_⟩
    clear hK K
    repeat ((with_reducible refine seq_read ?_ ?_); (focus rfl); (intro K hK); (unfold readsAt); go_simp; first | ((with_reducible refine hK _ ?_); clear hK K) | (rw [if_neg (by intro h; cases h)]; (with_reducible refine hK _ ?_); clear hK K))
    clear on0 on1 on2 on3 on4 on5
    with_reducible refine seq_nil ?_
    have HS5 := HS4.out.below hc5
    have f5 := fun o => frozen_blk HS5.box o
    have k6 : w5.cell? ⟨T.TB, 6, none⟩ = some T.trv := cell_blk HS5.box 6
    have HS6 := Lib.hid (HS5.setBox (T' := { T with nm := mput T.nm ky (.pointer (some ⟨xb, 0, none⟩)), trv := .pointer tq2, t := cutT ky T.t }) 6 (.pointer tq2) rfl rfl htr5)
    have HB6 : Hid (Out (fun k => k = T.TB ∨ k = T.MB) w (w5.setCell ⟨T.TB, 6, none⟩ (.pointer tq2))) := Lib.hid ((HB4.out.trans (Out.of_below hc5)).set (.inl rfl) 6 (.pointer tq2))
    clear HS5 hb5 hc5 q6 qk HI4 HS4 HB4 htr5 GT
    go_wp2_with fail
    first | go_end0 | refine bodyPost_ret (results_none rfl _ _ _) rfl ?_
    exact ⟨rfl, ⟨_, HS6.out⟩, HB6.out⟩
  | some y =>
    obtain ⟨yv, yq, y4, y3, hyl, hcase⟩ := HYS.out y rfl
    simp only [Option.map_some, Option.getD_some, Bool.false_eq_true, if_false] at hlk
    obtain ⟨yb, yf, yse, ycn⟩ := y
    simp only at y4 y3 hyl
    have t1 : decide (vr < yv) = false := decide_eq_false (by omega)
    have hlk' := hlk
    clear hlk
    have hlk : ∀ p : OnOf W1, _ := hlk'
    clear hlk'
    have qy := fun p : OnOf W1 => on_cell (a := ⟨yb, 4, none⟩) (Nat.lt_of_lt_of_le hyl HB1.out.size) ((HB1.out.cell (p := ⟨yb, 4, none⟩) hyl).trans y4) p
    have qs := fun p : OnOf W1 => on_cell (a := ⟨yb, 3, none⟩) (Nat.lt_of_lt_of_le hyl HB1.out.size) ((HB1.out.cell (p := ⟨yb, 3, none⟩) hyl).trans y3) p
    refine wp_region_quiet_on (by kernel_rfl) (by kernel_rfl) ?_
    repeat ((with_reducible refine wpQuiet_step (fun K hK => ?_)); go_simp; first | ((with_reducible refine hK _ ?_); clear hK K) | (rw [if_neg (by intro h; cases h)]; (with_reducible refine hK _ ?_); clear hK K) | (apply Exists.intro; refine ⟨fun _ => ?_, hK _ ?_⟩; (fail); clear hK K))
    with_reducible refine wpQuiet_nil ?_
    intro _ hw'
    obtain ⟨pq, hw''⟩ := hw'
    subst hw''
    clear q5 qk hlk
    have hp1 := pq.h
    have y5 : pq.v.cell? ⟨yb, 4, none⟩ = some (.int .u64 yv) := qy pq
    have y6 : pq.v.cell? ⟨yb, 3, none⟩ = some (.int .u64 yq) := qs pq
    have z5 : yb < pq.v.heap.size := Nat.lt_of_lt_of_le hyl (Nat.le_trans HB1.out.size pq.h.size)
    have v5 : pq.v.cell? ⟨w.heap.size, 1, none⟩ = some (.int .u64 vr) := cell_blk (blk_below HIT.out pq.h) 1
    have v6 : pq.v.cell? ⟨w.heap.size, 0, none⟩ = some (.int .u64 sq) := cell_blk (blk_below HIT.out pq.h) 0
    have z6 : w.heap.size < pq.v.heap.size := Nat.lt_of_lt_of_le z1 pq.h.size
    generalize pq.v = W2 at *
    have qv4 := fun p : OnOf W2 => on_cell z6 v5 p
    have qv3 := fun p : OnOf W2 => on_cell z6 v6 p
    have qy4 := fun p : OnOf W2 => on_cell z5 y5 p
    have qy3 := fun p : OnOf W2 => on_cell z5 y6 p
    clear y5 y6 v5 v6 qy qs y4 y3
    by_cases hlt1 : yv < vr
    · have t2 : (yv == vr) = false := by rw [beq_eq_false_iff_ne]; omega
      clear hcase
      go_wp2_with fail
      refine wp_region_quiet_on (by kernel_rfl) (by kernel_rfl) ?_
      repeat ((with_reducible refine wpQuiet_step (fun K hK => ?_)); go_simp; first | ((with_reducible refine hK _ ?_); clear hK K) | (rw [if_neg (by intro h; cases h)]; (with_reducible refine hK _ ?_); clear hK K) | (apply Exists.intro; refine ⟨fun _ => ?_, hK _ ?_⟩; (fail); clear hK K))
      with_reducible refine wpQuiet_nil ?_
      intro _ hw'
      obtain ⟨pq, hw''⟩ := hw'
      subst hw''
      clear qv4 qv3 qy4 qy3
      have hp2 := pq.h
      generalize pq.v = W3 at *
      have HS3 := Lib.hid ((HS1.out.below hp1).below hp2)
      have HB3 := Lib.hid (Base.tr (Base.tr HB1.out hp1) hp2)
      have HI3 := Lib.hid (blk_below (blk_below HIT.out hp1) hp2)
      clear hp1 hp2 HS1 HB1 HIT z1 pq
      have z3 := (Array.getElem?_eq_some_iff.1 HI3.out).1
      have q5 := fun p : OnOf W3 => on_cell (a := ⟨T.TB, 5, none⟩) HS3.out.lt (show W3.cell? ⟨T.TB, 5, none⟩ = some (.map (some T.MB)) from cell_blk HS3.out.box 5) p
      have qk := fun p : OnOf W3 => on_cell (a := ⟨w.heap.size, 6, none⟩) z3 (show W3.cell? ⟨w.heap.size, 6, none⟩ = some (.string ky) from cell_blk HI3.out 6) p
      go_wp2_with fail
      refine wp_region_po (fun w' => ∃ p : OnOf W3, w' = p.v) 7 [] (by kernel_rfl) (by kernel_rfl) ⟨⟨_, Base.dr (Below.refl _ _)⟩, rfl⟩ ?_
      simp only [List.take_succ_cons, List.take_zero, List.drop_succ_cons, List.drop_zero]
      have on0 := @on_rd0; have on1 := @on_rd1; have on2 := @on_rd2; have on3 := @on_new1; have on4 := @on_new2; have on5 := @gr_rd0
      repeat ((with_reducible refine seq_read ?_ ?_); (focus rfl); (intro K hK); (unfold readsAt); go_simp; first | ((with_reducible refine hK _ ?_); clear hK K) | (rw [if_neg (by intro h; cases h)]; (with_reducible refine hK _ ?_); clear hK K))
      clear on0 on1 on2 on3 on4 on5
      with_reducible refine seq_nil ?_
      clear q5 qk
      have hm3 := (HS3.out.below (Base.dr (Below.refl _ W3))).map
      have hne3 : some w.heap.size ≠ some T.MB := fun e => by
        injection e with e
        exact map_ne HS3.out.map HI3.out e.symm
      have HI3' : W3.drew.heap[w.heap.size]? = some _ := HI3.out
      go_wp2_with (refine wpList_update_R rfl 121 _ _ _ rfl 9 188 K Tryz.underlying121 rfl ky rfl (.pointer (some ⟨xb, 0, none⟩)) rfl hm3 ?_; intro w4 hm5 hg5 hs5; have HI4 := Lib.hid ((hg5.block _ z3 hne3).trans HI3'); have HS4 := Lib.hid ((HS3.out.below (Base.dr (Below.refl _ W3))).mapped hm5 hg5); have HB4 : Hid (Out (fun k => k = T.TB ∨ k = T.MB) w w4) := Lib.hid (((Out.of_below HB3.out).trans (Out.of_below (Base.dr (Below.refl _ W3)))).trans (outGr hg5 (fun g hg => by (injection hg with hg; exact .inr hg.symm)))); have z4 := (Array.getElem?_eq_some_iff.1 HI4.out).1; (have c5 : w4.cell? ⟨w.heap.size, 5, none⟩ = some (.bool true) := cell_blk HI4.out 5); clear hm5 hg5 hs5)
      clear hm3 hne3 HI3' HS3 HB3 HI3 z3 c5
      obtain ⟨tq, htq⟩ : ∃ tq, T.trv = .pointer tq := HS4.out.tree.ptr
      have q6 := fun p : OnOf w4 => on_cell (a := ⟨T.TB, 6, none⟩) HS4.out.lt (show w4.cell? ⟨T.TB, 6, none⟩ = some (.pointer tq) from (cell_blk HS4.out.box 6).trans (by show some T.trv = _; rw [htq])) p
      have qk := fun p : OnOf w4 => on_cell (a := ⟨w.heap.size, 6, none⟩) z4 (show w4.cell? ⟨w.heap.size, 6, none⟩ = some (.string ky) from cell_blk HI4.out 6) p
      have htr4 : TreeR w4.drew B T.t (.pointer tq) := by
        rw [← htq]
        exact HS4.out.tree.below (Base.dr (Below.refl _ w4))
      have GT := Lib.hid (trCut_any T.t ky htr4 (HS4.out.below (Base.dr (Below.refl _ w4))).base (by have := HSZ.out; omega))
      clear htq htr4
      refine wp_region_po (fun w' => ∃ p : OnOf w4, w' = p.v) 10 [7] (by kernel_rfl) (by kernel_rfl) ⟨⟨_, Base.dr (Below.refl _ _)⟩, rfl⟩ ?_
      simp only [List.take_succ_cons, List.take_zero, List.drop_succ_cons, List.drop_zero]
      have on0 := @on_rd0; have on1 := @on_rd1; have on2 := @on_rd2; have on3 := @on_new1; have on4 := @on_new2; have on5 := @gr_rd0
      repeat ((with_reducible refine seq_read ?_ ?_); (focus rfl); (intro K hK); (unfold readsAt); go_simp; first | ((with_reducible refine hK _ ?_); clear hK K) | (rw [if_neg (by intro h; cases h)]; (with_reducible refine hK _ ?_); clear hK K))
      refine seq_eff (by rfl) (by first | rfl | go_simp) ?_
      intro K hK
      unfold effAt2
      go_simp
      refine ⟨rfl, GT.out.mono ?_⟩; rintro e w5 ⟨tq2, rfl, htr5, hb5⟩
      have hc5 := Base.tr (Base.dr (Below.refl _ w4)) hb5
      refine ⟨_, rfl, ⟨⟨_, hc5⟩, rfl⟩, hK _ _ ?_⟩
      clear hK K
      repeat ((with_reducible refine seq_read ?_ ?_); (focus rfl); (intro K hK); (unfold readsAt); go_simp; first | ((with_reducible refine hK _ ?_); clear hK K) | (rw [if_neg (by intro h; cases h)]; (with_reducible refine hK _ ?_); clear hK K))
      clear on0 on1 on2 on3 on4 on5
      with_reducible refine seq_nil ?_
      have HS5 := HS4.out.below hc5
      have f5 := fun o => frozen_blk HS5.box o
      have k6 : w5.cell? ⟨T.TB, 6, none⟩ = some T.trv := cell_blk HS5.box 6
      have HS6 := Lib.hid (HS5.setBox (T' := { T with nm := mput T.nm ky (.pointer (some ⟨xb, 0, none⟩)), trv := .pointer tq2, t := cutT ky T.t }) 6 (.pointer tq2) rfl rfl htr5)
      have HB6 : Hid (Out (fun k => k = T.TB ∨ k = T.MB) w (w5.setCell ⟨T.TB, 6, none⟩ (.pointer tq2))) := Lib.hid ((HB4.out.trans (Out.of_below hc5)).set (.inl rfl) 6 (.pointer tq2))
      clear HS5 hb5 hc5 q6 qk HI4 HS4 HB4 htr5 GT
      go_wp2_with fail
      first | go_end0 | refine bodyPost_ret (results_none rfl _ _ _) rfl ?_
      exact ⟨rfl, ⟨_, HS6.out⟩, HB6.out⟩
    · have t2 : (yv == vr) = true := by rw [beq_iff_eq]; omega
      have t3 : decide (sq ≤ yq) = false := decide_eq_false (by omega)
      clear hcase
      go_wp2_with fail
      refine wp_region_quiet_on (by kernel_rfl) (by kernel_rfl) ?_
      repeat ((with_reducible refine wpQuiet_step (fun K hK => ?_)); go_simp; first | ((with_reducible refine hK _ ?_); clear hK K) | (rw [if_neg (by intro h; cases h)]; (with_reducible refine hK _ ?_); clear hK K) | (apply Exists.intro; refine ⟨fun _ => ?_, hK _ ?_⟩; (fail); clear hK K))
      with_reducible refine wpQuiet_nil ?_
      intro _ hw'
      obtain ⟨pq, hw''⟩ := hw'
      subst hw''
      clear qv4 qv3 qy4 qy3
      have hp2 := pq.h
      generalize pq.v = W3 at *
      have HS3 := Lib.hid ((HS1.out.below hp1).below hp2)
      have HB3 := Lib.hid (Base.tr (Base.tr HB1.out hp1) hp2)
      have HI3 := Lib.hid (blk_below (blk_below HIT.out hp1) hp2)
      clear hp1 hp2 HS1 HB1 HIT z1 pq
      have z3 := (Array.getElem?_eq_some_iff.1 HI3.out).1
      have q5 := fun p : OnOf W3 => on_cell (a := ⟨T.TB, 5, none⟩) HS3.out.lt (show W3.cell? ⟨T.TB, 5, none⟩ = some (.map (some T.MB)) from cell_blk HS3.out.box 5) p
      have qk := fun p : OnOf W3 => on_cell (a := ⟨w.heap.size, 6, none⟩) z3 (show W3.cell? ⟨w.heap.size, 6, none⟩ = some (.string ky) from cell_blk HI3.out 6) p
      go_wp2_with fail
      refine wp_region_po (fun w' => ∃ p : OnOf W3, w' = p.v) 7 [] (by kernel_rfl) (by kernel_rfl) ⟨⟨_, Base.dr (Below.refl _ _)⟩, rfl⟩ ?_
      simp only [List.take_succ_cons, List.take_zero, List.drop_succ_cons, List.drop_zero]
      have on0 := @on_rd0; have on1 := @on_rd1; have on2 := @on_rd2; have on3 := @on_new1; have on4 := @on_new2; have on5 := @gr_rd0
      repeat ((with_reducible refine seq_read ?_ ?_); (focus rfl); (intro K hK); (unfold readsAt); go_simp; first | ((with_reducible refine hK _ ?_); clear hK K) | (rw [if_neg (by intro h; cases h)]; (with_reducible refine hK _ ?_); clear hK K))
      clear on0 on1 on2 on3 on4 on5
      with_reducible refine seq_nil ?_
      clear q5 qk
      have hm3 := (HS3.out.below (Base.dr (Below.refl _ W3))).map
      have hne3 : some w.heap.size ≠ some T.MB := fun e => by
        injection e with e
        exact map_ne HS3.out.map HI3.out e.symm
      have HI3' : W3.drew.heap[w.heap.size]? = some _ := HI3.out
      go_wp2_with (refine wpList_update_R rfl 121 _ _ _ rfl 9 188 K Tryz.underlying121 rfl ky rfl (.pointer (some ⟨xb, 0, none⟩)) rfl hm3 ?_; intro w4 hm5 hg5 hs5; have HI4 := Lib.hid ((hg5.block _ z3 hne3).trans HI3'); have HS4 := Lib.hid ((HS3.out.below (Base.dr (Below.refl _ W3))).mapped hm5 hg5); have HB4 : Hid (Out (fun k => k = T.TB ∨ k = T.MB) w w4) := Lib.hid (((Out.of_below HB3.out).trans (Out.of_below (Base.dr (Below.refl _ W3)))).trans (outGr hg5 (fun g hg => by (injection hg with hg; exact .inr hg.symm)))); have z4 := (Array.getElem?_eq_some_iff.1 HI4.out).1; (have c5 : w4.cell? ⟨w.heap.size, 5, none⟩ = some (.bool true) := cell_blk HI4.out 5); clear hm5 hg5 hs5)
      clear hm3 hne3 HI3' HS3 HB3 HI3 z3 c5
      obtain ⟨tq, htq⟩ : ∃ tq, T.trv = .pointer tq := HS4.out.tree.ptr
      have q6 := fun p : OnOf w4 => on_cell (a := ⟨T.TB, 6, none⟩) HS4.out.lt (show w4.cell? ⟨T.TB, 6, none⟩ = some (.pointer tq) from (cell_blk HS4.out.box 6).trans (by show some T.trv = _; rw [htq])) p
      have qk := fun p : OnOf w4 => on_cell (a := ⟨w.heap.size, 6, none⟩) z4 (show w4.cell? ⟨w.heap.size, 6, none⟩ = some (.string ky) from cell_blk HI4.out 6) p
      have htr4 : TreeR w4.drew B T.t (.pointer tq) := by
        rw [← htq]
        exact HS4.out.tree.below (Base.dr (Below.refl _ w4))
      have GT := Lib.hid (trCut_any T.t ky htr4 (HS4.out.below (Base.dr (Below.refl _ w4))).base (by have := HSZ.out; omega))
      clear htq htr4
      refine wp_region_po (fun w' => ∃ p : OnOf w4, w' = p.v) 10 [7] (by kernel_rfl) (by kernel_rfl) ⟨⟨_, Base.dr (Below.refl _ _)⟩, rfl⟩ ?_
      simp only [List.take_succ_cons, List.take_zero, List.drop_succ_cons, List.drop_zero]
      have on0 := @on_rd0; have on1 := @on_rd1; have on2 := @on_rd2; have on3 := @on_new1; have on4 := @on_new2; have on5 := @gr_rd0
      repeat ((with_reducible refine seq_read ?_ ?_); (focus rfl); (intro K hK); (unfold readsAt); go_simp; first | ((with_reducible refine hK _ ?_); clear hK K) | (rw [if_neg (by intro h; cases h)]; (with_reducible refine hK _ ?_); clear hK K))
      refine seq_eff (by rfl) (by first | rfl | go_simp) ?_
      intro K hK
      unfold effAt2
      go_simp
      refine ⟨rfl, GT.out.mono ?_⟩; rintro e w5 ⟨tq2, rfl, htr5, hb5⟩
      have hc5 := Base.tr (Base.dr (Below.refl _ w4)) hb5
      refine ⟨_, rfl, ⟨⟨_, hc5⟩, rfl⟩, hK _ _ ?_⟩
      clear hK K
      repeat ((with_reducible refine seq_read ?_ ?_); (focus rfl); (intro K hK); (unfold readsAt); go_simp; first | ((with_reducible refine hK _ ?_); clear hK K) | (rw [if_neg (by intro h; cases h)]; (with_reducible refine hK _ ?_); clear hK K))
      clear on0 on1 on2 on3 on4 on5
      with_reducible refine seq_nil ?_
      have HS5 := HS4.out.below hc5
      have f5 := fun o => frozen_blk HS5.box o
      have k6 : w5.cell? ⟨T.TB, 6, none⟩ = some T.trv := cell_blk HS5.box 6
      have HS6 := Lib.hid (HS5.setBox (T' := { T with nm := mput T.nm ky (.pointer (some ⟨xb, 0, none⟩)), trv := .pointer tq2, t := cutT ky T.t }) 6 (.pointer tq2) rfl rfl htr5)
      have HB6 : Hid (Out (fun k => k = T.TB ∨ k = T.MB) w (w5.setCell ⟨T.TB, 6, none⟩ (.pointer tq2))) := Lib.hid ((HB4.out.trans (Out.of_below hc5)).set (.inl rfl) 6 (.pointer tq2))
      clear HS5 hb5 hc5 q6 qk HI4 HS4 HB4 htr5 GT
      go_wp2_with fail
      first | go_end0 | refine bodyPost_ret (results_none rfl _ _ _) rfl ?_
      exact ⟨rfl, ⟨_, HS6.out⟩, HB6.out⟩
end Go.Proofs.YthiimpleljaimaaGreatDoor
