/- An operation of the law, kind 1. -/
import Derived.Test.YtokpoogcoeodkaaGreatDoorMg15
namespace Go.Proofs.YtokpoogcoeodkaaGreatDoor
open Go.RowKit Flo

set_option maxHeartbeats 4000000 in
set_option maxRecDepth 100000 in
theorem do1_any {O E : Nat → Prop} {w : World} {N M : Nor} {R : RV} {o : OpV} {lb : List Nat} (h : DoFit O E w N M R o lb) (hk : o.kind = 1) : Calls Tryz.prog 11 #[ptrD N, R.val M, o.val] w (DoPost O E w N M o lb) := by
  have hd := h.dev
  have hop := h.op
  have lim := hd.lim
  have P0 := fun W => Lib.hid (of_any o.sector o.offset W)
  obtain ⟨pa, pb, hpl⟩ : ∃ pa pb, ofPl o.sector o.offset = (pa, pb) := ⟨_, _, rfl⟩
  rw [hpl] at P0
  simp only [] at P0
  have lc0 : Hid (Loc O w #[i64 M.S, i64 M.Z, .slice R.dA M.S R.dc, .slice R.wA M.S R.wc, .slice R.bA M.S R.bc, .bool M.off, i64 M.offs, i64 M.acts, .bool M.cut.isSome, i64 R.left, i64 R.whole, .int .u8 R.mask] #[i64 1, i64 o.sector, i64 o.offset, .slice o.A o.bn o.bc, i64 o.n, i64 o.k, bv o.mask] _) := Lib.hid (Loc.start O w _ #[i64 1, i64 o.sector, i64 o.offset, .slice o.A o.bn o.bc, i64 o.n, i64 o.k, bv o.mask])
  have hrq : RefR (fun k => (O k ∨ E k) ∨ k = w.heap.size + 1 + 1) w R M := h.ref.wider (by rintro k (hk | rfl); exact .inl hk; exact .inr (by omega))
  have limq : ∀ W : World, w.heap.size + 1 + 1 < W.heap.size → ∀ k, ((O k ∨ E k) ∨ k = w.heap.size + 1 + 1) → k < W.heap.size := by rintro W hW k ((hk | hk) | rfl); have := lim k hk; omega; have := h.limE k hk; omega; exact hW
  obtain ⟨ea, Na, hea⟩ : ∃ ea Na, N.erase o.sector = (ea, Na) := ⟨_, _, rfl⟩
  obtain ⟨ef, Ma, hma⟩ : ∃ ef Ma, M.erase o.sector = (ef, Ma) := ⟨_, _, rfl⟩
  have hdoN : ∀ g, N.doo o lb g = Na := by intro g; unfold Nor.doo; rw [if_neg (by rw [hk]; decide), if_pos hk, hea]
  have hdoM : ∀ g, M.doo o lb g = Ma := by intro g; unfold Nor.doo; rw [if_neg (by rw [hk]; decide), if_pos hk, hma]
  have hsame : N = M → ea = ef := by rintro rfl; rw [hea] at hma; injection hma
  clear hpl
  have lb0 : Hid (Below w.heap.size w (((w.alloc (.cells #[i64 M.S, i64 M.Z, .slice R.dA M.S R.dc, .slice R.wA M.S R.wc, .slice R.bA M.S R.bc, .bool M.off, i64 M.offs, i64 M.acts, .bool M.cut.isSome, i64 R.left, i64 R.whole, .int .u8 R.mask] 33)).alloc (.cells #[i64 1, i64 o.sector, i64 o.offset, .slice o.A o.bn o.bc, i64 o.n, i64 o.k, bv o.mask] 43)).alloc (.cells #[.int .i64 0, .int .i64 0, .slice none 0 0, .slice none 0 0, .slice none 0 0, .bool false, .int .i64 0, .int .i64 0, .bool false, .int .i64 0, .int .i64 0, .int .u8 0] 33))) := Lib.hid (Base.al (Base.al (Base.al (Below.refl _ _) _) _) _)
  show Calls Tryz.prog 11 #[ptrD N, .agg #[i64 M.S, i64 M.Z, .slice R.dA M.S R.dc, .slice R.wA M.S R.wc, .slice R.bA M.S R.bc, .bool M.off, i64 M.offs, i64 M.acts, .bool M.cut.isSome, i64 R.left, i64 R.whole, .int .u8 R.mask], .agg #[i64 o.kind, i64 o.sector, i64 o.offset, .slice o.A o.bn o.bc, i64 o.n, i64 o.k, bv o.mask]] w _
  go_enter Tryz.func11, Tryz.ntmps11
  go_wp2_with fail
  refine (P0 _).out.mono ?_; rintro e x2 ⟨rfl, rfl⟩
  generalize ((w.alloc _).alloc _).alloc _ = x2 at *
  have hd2 := hd.below lb0.out
  have hr2 : RefR _ x2 R M := hrq.below lb0.out
  have limx := limq x2 (Array.getElem?_eq_some_iff.1 lc0.out.hz).1
  have fd := cell_blk lc0.out.hm
  have f0 : x2.cell? ⟨w.heap.size, 0, none⟩ = some (i64 M.S) := fd 0
  have f1 : x2.cell? ⟨w.heap.size, 1, none⟩ = some (i64 M.Z) := fd 1
  have f2 : x2.cell? ⟨w.heap.size, 2, none⟩ = some (.slice R.dA M.S R.dc) := fd 2
  have f3 : x2.cell? ⟨w.heap.size, 3, none⟩ = some (.slice R.wA M.S R.wc) := fd 3
  have f4 : x2.cell? ⟨w.heap.size, 4, none⟩ = some (.slice R.bA M.S R.bc) := fd 4
  have f5 : x2.cell? ⟨w.heap.size, 5, none⟩ = some (.bool M.off) := fd 5
  have f6 : x2.cell? ⟨w.heap.size, 6, none⟩ = some (i64 M.offs) := fd 6
  have f7 : x2.cell? ⟨w.heap.size, 7, none⟩ = some (i64 M.acts) := fd 7
  have f8 : x2.cell? ⟨w.heap.size, 8, none⟩ = some (.bool M.cut.isSome) := fd 8
  have f9 : x2.cell? ⟨w.heap.size, 9, none⟩ = some (i64 R.left) := fd 9
  have f10 : x2.cell? ⟨w.heap.size, 10, none⟩ = some (i64 R.whole) := fd 10
  have f11 : x2.cell? ⟨w.heap.size, 11, none⟩ = some (.int .u8 R.mask) := fd 11
  have zd : w.heap.size < x2.heap.size := (Array.getElem?_eq_some_iff.1 lc0.out.hm).1
  clear fd
  have fo := cell_blk lc0.out.ho
  have g0 : x2.cell? ⟨w.heap.size + 1, 0, none⟩ = some (i64 1) := fo 0
  have g1 : x2.cell? ⟨w.heap.size + 1, 1, none⟩ = some (i64 o.sector) := fo 1
  have g2 : x2.cell? ⟨w.heap.size + 1, 2, none⟩ = some (i64 o.offset) := fo 2
  have g3 : x2.cell? ⟨w.heap.size + 1, 3, none⟩ = some (.slice o.A o.bn o.bc) := fo 3
  have g4 : x2.cell? ⟨w.heap.size + 1, 4, none⟩ = some (i64 o.n) := fo 4
  have g5 : x2.cell? ⟨w.heap.size + 1, 5, none⟩ = some (i64 o.k) := fo 5
  have g6 : x2.cell? ⟨w.heap.size + 1, 6, none⟩ = some (bv o.mask) := fo 6
  have zo : w.heap.size + 1 < x2.heap.size := (Array.getElem?_eq_some_iff.1 lc0.out.ho).1
  clear fo
  have HR := rerase_any hr2 limx (by have := h.bM.acts; omega) (by have := h.bM.offs; omega) (fun n hn => by have := h.bM.wear n hn; omega) h.mask h.left o.sector
  unfold RefPost at HR
  rw [hma] at HR
  simp only [RV.val, RV.cells] at HR
  have HR := Lib.hid HR
  clear hma
  go_wp2_with fail
  refine HR.out.mono ?_; rintro e x5 ⟨R', rfl, hr5, hb5, hm5, hl5⟩
  have HM5 := Lib.hid hm5
  have hd5 := hd2.below hb5
  have lc5 := lc0.out.below hb5
  clear f0 f1 f2 f3 f4 f5 f6 f7 f8 f9 f10 f11 g0 g1 g2 g3 g4 g5 g6 zd zo
  clear hm5 HR lb0 hr2 limx hd2
  go_wp2_with fail
  have nb := blk_new x5 (.cells #[i64 Ma.S, i64 Ma.Z, .slice R'.dA Ma.S R'.dc, .slice R'.wA Ma.S R'.wc, .slice R'.bA Ma.S R'.bc, .bool Ma.off, i64 Ma.offs, i64 Ma.acts, .bool Ma.cut.isSome, i64 R'.left, i64 R'.whole, .int .u8 R'.mask] 33)
  have b6 : Below x5.heap.size x5 (x5.alloc (.cells #[i64 Ma.S, i64 Ma.Z, .slice R'.dA Ma.S R'.dc, .slice R'.wA Ma.S R'.wc, .slice R'.bA Ma.S R'.bc, .bool Ma.off, i64 Ma.offs, i64 Ma.acts, .bool Ma.cut.isSome, i64 R'.left, i64 R'.whole, .int .u8 R'.mask] 33)) := Base.al (Below.refl _ _) _
  have z6 : x5.heap.size < (x5.alloc (.cells #[i64 Ma.S, i64 Ma.Z, .slice R'.dA Ma.S R'.dc, .slice R'.wA Ma.S R'.wc, .slice R'.bA Ma.S R'.bc, .bool Ma.off, i64 Ma.offs, i64 Ma.acts, .bool Ma.cut.isSome, i64 R'.left, i64 R'.whole, .int .u8 R'.mask] 33)).heap.size := by simp
  have no6 : ¬ O x5.heap.size := fun hq => Nat.lt_irrefl _ (hd5.lim _ hq)
  have lc6 := Lib.hid (lc5.below b6)
  have hd6 := hd5.below b6
  have hr6 := hr5.below b6
  generalize x5.alloc _ = x6 at *
  have nn := cell_blk nb
  have n0 : x6.cell? ⟨x5.heap.size, 0, none⟩ = some (i64 Ma.S) := nn 0
  have n1 : x6.cell? ⟨x5.heap.size, 1, none⟩ = some (i64 Ma.Z) := nn 1
  have n2 : x6.cell? ⟨x5.heap.size, 2, none⟩ = some (.slice R'.dA Ma.S R'.dc) := nn 2
  have n3 : x6.cell? ⟨x5.heap.size, 3, none⟩ = some (.slice R'.wA Ma.S R'.wc) := nn 3
  have n4 : x6.cell? ⟨x5.heap.size, 4, none⟩ = some (.slice R'.bA Ma.S R'.bc) := nn 4
  have n5 : x6.cell? ⟨x5.heap.size, 5, none⟩ = some (.bool Ma.off) := nn 5
  have n6 : x6.cell? ⟨x5.heap.size, 6, none⟩ = some (i64 Ma.offs) := nn 6
  have n7 : x6.cell? ⟨x5.heap.size, 7, none⟩ = some (i64 Ma.acts) := nn 7
  have n8 : x6.cell? ⟨x5.heap.size, 8, none⟩ = some (.bool Ma.cut.isSome) := nn 8
  have n9 : x6.cell? ⟨x5.heap.size, 9, none⟩ = some (i64 R'.left) := nn 9
  have n10 : x6.cell? ⟨x5.heap.size, 10, none⟩ = some (i64 R'.whole) := nn 10
  have n11 : x6.cell? ⟨x5.heap.size, 11, none⟩ = some (.int .u8 R'.mask) := nn 11
  have fo := cell_blk lc6.out.ho
  have g0 : x6.cell? ⟨w.heap.size + 1, 0, none⟩ = some (i64 1) := fo 0
  have g1 : x6.cell? ⟨w.heap.size + 1, 1, none⟩ = some (i64 o.sector) := fo 1
  have g2 : x6.cell? ⟨w.heap.size + 1, 2, none⟩ = some (i64 o.offset) := fo 2
  have g3 : x6.cell? ⟨w.heap.size + 1, 3, none⟩ = some (.slice o.A o.bn o.bc) := fo 3
  have g4 : x6.cell? ⟨w.heap.size + 1, 4, none⟩ = some (i64 o.n) := fo 4
  have g5 : x6.cell? ⟨w.heap.size + 1, 5, none⟩ = some (i64 o.k) := fo 5
  have g6 : x6.cell? ⟨w.heap.size + 1, 6, none⟩ = some (bv o.mask) := fo 6
  have zo : w.heap.size + 1 < x6.heap.size := (Array.getElem?_eq_some_iff.1 lc6.out.ho).1
  clear fo
  clear lc5 hd5 hr5 b6 nn nb
  have no1 : ¬ O (w.heap.size + 1) := fun hq => by have := lim _ hq; omega
  have q0 := fun q : OutOf O x6 => out_rd z6 no6 n0 q
  have q1 := fun q : OutOf O x6 => out_rd z6 no6 n1 q
  have q2 := fun q : OutOf O x6 => out_rd z6 no6 n2 q
  have q3 := fun q : OutOf O x6 => out_rd z6 no6 n3 q
  have q4 := fun q : OutOf O x6 => out_rd z6 no6 n4 q
  have q5 := fun q : OutOf O x6 => out_rd z6 no6 n5 q
  have q6 := fun q : OutOf O x6 => out_rd z6 no6 n6 q
  have q7 := fun q : OutOf O x6 => out_rd z6 no6 n7 q
  have q8 := fun q : OutOf O x6 => out_rd z6 no6 n8 q
  have q9 := fun q : OutOf O x6 => out_rd z6 no6 n9 q
  have q10 := fun q : OutOf O x6 => out_rd z6 no6 n10 q
  have q11 := fun q : OutOf O x6 => out_rd z6 no6 n11 q
  have p1 := fun q : OutOf O x6 => out_rd zo no1 g1 q
  have HE := Lib.hid (erase_any hd6.dr (by have := h.bN.acts; omega) (by have := h.bN.offs; omega) (fun n hn => by have := h.bN.wear n hn; omega) h.bN.cut o.sector)
  rw [hea] at HE
  clear hea
  refine wp_region_po (fun w' => ∃ p : OutOf O x6, w' = p.v) 8 [3] (by kernel_rfl) (by kernel_rfl) ⟨⟨_, Out.of_below (Base.dr (Below.refl _ _))⟩, rfl⟩ ?_
  simp only [List.take_succ_cons, List.take_zero, List.drop_succ_cons, List.drop_zero]
  have on0 := @on_rd0; have on1 := @on_rd1; have on2 := @on_rd2; have on3 := @on_new1; have on4 := @on_new2; have on5 := @gr_rd0
  repeat ((with_reducible refine seq_read ?_ ?_); (focus rfl); (intro K hK); (unfold readsAt); go_simp; first | ((with_reducible refine hK _ ?_); clear hK K) | (rw [if_neg (by intro h; cases h)]; (with_reducible refine hK _ ?_); clear hK K))
  refine seq_eff (by rfl) (by first | rfl | go_simp) ?_
  intro K hK
  unfold effAt2
  go_simp
  refine ⟨rfl, HE.out.mono ?_⟩; rintro e x7 ⟨rfl, hd7, ho7⟩
  refine ⟨_, rfl, ⟨⟨_, (Out.of_below (Base.dr (Below.refl _ _))).trans ho7⟩, rfl⟩, hK _ _ ?_⟩
  clear hK K
  repeat ((with_reducible refine seq_read ?_ ?_); (focus rfl); (intro K hK); (unfold readsAt); go_simp; first | ((with_reducible refine hK _ ?_); clear hK K) | (rw [if_neg (by intro h; cases h)]; (with_reducible refine hK _ ?_); clear hK K))
  clear on0 on1 on2 on3 on4 on5
  with_reducible refine seq_nil ?_
  have ho := (Out.of_below (O := O) (Base.dr (Below.refl x6.heap.size x6))).trans ho7
  have lc7 := Lib.hid (lc6.out.on lim ho)
  have hr7 := hr6.out (ho.wide (fun k hk => .inl (.inl hk)))
  clear q0 q1 q2 q3 q4 q5 q6 q7 q8 q9 q10 q11 p1 g0 g1 g2 g3 g4 g5 g6 zo z6 n0 n1 n2 n3 n4 n5 n6 n7 n8 n9 n10 n11 lc6 hr6 hd6 ho7 HE
  have fy := cell_blk lc7.out.hz
  have y0 : x7.cell? ⟨w.heap.size + 1 + 1, 0, none⟩ = some (.int .i64 0) := fy 0
  have y1 : x7.cell? ⟨w.heap.size + 1 + 1, 1, none⟩ = some (.int .i64 0) := fy 1
  have y2 : x7.cell? ⟨w.heap.size + 1 + 1, 2, none⟩ = some (.slice none 0 0) := fy 2
  have y3 : x7.cell? ⟨w.heap.size + 1 + 1, 3, none⟩ = some (.slice none 0 0) := fy 3
  have y4 : x7.cell? ⟨w.heap.size + 1 + 1, 4, none⟩ = some (.slice none 0 0) := fy 4
  have y5 : x7.cell? ⟨w.heap.size + 1 + 1, 5, none⟩ = some (.bool false) := fy 5
  have y6 : x7.cell? ⟨w.heap.size + 1 + 1, 6, none⟩ = some (.int .i64 0) := fy 6
  have y7 : x7.cell? ⟨w.heap.size + 1 + 1, 7, none⟩ = some (.int .i64 0) := fy 7
  have y8 : x7.cell? ⟨w.heap.size + 1 + 1, 8, none⟩ = some (.bool false) := fy 8
  have y9 : x7.cell? ⟨w.heap.size + 1 + 1, 9, none⟩ = some (.int .i64 0) := fy 9
  have y10 : x7.cell? ⟨w.heap.size + 1 + 1, 10, none⟩ = some (.int .i64 0) := fy 10
  have y11 : x7.cell? ⟨w.heap.size + 1 + 1, 11, none⟩ = some (.int .u8 0) := fy 11
  have zy := fun i => frozen_blk lc7.out.hz i
  have zz : w.heap.size + 1 + 1 < x7.heap.size := (Array.getElem?_eq_some_iff.1 lc7.out.hz).1
  clear fy
  by_cases hef : ea = ef
  · subst hef
    go_wp2_with fail
    have hs12 : ((((((((((((x7.setCell ⟨w.heap.size + 1 + 1, 0, none⟩ (i64 Ma.S)).setCell ⟨w.heap.size + 1 + 1, 1, none⟩ (i64 Ma.Z)).setCell ⟨w.heap.size + 1 + 1, 2, none⟩ (.slice R'.dA Ma.S R'.dc)).setCell ⟨w.heap.size + 1 + 1, 3, none⟩ (.slice R'.wA Ma.S R'.wc)).setCell ⟨w.heap.size + 1 + 1, 4, none⟩ (.slice R'.bA Ma.S R'.bc)).setCell ⟨w.heap.size + 1 + 1, 5, none⟩ (.bool Ma.off)).setCell ⟨w.heap.size + 1 + 1, 6, none⟩ (i64 Ma.offs)).setCell ⟨w.heap.size + 1 + 1, 7, none⟩ (i64 Ma.acts)).setCell ⟨w.heap.size + 1 + 1, 8, none⟩ (.bool Ma.cut.isSome)).setCell ⟨w.heap.size + 1 + 1, 9, none⟩ (i64 R'.left)).setCell ⟨w.heap.size + 1 + 1, 10, none⟩ (i64 R'.whole)).setCell ⟨w.heap.size + 1 + 1, 11, none⟩ (.int .u8 R'.mask)) = sets x7 (w.heap.size + 1 + 1) 0 [i64 Ma.S, i64 Ma.Z, .slice R'.dA Ma.S R'.dc, .slice R'.wA Ma.S R'.wc, .slice R'.bA Ma.S R'.bc, .bool Ma.off, i64 Ma.offs, i64 Ma.acts, .bool Ma.cut.isSome, i64 R'.left, i64 R'.whole, .int .u8 R'.mask] := rfl
    rw [hs12]
    have e12 := sets_at lc7.out.hz [i64 Ma.S, i64 Ma.Z, .slice R'.dA Ma.S R'.dc, .slice R'.wA Ma.S R'.wc, .slice R'.bA Ma.S R'.bc, .bool Ma.off, i64 Ma.offs, i64 Ma.acts, .bool Ma.cut.isSome, i64 R'.left, i64 R'.whole, .int .u8 R'.mask] rfl
    have s12 := sets_out (Q := fun k => k = w.heap.size + 1 + 1) rfl [i64 Ma.S, i64 Ma.Z, .slice R'.dA Ma.S R'.dc, .slice R'.wA Ma.S R'.wc, .slice R'.bA Ma.S R'.bc, .bool Ma.off, i64 Ma.offs, i64 Ma.acts, .bool Ma.cut.isSome, i64 R'.left, i64 R'.whole, .int .u8 R'.mask] x7 x7 0 (Out.refl _ _)
    clear hs12 y0 y1 y2 y3 y4 y5 y6 y7 y8 y9 y10 y11 zy zz
    generalize sets x7 (w.heap.size + 1 + 1) 0 [i64 Ma.S, i64 Ma.Z, .slice R'.dA Ma.S R'.dc, .slice R'.wA Ma.S R'.wc, .slice R'.bA Ma.S R'.bc, .bool Ma.off, i64 Ma.offs, i64 Ma.acts, .bool Ma.cut.isSome, i64 R'.left, i64 R'.whole, .int .u8 R'.mask] = w9 at *
    have e := cell_blk e12
    have e0 : w9.cell? ⟨w.heap.size + 1 + 1, 0, none⟩ = some (i64 Ma.S) := e 0
    have e1 : w9.cell? ⟨w.heap.size + 1 + 1, 1, none⟩ = some (i64 Ma.Z) := e 1
    have e2 : w9.cell? ⟨w.heap.size + 1 + 1, 2, none⟩ = some (.slice R'.dA Ma.S R'.dc) := e 2
    have e3 : w9.cell? ⟨w.heap.size + 1 + 1, 3, none⟩ = some (.slice R'.wA Ma.S R'.wc) := e 3
    have e4 : w9.cell? ⟨w.heap.size + 1 + 1, 4, none⟩ = some (.slice R'.bA Ma.S R'.bc) := e 4
    have e5 : w9.cell? ⟨w.heap.size + 1 + 1, 5, none⟩ = some (.bool Ma.off) := e 5
    have e6 : w9.cell? ⟨w.heap.size + 1 + 1, 6, none⟩ = some (i64 Ma.offs) := e 6
    have e7 : w9.cell? ⟨w.heap.size + 1 + 1, 7, none⟩ = some (i64 Ma.acts) := e 7
    have e8 : w9.cell? ⟨w.heap.size + 1 + 1, 8, none⟩ = some (.bool Ma.cut.isSome) := e 8
    have e9 : w9.cell? ⟨w.heap.size + 1 + 1, 9, none⟩ = some (i64 R'.left) := e 9
    have e10 : w9.cell? ⟨w.heap.size + 1 + 1, 10, none⟩ = some (i64 R'.whole) := e 10
    have e11 : w9.cell? ⟨w.heap.size + 1 + 1, 11, none⟩ = some (.int .u8 R'.mask) := e 11
    have d9 := DevR.outQ (hd7) s12 (by intro k hk e; have := lim k hk; omega)
    have r9 := RefR.sub (Q := fun k => (O) k ∨ E k) (RefR.out (hr7) (s12.wide (fun k hk => .inr hk))) (fun k hk => .inl hk)
    have o9 : Out O w w9 := Out.new ((lc7.out.out.wide (Q := fun k => O k ∨ k = w.heap.size + 1 + 1) (fun k hk => .inl hk)).trans (s12.wide (fun k hk => .inr hk))) (by rintro k (hk | rfl); exact .inl hk; exact .inr (by omega))
    refine bodyPost_ret (v := .tuple #[.bool true, .agg #[i64 Ma.S, i64 Ma.Z, .slice R'.dA Ma.S R'.dc, .slice R'.wA Ma.S R'.wc, .slice R'.bA Ma.S R'.bc, .bool Ma.off, i64 Ma.offs, i64 Ma.acts, .bool Ma.cut.isSome, i64 R'.left, i64 R'.whole, .int .u8 R'.mask]]) (by simp [results, Tryz.results11, go_sem, e0, e1, e2, e3, e4, e5, e6, e7, e8, e9, e10, e11]) rfl ⟨true, R', O, 0, ?_, (fun _ => rfl), ?_, ?_, o9, (fun k hk => .inl hk), (by rw [HM5.out]; exact h.mask), (Nat.le_trans hl5 h.left)⟩
    · rw [hdoM]; rfl
    · rw [hdoN]; exact d9
    · rw [hdoM]; exact r9
  · have hne : (ea == ef) = false := by rw [beq_eq_false_iff_ne]; exact hef
    have hne2 : ((ea : Int) == (ef : Int)) = false := by rw [beq_eq_false_iff_ne]; omega
    have HS := Lib.hid hsame
    have HEF := Lib.hid hef
    clear hsame hef
    go_wp2_with fail
    have hs12 : ((((((((((((x7.setCell ⟨w.heap.size + 1 + 1, 0, none⟩ (i64 Ma.S)).setCell ⟨w.heap.size + 1 + 1, 1, none⟩ (i64 Ma.Z)).setCell ⟨w.heap.size + 1 + 1, 2, none⟩ (.slice R'.dA Ma.S R'.dc)).setCell ⟨w.heap.size + 1 + 1, 3, none⟩ (.slice R'.wA Ma.S R'.wc)).setCell ⟨w.heap.size + 1 + 1, 4, none⟩ (.slice R'.bA Ma.S R'.bc)).setCell ⟨w.heap.size + 1 + 1, 5, none⟩ (.bool Ma.off)).setCell ⟨w.heap.size + 1 + 1, 6, none⟩ (i64 Ma.offs)).setCell ⟨w.heap.size + 1 + 1, 7, none⟩ (i64 Ma.acts)).setCell ⟨w.heap.size + 1 + 1, 8, none⟩ (.bool Ma.cut.isSome)).setCell ⟨w.heap.size + 1 + 1, 9, none⟩ (i64 R'.left)).setCell ⟨w.heap.size + 1 + 1, 10, none⟩ (i64 R'.whole)).setCell ⟨w.heap.size + 1 + 1, 11, none⟩ (.int .u8 R'.mask)) = sets x7 (w.heap.size + 1 + 1) 0 [i64 Ma.S, i64 Ma.Z, .slice R'.dA Ma.S R'.dc, .slice R'.wA Ma.S R'.wc, .slice R'.bA Ma.S R'.bc, .bool Ma.off, i64 Ma.offs, i64 Ma.acts, .bool Ma.cut.isSome, i64 R'.left, i64 R'.whole, .int .u8 R'.mask] := rfl
    rw [hs12]
    have e12 := sets_at lc7.out.hz [i64 Ma.S, i64 Ma.Z, .slice R'.dA Ma.S R'.dc, .slice R'.wA Ma.S R'.wc, .slice R'.bA Ma.S R'.bc, .bool Ma.off, i64 Ma.offs, i64 Ma.acts, .bool Ma.cut.isSome, i64 R'.left, i64 R'.whole, .int .u8 R'.mask] rfl
    have s12 := sets_out (Q := fun k => k = w.heap.size + 1 + 1) rfl [i64 Ma.S, i64 Ma.Z, .slice R'.dA Ma.S R'.dc, .slice R'.wA Ma.S R'.wc, .slice R'.bA Ma.S R'.bc, .bool Ma.off, i64 Ma.offs, i64 Ma.acts, .bool Ma.cut.isSome, i64 R'.left, i64 R'.whole, .int .u8 R'.mask] x7 x7 0 (Out.refl _ _)
    clear hs12 y0 y1 y2 y3 y4 y5 y6 y7 y8 y9 y10 y11 zy zz
    generalize sets x7 (w.heap.size + 1 + 1) 0 [i64 Ma.S, i64 Ma.Z, .slice R'.dA Ma.S R'.dc, .slice R'.wA Ma.S R'.wc, .slice R'.bA Ma.S R'.bc, .bool Ma.off, i64 Ma.offs, i64 Ma.acts, .bool Ma.cut.isSome, i64 R'.left, i64 R'.whole, .int .u8 R'.mask] = w9 at *
    have e := cell_blk e12
    have e0 : w9.cell? ⟨w.heap.size + 1 + 1, 0, none⟩ = some (i64 Ma.S) := e 0
    have e1 : w9.cell? ⟨w.heap.size + 1 + 1, 1, none⟩ = some (i64 Ma.Z) := e 1
    have e2 : w9.cell? ⟨w.heap.size + 1 + 1, 2, none⟩ = some (.slice R'.dA Ma.S R'.dc) := e 2
    have e3 : w9.cell? ⟨w.heap.size + 1 + 1, 3, none⟩ = some (.slice R'.wA Ma.S R'.wc) := e 3
    have e4 : w9.cell? ⟨w.heap.size + 1 + 1, 4, none⟩ = some (.slice R'.bA Ma.S R'.bc) := e 4
    have e5 : w9.cell? ⟨w.heap.size + 1 + 1, 5, none⟩ = some (.bool Ma.off) := e 5
    have e6 : w9.cell? ⟨w.heap.size + 1 + 1, 6, none⟩ = some (i64 Ma.offs) := e 6
    have e7 : w9.cell? ⟨w.heap.size + 1 + 1, 7, none⟩ = some (i64 Ma.acts) := e 7
    have e8 : w9.cell? ⟨w.heap.size + 1 + 1, 8, none⟩ = some (.bool Ma.cut.isSome) := e 8
    have e9 : w9.cell? ⟨w.heap.size + 1 + 1, 9, none⟩ = some (i64 R'.left) := e 9
    have e10 : w9.cell? ⟨w.heap.size + 1 + 1, 10, none⟩ = some (i64 R'.whole) := e 10
    have e11 : w9.cell? ⟨w.heap.size + 1 + 1, 11, none⟩ = some (.int .u8 R'.mask) := e 11
    have d9 := DevR.outQ (hd7) s12 (by intro k hk e; have := lim k hk; omega)
    have r9 := RefR.sub (Q := fun k => (O) k ∨ E k) (RefR.out (hr7) (s12.wide (fun k hk => .inr hk))) (fun k hk => .inl hk)
    have o9 : Out O w w9 := Out.new ((lc7.out.out.wide (Q := fun k => O k ∨ k = w.heap.size + 1 + 1) (fun k hk => .inl hk)).trans (s12.wide (fun k hk => .inr hk))) (by rintro k (hk | rfl); exact .inl hk; exact .inr (by omega))
    refine bodyPost_ret (v := .tuple #[.bool false, .agg #[i64 Ma.S, i64 Ma.Z, .slice R'.dA Ma.S R'.dc, .slice R'.wA Ma.S R'.wc, .slice R'.bA Ma.S R'.bc, .bool Ma.off, i64 Ma.offs, i64 Ma.acts, .bool Ma.cut.isSome, i64 R'.left, i64 R'.whole, .int .u8 R'.mask]]) (by simp [results, Tryz.results11, go_sem, e0, e1, e2, e3, e4, e5, e6, e7, e8, e9, e10, e11]) rfl ⟨false, R', O, 0, ?_, (fun e => absurd (HS.out e) HEF.out), ?_, ?_, o9, (fun k hk => .inl hk), (by rw [HM5.out]; exact h.mask), (Nat.le_trans hl5 h.left)⟩
    · rw [hdoM]; rfl
    · rw [hdoN]; exact d9
    · rw [hdoM]; exact r9
end Go.Proofs.YtokpoogcoeodkaaGreatDoor
