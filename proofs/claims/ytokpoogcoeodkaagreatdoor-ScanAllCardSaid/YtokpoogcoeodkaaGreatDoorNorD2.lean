/- An operation of the law, kind 2. -/
import Derived.Test.YtokpoogcoeodkaaGreatDoorMg15
namespace Go.Proofs.YtokpoogcoeodkaaGreatDoor
open Go.RowKit Flo

set_option maxHeartbeats 4000000 in
set_option maxRecDepth 100000 in
theorem do2_off {O E : Nat → Prop} {w : World} {N M : Nor} {R : RV} {o : OpV} {lb : List Nat} (h : DoFit O E w N M R o lb) (hk : o.kind = 2) (hoff : M.off = true) : Calls Tryz.prog 11 #[ptrD N, R.val M, o.val] w (DoPost O E w N M o lb) := by
  have hd := h.dev
  have hop := h.op
  have lim := hd.lim
  have P0 := fun W => Lib.hid (of_any o.sector o.offset W)
  obtain ⟨pa, pb, hpl⟩ : ∃ pa pb, ofPl o.sector o.offset = (pa, pb) := ⟨_, _, rfl⟩
  rw [hpl] at P0
  simp only [] at P0
  have lc0 : Hid (Loc O w #[i64 M.S, i64 M.Z, .slice R.dA M.S R.dc, .slice R.wA M.S R.wc, .slice R.bA M.S R.bc, .bool M.off, i64 M.offs, i64 M.acts, .bool M.cut.isSome, i64 R.left, i64 R.whole, .int .u8 R.mask] #[i64 2, i64 o.sector, i64 o.offset, .slice o.A o.bn o.bc, i64 o.n, i64 o.k, bv o.mask] _) := Lib.hid (Loc.start O w _ #[i64 2, i64 o.sector, i64 o.offset, .slice o.A o.bn o.bc, i64 o.n, i64 o.k, bv o.mask])
  have hrq : RefR (fun k => (O k ∨ E k) ∨ k = w.heap.size + 1 + 1) w R M := h.ref.wider (by rintro k (hk | rfl); exact .inl hk; exact .inr (by omega))
  have limq : ∀ W : World, w.heap.size + 1 + 1 < W.heap.size → ∀ k, ((O k ∨ E k) ∨ k = w.heap.size + 1 + 1) → k < W.heap.size := by rintro W hW k ((hk | hk) | rfl); have := lim k hk; omega; have := h.limE k hk; omega; exact hW
  have hdoN : ∀ g, N.doo o lb g = N := by intro g; unfold Nor.doo; rw [if_neg (by rw [hk]; decide)]; rw [if_neg (by rw [hk]; decide)]; rw [if_pos hk]
  have hdoM : ∀ g, M.doo o lb g = M := by intro g; unfold Nor.doo; rw [if_neg (by rw [hk]; decide)]; rw [if_neg (by rw [hk]; decide)]; rw [if_pos hk]
  obtain ⟨lg, eg, hg⟩ : ∃ lg eg, N.got pa pb o.n = (lg, eg) := ⟨_, _, rfl⟩
  have HPL := Lib.hid hpl
  have HG := Lib.hid hg
  have HOFF := Lib.hid hoff
  clear hpl hg hoff
  have lb0 : Hid (Below w.heap.size w (((w.alloc (.cells #[i64 M.S, i64 M.Z, .slice R.dA M.S R.dc, .slice R.wA M.S R.wc, .slice R.bA M.S R.bc, .bool M.off, i64 M.offs, i64 M.acts, .bool M.cut.isSome, i64 R.left, i64 R.whole, .int .u8 R.mask] 33)).alloc (.cells #[i64 2, i64 o.sector, i64 o.offset, .slice o.A o.bn o.bc, i64 o.n, i64 o.k, bv o.mask] 43)).alloc (.cells #[.int .i64 0, .int .i64 0, .slice none 0 0, .slice none 0 0, .slice none 0 0, .bool false, .int .i64 0, .int .i64 0, .bool false, .int .i64 0, .int .i64 0, .int .u8 0] 33))) := Lib.hid (Base.al (Base.al (Base.al (Below.refl _ _) _) _) _)
  show Calls Tryz.prog 11 #[ptrD N, .agg #[i64 M.S, i64 M.Z, .slice R.dA M.S R.dc, .slice R.wA M.S R.wc, .slice R.bA M.S R.bc, .bool M.off, i64 M.offs, i64 M.acts, .bool M.cut.isSome, i64 R.left, i64 R.whole, .int .u8 R.mask], .agg #[i64 o.kind, i64 o.sector, i64 o.offset, .slice o.A o.bn o.bc, i64 o.n, i64 o.k, bv o.mask]] w _
  go_enter Tryz.func11, Tryz.ntmps11
  go_wp2_with fail
  refine (P0 _).out.mono ?_; rintro e x2 ⟨rfl, rfl⟩
  generalize ((w.alloc _).alloc _).alloc _ = x2 at *
  have hd2 := hd.below lb0.out
  have hr2 : RefR _ x2 R M := hrq.below lb0.out
  have limx := limq x2 (Array.getElem?_eq_some_iff.1 lc0.out.hz).1
  have fd := cell_blk lc0.out.hm
  have f0 : x2.cell? ⟨w.heap.size, 0, none⟩ = some (i64 M.S) := fd 0
  have f1 : x2.cell? ⟨w.heap.size, 1, none⟩ = some (i64 M.Z) := fd 1
  have f2 : x2.cell? ⟨w.heap.size, 2, none⟩ = some (.slice R.dA M.S R.dc) := fd 2
  have f3 : x2.cell? ⟨w.heap.size, 3, none⟩ = some (.slice R.wA M.S R.wc) := fd 3
  have f4 : x2.cell? ⟨w.heap.size, 4, none⟩ = some (.slice R.bA M.S R.bc) := fd 4
  have f5 : x2.cell? ⟨w.heap.size, 5, none⟩ = some (.bool M.off) := fd 5
  have f6 : x2.cell? ⟨w.heap.size, 6, none⟩ = some (i64 M.offs) := fd 6
  have f7 : x2.cell? ⟨w.heap.size, 7, none⟩ = some (i64 M.acts) := fd 7
  have f8 : x2.cell? ⟨w.heap.size, 8, none⟩ = some (.bool M.cut.isSome) := fd 8
  have f9 : x2.cell? ⟨w.heap.size, 9, none⟩ = some (i64 R.left) := fd 9
  have f10 : x2.cell? ⟨w.heap.size, 10, none⟩ = some (i64 R.whole) := fd 10
  have f11 : x2.cell? ⟨w.heap.size, 11, none⟩ = some (.int .u8 R.mask) := fd 11
  have zd : w.heap.size < x2.heap.size := (Array.getElem?_eq_some_iff.1 lc0.out.hm).1
  clear fd
  have fo := cell_blk lc0.out.ho
  have g0 : x2.cell? ⟨w.heap.size + 1, 0, none⟩ = some (i64 2) := fo 0
  have g1 : x2.cell? ⟨w.heap.size + 1, 1, none⟩ = some (i64 o.sector) := fo 1
  have g2 : x2.cell? ⟨w.heap.size + 1, 2, none⟩ = some (i64 o.offset) := fo 2
  have g3 : x2.cell? ⟨w.heap.size + 1, 3, none⟩ = some (.slice o.A o.bn o.bc) := fo 3
  have g4 : x2.cell? ⟨w.heap.size + 1, 4, none⟩ = some (i64 o.n) := fo 4
  have g5 : x2.cell? ⟨w.heap.size + 1, 5, none⟩ = some (i64 o.k) := fo 5
  have g6 : x2.cell? ⟨w.heap.size + 1, 6, none⟩ = some (bv o.mask) := fo 6
  have zo : w.heap.size + 1 < x2.heap.size := (Array.getElem?_eq_some_iff.1 lc0.out.ho).1
  clear fo
  have HRd := read_any hd2 pa pb o.n
  rw [HG.out] at HRd
  have HRD := Lib.hid HRd
  clear HRd limx
  go_wp2_with fail
  refine HRD.out.mono ?_; rintro e x3 ⟨v, rfl, hown, hb3⟩
  have hown : x3.ownsRow x2.heap.size 5 1 v lg.length (lg.map bv) := hown
  obtain ⟨va, vc, rfl⟩ := own_val hown
  have hvb : Byt x3 (.slice va lg.length vc) lg := by
    have := own_Sl (xs := lg.map bv) (by rw [List.length_map]; exact hown)
    rw [List.map_map] at this
    exact this
  have B3 := Lib.hid hb3
  have lc3 := Lib.hid (lc0.out.below hb3)
  clear f0 f1 f2 f3 f4 f5 f6 f7 f8 f9 f10 f11 g0 g1 g2 g3 g4 g5 g6 zd zo
  clear hb3 HRD lb0
  have hgeo := geoB_yes h.ref.geo
  have hg := HG.out
  have hoff := HOFF.out
  have hB : N = M → eg = 7 ∧ lg.length = 0 := by
    rintro rfl
    unfold Nor.got at hg
    rw [hoff] at hg
    injection hg with h1 h2
    exact ⟨h2.symm, by rw [← h1]; rfl⟩
  have HB := Lib.hid hB
  clear hB hg hown hvb
  have fd := cell_blk lc3.out.hm
  have f0 : x3.cell? ⟨w.heap.size, 0, none⟩ = some (i64 M.S) := fd 0
  have f1 : x3.cell? ⟨w.heap.size, 1, none⟩ = some (i64 M.Z) := fd 1
  have f2 : x3.cell? ⟨w.heap.size, 2, none⟩ = some (.slice R.dA M.S R.dc) := fd 2
  have f3 : x3.cell? ⟨w.heap.size, 3, none⟩ = some (.slice R.wA M.S R.wc) := fd 3
  have f4 : x3.cell? ⟨w.heap.size, 4, none⟩ = some (.slice R.bA M.S R.bc) := fd 4
  have f5 : x3.cell? ⟨w.heap.size, 5, none⟩ = some (.bool true) := by rw [← hoff]; exact fd 5
  have f6 : x3.cell? ⟨w.heap.size, 6, none⟩ = some (i64 M.offs) := fd 6
  have f7 : x3.cell? ⟨w.heap.size, 7, none⟩ = some (i64 M.acts) := fd 7
  have f8 : x3.cell? ⟨w.heap.size, 8, none⟩ = some (.bool M.cut.isSome) := fd 8
  have f9 : x3.cell? ⟨w.heap.size, 9, none⟩ = some (i64 R.left) := fd 9
  have f10 : x3.cell? ⟨w.heap.size, 10, none⟩ = some (i64 R.whole) := fd 10
  have f11 : x3.cell? ⟨w.heap.size, 11, none⟩ = some (.int .u8 R.mask) := fd 11
  have zd : w.heap.size < x3.heap.size := (Array.getElem?_eq_some_iff.1 lc3.out.hm).1
  clear fd
  go_wp2_with fail
  clear f0 f1 f2 f3 f4 f5 f6 f7 f8 f9 f10 f11 zd lc3
  by_cases h7 : eg = 7
  · subst h7
    by_cases hl0 : lg.length = 0
    · have hl1 : ((lg.length : Int) == 0) = true := by rw [beq_iff_eq]; omega
      have lcE := Lib.hid (lc0.out.below B3.out)
      have hdE := hd2.below B3.out
      have hrE := hr2.below B3.out
      have fd := cell_blk lcE.out.hm
      have f0 : x3.cell? ⟨w.heap.size, 0, none⟩ = some (i64 M.S) := fd 0
      have f1 : x3.cell? ⟨w.heap.size, 1, none⟩ = some (i64 M.Z) := fd 1
      have f2 : x3.cell? ⟨w.heap.size, 2, none⟩ = some (.slice R.dA M.S R.dc) := fd 2
      have f3 : x3.cell? ⟨w.heap.size, 3, none⟩ = some (.slice R.wA M.S R.wc) := fd 3
      have f4 : x3.cell? ⟨w.heap.size, 4, none⟩ = some (.slice R.bA M.S R.bc) := fd 4
      have f5 : x3.cell? ⟨w.heap.size, 5, none⟩ = some (.bool true) := by rw [← hoff]; exact fd 5
      have f6 : x3.cell? ⟨w.heap.size, 6, none⟩ = some (i64 M.offs) := fd 6
      have f7 : x3.cell? ⟨w.heap.size, 7, none⟩ = some (i64 M.acts) := fd 7
      have f8 : x3.cell? ⟨w.heap.size, 8, none⟩ = some (.bool M.cut.isSome) := fd 8
      have f9 : x3.cell? ⟨w.heap.size, 9, none⟩ = some (i64 R.left) := fd 9
      have f10 : x3.cell? ⟨w.heap.size, 10, none⟩ = some (i64 R.whole) := fd 10
      have f11 : x3.cell? ⟨w.heap.size, 11, none⟩ = some (.int .u8 R.mask) := fd 11
      have zd : w.heap.size < x3.heap.size := (Array.getElem?_eq_some_iff.1 lcE.out.hm).1
      clear fd
      have fy := cell_blk lcE.out.hz
      have y0 : x3.cell? ⟨w.heap.size + 1 + 1, 0, none⟩ = some (.int .i64 0) := fy 0
      have y1 : x3.cell? ⟨w.heap.size + 1 + 1, 1, none⟩ = some (.int .i64 0) := fy 1
      have y2 : x3.cell? ⟨w.heap.size + 1 + 1, 2, none⟩ = some (.slice none 0 0) := fy 2
      have y3 : x3.cell? ⟨w.heap.size + 1 + 1, 3, none⟩ = some (.slice none 0 0) := fy 3
      have y4 : x3.cell? ⟨w.heap.size + 1 + 1, 4, none⟩ = some (.slice none 0 0) := fy 4
      have y5 : x3.cell? ⟨w.heap.size + 1 + 1, 5, none⟩ = some (.bool false) := fy 5
      have y6 : x3.cell? ⟨w.heap.size + 1 + 1, 6, none⟩ = some (.int .i64 0) := fy 6
      have y7 : x3.cell? ⟨w.heap.size + 1 + 1, 7, none⟩ = some (.int .i64 0) := fy 7
      have y8 : x3.cell? ⟨w.heap.size + 1 + 1, 8, none⟩ = some (.bool false) := fy 8
      have y9 : x3.cell? ⟨w.heap.size + 1 + 1, 9, none⟩ = some (.int .i64 0) := fy 9
      have y10 : x3.cell? ⟨w.heap.size + 1 + 1, 10, none⟩ = some (.int .i64 0) := fy 10
      have y11 : x3.cell? ⟨w.heap.size + 1 + 1, 11, none⟩ = some (.int .u8 0) := fy 11
      have zy := fun i => frozen_blk lcE.out.hz i
      have zz : w.heap.size + 1 + 1 < x3.heap.size := (Array.getElem?_eq_some_iff.1 lcE.out.hz).1
      clear fy
      have q0 := fun q => on_cell (w := x3) zd f0 q
      have q1 := fun q => on_cell (w := x3) zd f1 q
      have q2 := fun q => on_cell (w := x3) zd f2 q
      have q3 := fun q => on_cell (w := x3) zd f3 q
      have q4 := fun q => on_cell (w := x3) zd f4 q
      have q5 := fun q => on_cell (w := x3) zd f5 q
      have q6 := fun q => on_cell (w := x3) zd f6 q
      have q7 := fun q => on_cell (w := x3) zd f7 q
      have q8 := fun q => on_cell (w := x3) zd f8 q
      have q9 := fun q => on_cell (w := x3) zd f9 q
      have q10 := fun q => on_cell (w := x3) zd f10 q
      have q11 := fun q => on_cell (w := x3) zd f11 q
      clear lc0 hd2 hr2
      refine wp_region_ph (D := fun w' => ∃ p : OnOf _, w' = p.v) 9 [] (by kernel_rfl) (by kernel_rfl) ⟨⟨_, Base.dr (Below.refl _ _)⟩, rfl⟩ ?_
      simp only [List.take_succ_cons, List.take_zero, List.drop_succ_cons, List.drop_zero]
      have on0 := @on_rd0; have on1 := @on_rd1; have on2 := @on_rd2; have on3 := @on_new1; have on4 := @on_new2
      repeat (first | ((with_reducible refine head_quiet ?_ ?_); (focus rfl); (intro K hK); go_simp; first | ((with_reducible refine hK _ ?_); clear hK K) | (rw [if_neg (by intro h; cases h)]; (with_reducible refine hK _ ?_); clear hK K) | (apply Exists.intro; refine ⟨fun _ => ?_, hK _ ?_⟩; (fail); clear hK K)))
      clear on0 on1 on2 on3 on4
      with_reducible refine head_nil ?_
      rintro _ rfl
      clear q0 q1 q2 q3 q4 q5 q6 q7 q8 q9 q10 q11 f0 f1 f2 f3 f4 f5 f6 f7 f8 f9 f10 f11 zd
      go_wp2_with fail
      have hs12 : ((((((((((((x3.setCell ⟨w.heap.size + 1 + 1, 0, none⟩ (i64 M.S)).setCell ⟨w.heap.size + 1 + 1, 1, none⟩ (i64 M.Z)).setCell ⟨w.heap.size + 1 + 1, 2, none⟩ (.slice R.dA M.S R.dc)).setCell ⟨w.heap.size + 1 + 1, 3, none⟩ (.slice R.wA M.S R.wc)).setCell ⟨w.heap.size + 1 + 1, 4, none⟩ (.slice R.bA M.S R.bc)).setCell ⟨w.heap.size + 1 + 1, 5, none⟩ (.bool true)).setCell ⟨w.heap.size + 1 + 1, 6, none⟩ (i64 M.offs)).setCell ⟨w.heap.size + 1 + 1, 7, none⟩ (i64 M.acts)).setCell ⟨w.heap.size + 1 + 1, 8, none⟩ (.bool M.cut.isSome)).setCell ⟨w.heap.size + 1 + 1, 9, none⟩ (i64 R.left)).setCell ⟨w.heap.size + 1 + 1, 10, none⟩ (i64 R.whole)).setCell ⟨w.heap.size + 1 + 1, 11, none⟩ (.int .u8 R.mask)) = sets x3 (w.heap.size + 1 + 1) 0 [i64 M.S, i64 M.Z, .slice R.dA M.S R.dc, .slice R.wA M.S R.wc, .slice R.bA M.S R.bc, .bool true, i64 M.offs, i64 M.acts, .bool M.cut.isSome, i64 R.left, i64 R.whole, .int .u8 R.mask] := rfl
      rw [hs12]
      have e12 := sets_at lcE.out.hz [i64 M.S, i64 M.Z, .slice R.dA M.S R.dc, .slice R.wA M.S R.wc, .slice R.bA M.S R.bc, .bool true, i64 M.offs, i64 M.acts, .bool M.cut.isSome, i64 R.left, i64 R.whole, .int .u8 R.mask] rfl
      have s12 := sets_out (Q := fun k => k = w.heap.size + 1 + 1) rfl [i64 M.S, i64 M.Z, .slice R.dA M.S R.dc, .slice R.wA M.S R.wc, .slice R.bA M.S R.bc, .bool true, i64 M.offs, i64 M.acts, .bool M.cut.isSome, i64 R.left, i64 R.whole, .int .u8 R.mask] x3 x3 0 (Out.refl _ _)
      clear hs12 y0 y1 y2 y3 y4 y5 y6 y7 y8 y9 y10 y11 zy zz
      generalize sets x3 (w.heap.size + 1 + 1) 0 [i64 M.S, i64 M.Z, .slice R.dA M.S R.dc, .slice R.wA M.S R.wc, .slice R.bA M.S R.bc, .bool true, i64 M.offs, i64 M.acts, .bool M.cut.isSome, i64 R.left, i64 R.whole, .int .u8 R.mask] = w9 at *
      have e := cell_blk e12
      have e0 : w9.cell? ⟨w.heap.size + 1 + 1, 0, none⟩ = some (i64 M.S) := e 0
      have e1 : w9.cell? ⟨w.heap.size + 1 + 1, 1, none⟩ = some (i64 M.Z) := e 1
      have e2 : w9.cell? ⟨w.heap.size + 1 + 1, 2, none⟩ = some (.slice R.dA M.S R.dc) := e 2
      have e3 : w9.cell? ⟨w.heap.size + 1 + 1, 3, none⟩ = some (.slice R.wA M.S R.wc) := e 3
      have e4 : w9.cell? ⟨w.heap.size + 1 + 1, 4, none⟩ = some (.slice R.bA M.S R.bc) := e 4
      have e5 : w9.cell? ⟨w.heap.size + 1 + 1, 5, none⟩ = some (.bool true) := e 5
      have e6 : w9.cell? ⟨w.heap.size + 1 + 1, 6, none⟩ = some (i64 M.offs) := e 6
      have e7 : w9.cell? ⟨w.heap.size + 1 + 1, 7, none⟩ = some (i64 M.acts) := e 7
      have e8 : w9.cell? ⟨w.heap.size + 1 + 1, 8, none⟩ = some (.bool M.cut.isSome) := e 8
      have e9 : w9.cell? ⟨w.heap.size + 1 + 1, 9, none⟩ = some (i64 R.left) := e 9
      have e10 : w9.cell? ⟨w.heap.size + 1 + 1, 10, none⟩ = some (i64 R.whole) := e 10
      have e11 : w9.cell? ⟨w.heap.size + 1 + 1, 11, none⟩ = some (.int .u8 R.mask) := e 11
      have d9 := DevR.outQ (hdE) s12 (by intro k hk e; have := lim k hk; omega)
      have r9 := RefR.sub (Q := fun k => (O) k ∨ E k) (RefR.out (hrE) (s12.wide (fun k hk => .inr hk))) (fun k hk => .inl hk)
      have o9 : Out O w w9 := Out.new ((lcE.out.out.wide (Q := fun k => O k ∨ k = w.heap.size + 1 + 1) (fun k hk => .inl hk)).trans (s12.wide (fun k hk => .inr hk))) (by rintro k (hk | rfl); exact .inl hk; exact .inr (by omega))
      refine bodyPost_ret (v := .tuple #[.bool true, .agg #[i64 M.S, i64 M.Z, .slice R.dA M.S R.dc, .slice R.wA M.S R.wc, .slice R.bA M.S R.bc, .bool true, i64 M.offs, i64 M.acts, .bool M.cut.isSome, i64 R.left, i64 R.whole, .int .u8 R.mask]]) (by simp [results, Tryz.results11, go_sem, e0, e1, e2, e3, e4, e5, e6, e7, e8, e9, e10, e11]) rfl ⟨true, R, O, 0, ?_, (fun _ => rfl), ?_, ?_, o9.then (Base.dr (Below.refl _ _)), (fun k hk => .inl hk), h.mask, h.left⟩
      · rw [hdoM]; simp only [RV.val, RV.cells]; rw [hoff]
      · rw [hdoN]; exact d9.dr
      · rw [hdoM]; exact r9.below (Base.dr (Below.refl _ _))
    · have hl1 : ((lg.length : Int) == 0) = false := by rw [beq_eq_false_iff_ne]; omega
      have HL0 := Lib.hid hl0
      clear hl0
      have lcE := Lib.hid (lc0.out.below B3.out)
      have hdE := hd2.below B3.out
      have hrE := hr2.below B3.out
      have fd := cell_blk lcE.out.hm
      have f0 : x3.cell? ⟨w.heap.size, 0, none⟩ = some (i64 M.S) := fd 0
      have f1 : x3.cell? ⟨w.heap.size, 1, none⟩ = some (i64 M.Z) := fd 1
      have f2 : x3.cell? ⟨w.heap.size, 2, none⟩ = some (.slice R.dA M.S R.dc) := fd 2
      have f3 : x3.cell? ⟨w.heap.size, 3, none⟩ = some (.slice R.wA M.S R.wc) := fd 3
      have f4 : x3.cell? ⟨w.heap.size, 4, none⟩ = some (.slice R.bA M.S R.bc) := fd 4
      have f5 : x3.cell? ⟨w.heap.size, 5, none⟩ = some (.bool true) := by rw [← hoff]; exact fd 5
      have f6 : x3.cell? ⟨w.heap.size, 6, none⟩ = some (i64 M.offs) := fd 6
      have f7 : x3.cell? ⟨w.heap.size, 7, none⟩ = some (i64 M.acts) := fd 7
      have f8 : x3.cell? ⟨w.heap.size, 8, none⟩ = some (.bool M.cut.isSome) := fd 8
      have f9 : x3.cell? ⟨w.heap.size, 9, none⟩ = some (i64 R.left) := fd 9
      have f10 : x3.cell? ⟨w.heap.size, 10, none⟩ = some (i64 R.whole) := fd 10
      have f11 : x3.cell? ⟨w.heap.size, 11, none⟩ = some (.int .u8 R.mask) := fd 11
      have zd : w.heap.size < x3.heap.size := (Array.getElem?_eq_some_iff.1 lcE.out.hm).1
      clear fd
      have fy := cell_blk lcE.out.hz
      have y0 : x3.cell? ⟨w.heap.size + 1 + 1, 0, none⟩ = some (.int .i64 0) := fy 0
      have y1 : x3.cell? ⟨w.heap.size + 1 + 1, 1, none⟩ = some (.int .i64 0) := fy 1
      have y2 : x3.cell? ⟨w.heap.size + 1 + 1, 2, none⟩ = some (.slice none 0 0) := fy 2
      have y3 : x3.cell? ⟨w.heap.size + 1 + 1, 3, none⟩ = some (.slice none 0 0) := fy 3
      have y4 : x3.cell? ⟨w.heap.size + 1 + 1, 4, none⟩ = some (.slice none 0 0) := fy 4
      have y5 : x3.cell? ⟨w.heap.size + 1 + 1, 5, none⟩ = some (.bool false) := fy 5
      have y6 : x3.cell? ⟨w.heap.size + 1 + 1, 6, none⟩ = some (.int .i64 0) := fy 6
      have y7 : x3.cell? ⟨w.heap.size + 1 + 1, 7, none⟩ = some (.int .i64 0) := fy 7
      have y8 : x3.cell? ⟨w.heap.size + 1 + 1, 8, none⟩ = some (.bool false) := fy 8
      have y9 : x3.cell? ⟨w.heap.size + 1 + 1, 9, none⟩ = some (.int .i64 0) := fy 9
      have y10 : x3.cell? ⟨w.heap.size + 1 + 1, 10, none⟩ = some (.int .i64 0) := fy 10
      have y11 : x3.cell? ⟨w.heap.size + 1 + 1, 11, none⟩ = some (.int .u8 0) := fy 11
      have zy := fun i => frozen_blk lcE.out.hz i
      have zz : w.heap.size + 1 + 1 < x3.heap.size := (Array.getElem?_eq_some_iff.1 lcE.out.hz).1
      clear fy
      have q0 := fun q => on_cell (w := x3) zd f0 q
      have q1 := fun q => on_cell (w := x3) zd f1 q
      have q2 := fun q => on_cell (w := x3) zd f2 q
      have q3 := fun q => on_cell (w := x3) zd f3 q
      have q4 := fun q => on_cell (w := x3) zd f4 q
      have q5 := fun q => on_cell (w := x3) zd f5 q
      have q6 := fun q => on_cell (w := x3) zd f6 q
      have q7 := fun q => on_cell (w := x3) zd f7 q
      have q8 := fun q => on_cell (w := x3) zd f8 q
      have q9 := fun q => on_cell (w := x3) zd f9 q
      have q10 := fun q => on_cell (w := x3) zd f10 q
      have q11 := fun q => on_cell (w := x3) zd f11 q
      clear lc0 hd2 hr2
      refine wp_region_ph (D := fun w' => ∃ p : OnOf _, w' = p.v) 9 [] (by kernel_rfl) (by kernel_rfl) ⟨⟨_, Base.dr (Below.refl _ _)⟩, rfl⟩ ?_
      simp only [List.take_succ_cons, List.take_zero, List.drop_succ_cons, List.drop_zero]
      have on0 := @on_rd0; have on1 := @on_rd1; have on2 := @on_rd2; have on3 := @on_new1; have on4 := @on_new2
      repeat (first | ((with_reducible refine head_quiet ?_ ?_); (focus rfl); (intro K hK); go_simp; first | ((with_reducible refine hK _ ?_); clear hK K) | (rw [if_neg (by intro h; cases h)]; (with_reducible refine hK _ ?_); clear hK K) | (apply Exists.intro; refine ⟨fun _ => ?_, hK _ ?_⟩; (fail); clear hK K)))
      clear on0 on1 on2 on3 on4
      with_reducible refine head_nil ?_
      rintro _ rfl
      clear q0 q1 q2 q3 q4 q5 q6 q7 q8 q9 q10 q11 f0 f1 f2 f3 f4 f5 f6 f7 f8 f9 f10 f11 zd
      go_wp2_with fail
      have hs12 : ((((((((((((x3.setCell ⟨w.heap.size + 1 + 1, 0, none⟩ (i64 M.S)).setCell ⟨w.heap.size + 1 + 1, 1, none⟩ (i64 M.Z)).setCell ⟨w.heap.size + 1 + 1, 2, none⟩ (.slice R.dA M.S R.dc)).setCell ⟨w.heap.size + 1 + 1, 3, none⟩ (.slice R.wA M.S R.wc)).setCell ⟨w.heap.size + 1 + 1, 4, none⟩ (.slice R.bA M.S R.bc)).setCell ⟨w.heap.size + 1 + 1, 5, none⟩ (.bool true)).setCell ⟨w.heap.size + 1 + 1, 6, none⟩ (i64 M.offs)).setCell ⟨w.heap.size + 1 + 1, 7, none⟩ (i64 M.acts)).setCell ⟨w.heap.size + 1 + 1, 8, none⟩ (.bool M.cut.isSome)).setCell ⟨w.heap.size + 1 + 1, 9, none⟩ (i64 R.left)).setCell ⟨w.heap.size + 1 + 1, 10, none⟩ (i64 R.whole)).setCell ⟨w.heap.size + 1 + 1, 11, none⟩ (.int .u8 R.mask)) = sets x3 (w.heap.size + 1 + 1) 0 [i64 M.S, i64 M.Z, .slice R.dA M.S R.dc, .slice R.wA M.S R.wc, .slice R.bA M.S R.bc, .bool true, i64 M.offs, i64 M.acts, .bool M.cut.isSome, i64 R.left, i64 R.whole, .int .u8 R.mask] := rfl
      rw [hs12]
      have e12 := sets_at lcE.out.hz [i64 M.S, i64 M.Z, .slice R.dA M.S R.dc, .slice R.wA M.S R.wc, .slice R.bA M.S R.bc, .bool true, i64 M.offs, i64 M.acts, .bool M.cut.isSome, i64 R.left, i64 R.whole, .int .u8 R.mask] rfl
      have s12 := sets_out (Q := fun k => k = w.heap.size + 1 + 1) rfl [i64 M.S, i64 M.Z, .slice R.dA M.S R.dc, .slice R.wA M.S R.wc, .slice R.bA M.S R.bc, .bool true, i64 M.offs, i64 M.acts, .bool M.cut.isSome, i64 R.left, i64 R.whole, .int .u8 R.mask] x3 x3 0 (Out.refl _ _)
      clear hs12 y0 y1 y2 y3 y4 y5 y6 y7 y8 y9 y10 y11 zy zz
      generalize sets x3 (w.heap.size + 1 + 1) 0 [i64 M.S, i64 M.Z, .slice R.dA M.S R.dc, .slice R.wA M.S R.wc, .slice R.bA M.S R.bc, .bool true, i64 M.offs, i64 M.acts, .bool M.cut.isSome, i64 R.left, i64 R.whole, .int .u8 R.mask] = w9 at *
      have e := cell_blk e12
      have e0 : w9.cell? ⟨w.heap.size + 1 + 1, 0, none⟩ = some (i64 M.S) := e 0
      have e1 : w9.cell? ⟨w.heap.size + 1 + 1, 1, none⟩ = some (i64 M.Z) := e 1
      have e2 : w9.cell? ⟨w.heap.size + 1 + 1, 2, none⟩ = some (.slice R.dA M.S R.dc) := e 2
      have e3 : w9.cell? ⟨w.heap.size + 1 + 1, 3, none⟩ = some (.slice R.wA M.S R.wc) := e 3
      have e4 : w9.cell? ⟨w.heap.size + 1 + 1, 4, none⟩ = some (.slice R.bA M.S R.bc) := e 4
      have e5 : w9.cell? ⟨w.heap.size + 1 + 1, 5, none⟩ = some (.bool true) := e 5
      have e6 : w9.cell? ⟨w.heap.size + 1 + 1, 6, none⟩ = some (i64 M.offs) := e 6
      have e7 : w9.cell? ⟨w.heap.size + 1 + 1, 7, none⟩ = some (i64 M.acts) := e 7
      have e8 : w9.cell? ⟨w.heap.size + 1 + 1, 8, none⟩ = some (.bool M.cut.isSome) := e 8
      have e9 : w9.cell? ⟨w.heap.size + 1 + 1, 9, none⟩ = some (i64 R.left) := e 9
      have e10 : w9.cell? ⟨w.heap.size + 1 + 1, 10, none⟩ = some (i64 R.whole) := e 10
      have e11 : w9.cell? ⟨w.heap.size + 1 + 1, 11, none⟩ = some (.int .u8 R.mask) := e 11
      have d9 := DevR.outQ (hdE) s12 (by intro k hk e; have := lim k hk; omega)
      have r9 := RefR.sub (Q := fun k => (O) k ∨ E k) (RefR.out (hrE) (s12.wide (fun k hk => .inr hk))) (fun k hk => .inl hk)
      have o9 : Out O w w9 := Out.new ((lcE.out.out.wide (Q := fun k => O k ∨ k = w.heap.size + 1 + 1) (fun k hk => .inl hk)).trans (s12.wide (fun k hk => .inr hk))) (by rintro k (hk | rfl); exact .inl hk; exact .inr (by omega))
      refine bodyPost_ret (v := .tuple #[.bool false, .agg #[i64 M.S, i64 M.Z, .slice R.dA M.S R.dc, .slice R.wA M.S R.wc, .slice R.bA M.S R.bc, .bool true, i64 M.offs, i64 M.acts, .bool M.cut.isSome, i64 R.left, i64 R.whole, .int .u8 R.mask]]) (by simp [results, Tryz.results11, go_sem, e0, e1, e2, e3, e4, e5, e6, e7, e8, e9, e10, e11]) rfl ⟨false, R, O, 0, ?_, (fun e => absurd (HB.out e).2 HL0.out), ?_, ?_, o9.then (Base.dr (Below.refl _ _)), (fun k hk => .inl hk), h.mask, h.left⟩
      · rw [hdoM]; simp only [RV.val, RV.cells]; rw [hoff]
      · rw [hdoN]; exact d9.dr
      · rw [hdoM]; exact r9.below (Base.dr (Below.refl _ _))
  · have hn1 : (eg == 7) = false := by rw [beq_eq_false_iff_ne]; exact h7
    have hn2 : ((eg : Int) == 7) = false := by rw [beq_eq_false_iff_ne]; omega
    have H7 := Lib.hid h7
    clear h7
    have lcE := Lib.hid (lc0.out.below B3.out)
    have hdE := hd2.below B3.out
    have hrE := hr2.below B3.out
    have fd := cell_blk lcE.out.hm
    have f0 : x3.cell? ⟨w.heap.size, 0, none⟩ = some (i64 M.S) := fd 0
    have f1 : x3.cell? ⟨w.heap.size, 1, none⟩ = some (i64 M.Z) := fd 1
    have f2 : x3.cell? ⟨w.heap.size, 2, none⟩ = some (.slice R.dA M.S R.dc) := fd 2
    have f3 : x3.cell? ⟨w.heap.size, 3, none⟩ = some (.slice R.wA M.S R.wc) := fd 3
    have f4 : x3.cell? ⟨w.heap.size, 4, none⟩ = some (.slice R.bA M.S R.bc) := fd 4
    have f5 : x3.cell? ⟨w.heap.size, 5, none⟩ = some (.bool true) := by rw [← hoff]; exact fd 5
    have f6 : x3.cell? ⟨w.heap.size, 6, none⟩ = some (i64 M.offs) := fd 6
    have f7 : x3.cell? ⟨w.heap.size, 7, none⟩ = some (i64 M.acts) := fd 7
    have f8 : x3.cell? ⟨w.heap.size, 8, none⟩ = some (.bool M.cut.isSome) := fd 8
    have f9 : x3.cell? ⟨w.heap.size, 9, none⟩ = some (i64 R.left) := fd 9
    have f10 : x3.cell? ⟨w.heap.size, 10, none⟩ = some (i64 R.whole) := fd 10
    have f11 : x3.cell? ⟨w.heap.size, 11, none⟩ = some (.int .u8 R.mask) := fd 11
    have zd : w.heap.size < x3.heap.size := (Array.getElem?_eq_some_iff.1 lcE.out.hm).1
    clear fd
    have fy := cell_blk lcE.out.hz
    have y0 : x3.cell? ⟨w.heap.size + 1 + 1, 0, none⟩ = some (.int .i64 0) := fy 0
    have y1 : x3.cell? ⟨w.heap.size + 1 + 1, 1, none⟩ = some (.int .i64 0) := fy 1
    have y2 : x3.cell? ⟨w.heap.size + 1 + 1, 2, none⟩ = some (.slice none 0 0) := fy 2
    have y3 : x3.cell? ⟨w.heap.size + 1 + 1, 3, none⟩ = some (.slice none 0 0) := fy 3
    have y4 : x3.cell? ⟨w.heap.size + 1 + 1, 4, none⟩ = some (.slice none 0 0) := fy 4
    have y5 : x3.cell? ⟨w.heap.size + 1 + 1, 5, none⟩ = some (.bool false) := fy 5
    have y6 : x3.cell? ⟨w.heap.size + 1 + 1, 6, none⟩ = some (.int .i64 0) := fy 6
    have y7 : x3.cell? ⟨w.heap.size + 1 + 1, 7, none⟩ = some (.int .i64 0) := fy 7
    have y8 : x3.cell? ⟨w.heap.size + 1 + 1, 8, none⟩ = some (.bool false) := fy 8
    have y9 : x3.cell? ⟨w.heap.size + 1 + 1, 9, none⟩ = some (.int .i64 0) := fy 9
    have y10 : x3.cell? ⟨w.heap.size + 1 + 1, 10, none⟩ = some (.int .i64 0) := fy 10
    have y11 : x3.cell? ⟨w.heap.size + 1 + 1, 11, none⟩ = some (.int .u8 0) := fy 11
    have zy := fun i => frozen_blk lcE.out.hz i
    have zz : w.heap.size + 1 + 1 < x3.heap.size := (Array.getElem?_eq_some_iff.1 lcE.out.hz).1
    clear fy
    have q0 := fun q => on_cell (w := x3) zd f0 q
    have q1 := fun q => on_cell (w := x3) zd f1 q
    have q2 := fun q => on_cell (w := x3) zd f2 q
    have q3 := fun q => on_cell (w := x3) zd f3 q
    have q4 := fun q => on_cell (w := x3) zd f4 q
    have q5 := fun q => on_cell (w := x3) zd f5 q
    have q6 := fun q => on_cell (w := x3) zd f6 q
    have q7 := fun q => on_cell (w := x3) zd f7 q
    have q8 := fun q => on_cell (w := x3) zd f8 q
    have q9 := fun q => on_cell (w := x3) zd f9 q
    have q10 := fun q => on_cell (w := x3) zd f10 q
    have q11 := fun q => on_cell (w := x3) zd f11 q
    clear lc0 hd2 hr2
    refine wp_region_ph (D := fun w' => ∃ p : OnOf _, w' = p.v) 9 [] (by kernel_rfl) (by kernel_rfl) ⟨⟨_, Base.dr (Below.refl _ _)⟩, rfl⟩ ?_
    simp only [List.take_succ_cons, List.take_zero, List.drop_succ_cons, List.drop_zero]
    have on0 := @on_rd0; have on1 := @on_rd1; have on2 := @on_rd2; have on3 := @on_new1; have on4 := @on_new2
    repeat (first | ((with_reducible refine head_quiet ?_ ?_); (focus rfl); (intro K hK); go_simp; first | ((with_reducible refine hK _ ?_); clear hK K) | (rw [if_neg (by intro h; cases h)]; (with_reducible refine hK _ ?_); clear hK K) | (apply Exists.intro; refine ⟨fun _ => ?_, hK _ ?_⟩; (fail); clear hK K)))
    clear on0 on1 on2 on3 on4
    with_reducible refine head_nil ?_
    rintro _ rfl
    clear q0 q1 q2 q3 q4 q5 q6 q7 q8 q9 q10 q11 f0 f1 f2 f3 f4 f5 f6 f7 f8 f9 f10 f11 zd
    go_wp2_with fail
    have hs12 : ((((((((((((x3.setCell ⟨w.heap.size + 1 + 1, 0, none⟩ (i64 M.S)).setCell ⟨w.heap.size + 1 + 1, 1, none⟩ (i64 M.Z)).setCell ⟨w.heap.size + 1 + 1, 2, none⟩ (.slice R.dA M.S R.dc)).setCell ⟨w.heap.size + 1 + 1, 3, none⟩ (.slice R.wA M.S R.wc)).setCell ⟨w.heap.size + 1 + 1, 4, none⟩ (.slice R.bA M.S R.bc)).setCell ⟨w.heap.size + 1 + 1, 5, none⟩ (.bool true)).setCell ⟨w.heap.size + 1 + 1, 6, none⟩ (i64 M.offs)).setCell ⟨w.heap.size + 1 + 1, 7, none⟩ (i64 M.acts)).setCell ⟨w.heap.size + 1 + 1, 8, none⟩ (.bool M.cut.isSome)).setCell ⟨w.heap.size + 1 + 1, 9, none⟩ (i64 R.left)).setCell ⟨w.heap.size + 1 + 1, 10, none⟩ (i64 R.whole)).setCell ⟨w.heap.size + 1 + 1, 11, none⟩ (.int .u8 R.mask)) = sets x3 (w.heap.size + 1 + 1) 0 [i64 M.S, i64 M.Z, .slice R.dA M.S R.dc, .slice R.wA M.S R.wc, .slice R.bA M.S R.bc, .bool true, i64 M.offs, i64 M.acts, .bool M.cut.isSome, i64 R.left, i64 R.whole, .int .u8 R.mask] := rfl
    rw [hs12]
    have e12 := sets_at lcE.out.hz [i64 M.S, i64 M.Z, .slice R.dA M.S R.dc, .slice R.wA M.S R.wc, .slice R.bA M.S R.bc, .bool true, i64 M.offs, i64 M.acts, .bool M.cut.isSome, i64 R.left, i64 R.whole, .int .u8 R.mask] rfl
    have s12 := sets_out (Q := fun k => k = w.heap.size + 1 + 1) rfl [i64 M.S, i64 M.Z, .slice R.dA M.S R.dc, .slice R.wA M.S R.wc, .slice R.bA M.S R.bc, .bool true, i64 M.offs, i64 M.acts, .bool M.cut.isSome, i64 R.left, i64 R.whole, .int .u8 R.mask] x3 x3 0 (Out.refl _ _)
    clear hs12 y0 y1 y2 y3 y4 y5 y6 y7 y8 y9 y10 y11 zy zz
    generalize sets x3 (w.heap.size + 1 + 1) 0 [i64 M.S, i64 M.Z, .slice R.dA M.S R.dc, .slice R.wA M.S R.wc, .slice R.bA M.S R.bc, .bool true, i64 M.offs, i64 M.acts, .bool M.cut.isSome, i64 R.left, i64 R.whole, .int .u8 R.mask] = w9 at *
    have e := cell_blk e12
    have e0 : w9.cell? ⟨w.heap.size + 1 + 1, 0, none⟩ = some (i64 M.S) := e 0
    have e1 : w9.cell? ⟨w.heap.size + 1 + 1, 1, none⟩ = some (i64 M.Z) := e 1
    have e2 : w9.cell? ⟨w.heap.size + 1 + 1, 2, none⟩ = some (.slice R.dA M.S R.dc) := e 2
    have e3 : w9.cell? ⟨w.heap.size + 1 + 1, 3, none⟩ = some (.slice R.wA M.S R.wc) := e 3
    have e4 : w9.cell? ⟨w.heap.size + 1 + 1, 4, none⟩ = some (.slice R.bA M.S R.bc) := e 4
    have e5 : w9.cell? ⟨w.heap.size + 1 + 1, 5, none⟩ = some (.bool true) := e 5
    have e6 : w9.cell? ⟨w.heap.size + 1 + 1, 6, none⟩ = some (i64 M.offs) := e 6
    have e7 : w9.cell? ⟨w.heap.size + 1 + 1, 7, none⟩ = some (i64 M.acts) := e 7
    have e8 : w9.cell? ⟨w.heap.size + 1 + 1, 8, none⟩ = some (.bool M.cut.isSome) := e 8
    have e9 : w9.cell? ⟨w.heap.size + 1 + 1, 9, none⟩ = some (i64 R.left) := e 9
    have e10 : w9.cell? ⟨w.heap.size + 1 + 1, 10, none⟩ = some (i64 R.whole) := e 10
    have e11 : w9.cell? ⟨w.heap.size + 1 + 1, 11, none⟩ = some (.int .u8 R.mask) := e 11
    have d9 := DevR.outQ (hdE) s12 (by intro k hk e; have := lim k hk; omega)
    have r9 := RefR.sub (Q := fun k => (O) k ∨ E k) (RefR.out (hrE) (s12.wide (fun k hk => .inr hk))) (fun k hk => .inl hk)
    have o9 : Out O w w9 := Out.new ((lcE.out.out.wide (Q := fun k => O k ∨ k = w.heap.size + 1 + 1) (fun k hk => .inl hk)).trans (s12.wide (fun k hk => .inr hk))) (by rintro k (hk | rfl); exact .inl hk; exact .inr (by omega))
    refine bodyPost_ret (v := .tuple #[.bool false, .agg #[i64 M.S, i64 M.Z, .slice R.dA M.S R.dc, .slice R.wA M.S R.wc, .slice R.bA M.S R.bc, .bool true, i64 M.offs, i64 M.acts, .bool M.cut.isSome, i64 R.left, i64 R.whole, .int .u8 R.mask]]) (by simp [results, Tryz.results11, go_sem, e0, e1, e2, e3, e4, e5, e6, e7, e8, e9, e10, e11]) rfl ⟨false, R, O, 0, ?_, (fun e => absurd (HB.out e).1 H7.out), ?_, ?_, o9.then (Base.dr (Below.refl _ _)), (fun k hk => .inl hk), h.mask, h.left⟩
    · rw [hdoM]; simp only [RV.val, RV.cells]; rw [hoff]
    · rw [hdoN]; exact d9.dr
    · rw [hdoM]; exact r9.below (Base.dr (Below.refl _ _))
end Go.Proofs.YtokpoogcoeodkaaGreatDoor
