/- The document's device erased. -/
import Derived.Test.YtokpoogcoeodkaaGreatDoorNorY
namespace Go.Proofs.YtokpoogcoeodkaaGreatDoor
open Go.RowKit Flo

theorem RefR.wear' {O : Nat → Prop} {w W : World} {R : RV} {N : Nor} (h : RefR O w R N) (hb : Below w.heap.size w W) {g cp k x : Nat} {C : List Value}
    (hg : W.heap[g]? = some (Obj.cells C.toArray 3 (0, 0))) (hC : C.take N.S = (N.wear.set k x).map fun n : Nat => i64 n) (n1 : ¬ O g) (hc : N.S ≤ cp) (hm : cp ≤ maxLen) :
    RefR O W { R with wA := some ⟨g, 0, none⟩, wc := cp } { N with wear := N.wear.set k x } := by
  have hw := h.below hb
  refine { hw with wear := ?_, wfar := (by intro b off n c e; injection e with e; injection e with e; injection e with e; rw [← e]; exact n1), wl := by rw [List.length_set]; exact h.wl }
  have := Sl.of_blk hg hC (by rw [List.length_map, List.length_set]; exact h.wl) hc hm
  rw [List.map_map] at this
  show Sl _ _ _ _
  rw [List.map_map]
  exact this
theorem Two.start4 (w : World) (D Zc : Array Value) (E F : Obj) (hZ : Zc = #[.int .i64 0, .int .i64 0, .slice none 0 0, .slice none 0 0, .slice none 0 0, .bool false, .int .i64 0, .int .i64 0, .bool false, .int .i64 0, .int .i64 0, .int .u8 0]) :
    Two w D ((((w.alloc (.cells D 33)).alloc (.cells Zc 33)).alloc E).alloc F).drew ∧ ((((w.alloc (.cells D 33)).alloc (.cells Zc 33)).alloc E).alloc F).drew.heap[w.heap.size + 1 + 1 + 1]? = some F := by
  subst hZ
  exact ⟨⟨blk_old (blk_old (blk_old (blk_new w _))), blk_old (blk_old (blk_new1 w _ _)), Base.dr (Base.al (Base.al (Base.al (Base.al (Below.refl _ _) _) _) _) _)⟩, blk_new3 w _ _ _ _⟩

set_option maxHeartbeats 4000000 in
set_option maxRecDepth 100000 in
theorem rerase_any {O : Nat → Prop} {w : World} {R : RV} {M : Nor} (h : RefR O w R M) (lim : ∀ k, O k → k < w.heap.size) (h1 : M.acts ≤ 1000000) (h2 : M.offs ≤ 1000000) (h3 : ∀ n ∈ M.wear, n ≤ 1000000) (hm8 : R.mask < 256) (hcm3 : R.left ≤ 9223372036854775807) (s : Int) :
    Calls Tryz.prog 31 #[R.val M, i64 s] w (RefPost O w R (M.erase s)) := by
  have hg := geoB_yes h.geo
  have st0 := Lib.hid (Two.start w (R.cells M))
  unfold RefPost
  unfold RV.cells at st0
  cases hoff : M.off
  case true =>
    have hv : M.erase s = (7, M) := by unfold Nor.erase; rw [hoff]; rfl
    rw [hv]
    rw [hoff] at st0
    clear hv
    unfold RV.val RV.cells
    rw [hoff]
    go_enter Tryz.func31, Tryz.ntmps31
    go_wp2_with fail
    generalize (w.alloc _).alloc _ = w2 at *
    have fd := cell_blk st0.out.hd
    have f0 : w2.cell? ⟨w.heap.size, 0, none⟩ = some (i64 M.S) := fd 0
    have f1 : w2.cell? ⟨w.heap.size, 1, none⟩ = some (i64 M.Z) := fd 1
    have f2 : w2.cell? ⟨w.heap.size, 2, none⟩ = some (.slice R.dA M.S R.dc) := fd 2
    have f3 : w2.cell? ⟨w.heap.size, 3, none⟩ = some (.slice R.wA M.S R.wc) := fd 3
    have f4 : w2.cell? ⟨w.heap.size, 4, none⟩ = some (.slice R.bA M.S R.bc) := fd 4
    have f5 : w2.cell? ⟨w.heap.size, 5, none⟩ = some (.bool true) := fd 5
    have f6 : w2.cell? ⟨w.heap.size, 6, none⟩ = some (i64 M.offs) := fd 6
    have f7 : w2.cell? ⟨w.heap.size, 7, none⟩ = some (i64 M.acts) := fd 7
    have f8 : w2.cell? ⟨w.heap.size, 8, none⟩ = some (.bool M.cut.isSome) := fd 8
    have f9 : w2.cell? ⟨w.heap.size, 9, none⟩ = some (i64 R.left) := fd 9
    have f10 : w2.cell? ⟨w.heap.size, 10, none⟩ = some (i64 R.whole) := fd 10
    have f11 : w2.cell? ⟨w.heap.size, 11, none⟩ = some (.int .u8 R.mask) := fd 11
    have zd : w.heap.size < w2.heap.size := (Array.getElem?_eq_some_iff.1 st0.out.hd).1
    clear fd
    have fy := cell_blk st0.out.hz
    have y0 : w2.cell? ⟨w.heap.size + 1, 0, none⟩ = some (.int .i64 0) := fy 0
    have y1 : w2.cell? ⟨w.heap.size + 1, 1, none⟩ = some (.int .i64 0) := fy 1
    have y2 : w2.cell? ⟨w.heap.size + 1, 2, none⟩ = some (.slice none 0 0) := fy 2
    have y3 : w2.cell? ⟨w.heap.size + 1, 3, none⟩ = some (.slice none 0 0) := fy 3
    have y4 : w2.cell? ⟨w.heap.size + 1, 4, none⟩ = some (.slice none 0 0) := fy 4
    have y5 : w2.cell? ⟨w.heap.size + 1, 5, none⟩ = some (.bool false) := fy 5
    have y6 : w2.cell? ⟨w.heap.size + 1, 6, none⟩ = some (.int .i64 0) := fy 6
    have y7 : w2.cell? ⟨w.heap.size + 1, 7, none⟩ = some (.int .i64 0) := fy 7
    have y8 : w2.cell? ⟨w.heap.size + 1, 8, none⟩ = some (.bool false) := fy 8
    have y9 : w2.cell? ⟨w.heap.size + 1, 9, none⟩ = some (.int .i64 0) := fy 9
    have y10 : w2.cell? ⟨w.heap.size + 1, 10, none⟩ = some (.int .i64 0) := fy 10
    have y11 : w2.cell? ⟨w.heap.size + 1, 11, none⟩ = some (.int .u8 0) := fy 11
    have zy := fun i => frozen_blk st0.out.hz i
    have zz : w.heap.size + 1 < w2.heap.size := (Array.getElem?_eq_some_iff.1 st0.out.hz).1
    clear fy
    have q0 := fun q => on_cell (w := w2) zd f0 q
    have q1 := fun q => on_cell (w := w2) zd f1 q
    have q2 := fun q => on_cell (w := w2) zd f2 q
    have q3 := fun q => on_cell (w := w2) zd f3 q
    have q4 := fun q => on_cell (w := w2) zd f4 q
    have q5 := fun q => on_cell (w := w2) zd f5 q
    have q6 := fun q => on_cell (w := w2) zd f6 q
    have q7 := fun q => on_cell (w := w2) zd f7 q
    have q8 := fun q => on_cell (w := w2) zd f8 q
    have q9 := fun q => on_cell (w := w2) zd f9 q
    have q10 := fun q => on_cell (w := w2) zd f10 q
    have q11 := fun q => on_cell (w := w2) zd f11 q
    refine wp_region_ph (D := fun w' => ∃ p : OnOf _, w' = p.v) 2 [] (by kernel_rfl) (by kernel_rfl) ⟨⟨_, Base.dr (Below.refl _ _)⟩, rfl⟩ ?_
    simp only [List.take_succ_cons, List.take_zero, List.drop_succ_cons, List.drop_zero]
    have on0 := @on_rd0; have on1 := @on_rd1; have on2 := @on_rd2; have on3 := @on_new1; have on4 := @on_new2
    repeat (first | ((with_reducible refine head_quiet ?_ ?_); (focus rfl); (intro K hK); go_simp; first | ((with_reducible refine hK _ ?_); clear hK K) | (rw [if_neg (by intro h; cases h)]; (with_reducible refine hK _ ?_); clear hK K) | (apply Exists.intro; refine ⟨fun _ => ?_, hK _ ?_⟩; (fail); clear hK K)))
    clear on0 on1 on2 on3 on4
    with_reducible refine head_nil ?_
    rintro _ rfl
    clear q0 q1 q2 q3 q4 q5 q6 q7 q8 q9 q10 q11
    go_wp2_with fail
    have hs12 : ((((((((((((w2.setCell ⟨w.heap.size + 1, 0, none⟩ (i64 M.S)).setCell ⟨w.heap.size + 1, 1, none⟩ (i64 M.Z)).setCell ⟨w.heap.size + 1, 2, none⟩ (.slice R.dA M.S R.dc)).setCell ⟨w.heap.size + 1, 3, none⟩ (.slice R.wA M.S R.wc)).setCell ⟨w.heap.size + 1, 4, none⟩ (.slice R.bA M.S R.bc)).setCell ⟨w.heap.size + 1, 5, none⟩ (.bool true)).setCell ⟨w.heap.size + 1, 6, none⟩ (i64 M.offs)).setCell ⟨w.heap.size + 1, 7, none⟩ (i64 M.acts)).setCell ⟨w.heap.size + 1, 8, none⟩ (.bool M.cut.isSome)).setCell ⟨w.heap.size + 1, 9, none⟩ (i64 R.left)).setCell ⟨w.heap.size + 1, 10, none⟩ (i64 R.whole)).setCell ⟨w.heap.size + 1, 11, none⟩ (.int .u8 R.mask)) = sets w2 (w.heap.size + 1) 0 [i64 M.S, i64 M.Z, .slice R.dA M.S R.dc, .slice R.wA M.S R.wc, .slice R.bA M.S R.bc, .bool true, i64 M.offs, i64 M.acts, .bool M.cut.isSome, i64 R.left, i64 R.whole, .int .u8 R.mask] := rfl
    rw [hs12]
    have e12 := sets_at st0.out.hz [i64 M.S, i64 M.Z, .slice R.dA M.S R.dc, .slice R.wA M.S R.wc, .slice R.bA M.S R.bc, .bool true, i64 M.offs, i64 M.acts, .bool M.cut.isSome, i64 R.left, i64 R.whole, .int .u8 R.mask] rfl
    have b12 := sets_below (Nat.le_succ _) [i64 M.S, i64 M.Z, .slice R.dA M.S R.dc, .slice R.wA M.S R.wc, .slice R.bA M.S R.bc, .bool true, i64 M.offs, i64 M.acts, .bool M.cut.isSome, i64 R.left, i64 R.whole, .int .u8 R.mask] _ 0 st0.out.below
    clear hs12 f0 f1 f2 f3 f4 f5 f6 f7 f8 f9 f10 f11 y0 y1 y2 y3 y4 y5 y6 y7 y8 y9 y10 y11 zy zz zd
    generalize sets w2 (w.heap.size + 1) 0 [i64 M.S, i64 M.Z, .slice R.dA M.S R.dc, .slice R.wA M.S R.wc, .slice R.bA M.S R.bc, .bool true, i64 M.offs, i64 M.acts, .bool M.cut.isSome, i64 R.left, i64 R.whole, .int .u8 R.mask] = w6 at *
    have e := cell_blk e12
    have e0 : w6.cell? ⟨w.heap.size + 1, 0, none⟩ = some (i64 M.S) := e 0
    have e1 : w6.cell? ⟨w.heap.size + 1, 1, none⟩ = some (i64 M.Z) := e 1
    have e2 : w6.cell? ⟨w.heap.size + 1, 2, none⟩ = some (.slice R.dA M.S R.dc) := e 2
    have e3 : w6.cell? ⟨w.heap.size + 1, 3, none⟩ = some (.slice R.wA M.S R.wc) := e 3
    have e4 : w6.cell? ⟨w.heap.size + 1, 4, none⟩ = some (.slice R.bA M.S R.bc) := e 4
    have e5 : w6.cell? ⟨w.heap.size + 1, 5, none⟩ = some (.bool true) := e 5
    have e6 : w6.cell? ⟨w.heap.size + 1, 6, none⟩ = some (i64 M.offs) := e 6
    have e7 : w6.cell? ⟨w.heap.size + 1, 7, none⟩ = some (i64 M.acts) := e 7
    have e8 : w6.cell? ⟨w.heap.size + 1, 8, none⟩ = some (.bool M.cut.isSome) := e 8
    have e9 : w6.cell? ⟨w.heap.size + 1, 9, none⟩ = some (i64 R.left) := e 9
    have e10 : w6.cell? ⟨w.heap.size + 1, 10, none⟩ = some (i64 R.whole) := e 10
    have e11 : w6.cell? ⟨w.heap.size + 1, 11, none⟩ = some (.int .u8 R.mask) := e 11
    exact bodyPost_ret (v := .tuple #[i64 7, .agg #[i64 M.S, i64 M.Z, .slice R.dA M.S R.dc, .slice R.wA M.S R.wc, .slice R.bA M.S R.bc, .bool true, i64 M.offs, i64 M.acts, .bool M.cut.isSome, i64 R.left, i64 R.whole, .int .u8 R.mask]]) (by simp [results, Tryz.results31, go_sem, e0, e1, e2, e3, e4, e5, e6, e7, e8, e9, e10, e11]) rfl ⟨R, by rfl, h.below (Base.dr b12), Base.dr b12, rfl, Nat.le_refl _⟩
  case false =>
    rw [hoff] at st0
    by_cases hin : s < 0 ∨ (M.S : Int) ≤ s
    · have hv : M.erase s = (1, M) := by unfold Nor.erase; rw [hoff, if_neg (by decide), if_pos hin]
      rw [hv]
      clear hv
      unfold RV.val RV.cells
      rw [hoff]
      rcases hin with hin | hin
      all_goals
        have hnn : s < 0 ∨ ¬ s < 0 := by omega
        go_enter Tryz.func31, Tryz.ntmps31
        go_wp2_with fail
        all_goals first
          | (exfalso; omega)
          | skip
        all_goals
          generalize (w.alloc _).alloc _ = w2 at *
          have fd := cell_blk st0.out.hd
          have f0 : w2.cell? ⟨w.heap.size, 0, none⟩ = some (i64 M.S) := fd 0
          have f1 : w2.cell? ⟨w.heap.size, 1, none⟩ = some (i64 M.Z) := fd 1
          have f2 : w2.cell? ⟨w.heap.size, 2, none⟩ = some (.slice R.dA M.S R.dc) := fd 2
          have f3 : w2.cell? ⟨w.heap.size, 3, none⟩ = some (.slice R.wA M.S R.wc) := fd 3
          have f4 : w2.cell? ⟨w.heap.size, 4, none⟩ = some (.slice R.bA M.S R.bc) := fd 4
          have f5 : w2.cell? ⟨w.heap.size, 5, none⟩ = some (.bool false) := fd 5
          have f6 : w2.cell? ⟨w.heap.size, 6, none⟩ = some (i64 M.offs) := fd 6
          have f7 : w2.cell? ⟨w.heap.size, 7, none⟩ = some (i64 M.acts) := fd 7
          have f8 : w2.cell? ⟨w.heap.size, 8, none⟩ = some (.bool M.cut.isSome) := fd 8
          have f9 : w2.cell? ⟨w.heap.size, 9, none⟩ = some (i64 R.left) := fd 9
          have f10 : w2.cell? ⟨w.heap.size, 10, none⟩ = some (i64 R.whole) := fd 10
          have f11 : w2.cell? ⟨w.heap.size, 11, none⟩ = some (.int .u8 R.mask) := fd 11
          have zd : w.heap.size < w2.heap.size := (Array.getElem?_eq_some_iff.1 st0.out.hd).1
          clear fd
          have fy := cell_blk st0.out.hz
          have y0 : w2.cell? ⟨w.heap.size + 1, 0, none⟩ = some (.int .i64 0) := fy 0
          have y1 : w2.cell? ⟨w.heap.size + 1, 1, none⟩ = some (.int .i64 0) := fy 1
          have y2 : w2.cell? ⟨w.heap.size + 1, 2, none⟩ = some (.slice none 0 0) := fy 2
          have y3 : w2.cell? ⟨w.heap.size + 1, 3, none⟩ = some (.slice none 0 0) := fy 3
          have y4 : w2.cell? ⟨w.heap.size + 1, 4, none⟩ = some (.slice none 0 0) := fy 4
          have y5 : w2.cell? ⟨w.heap.size + 1, 5, none⟩ = some (.bool false) := fy 5
          have y6 : w2.cell? ⟨w.heap.size + 1, 6, none⟩ = some (.int .i64 0) := fy 6
          have y7 : w2.cell? ⟨w.heap.size + 1, 7, none⟩ = some (.int .i64 0) := fy 7
          have y8 : w2.cell? ⟨w.heap.size + 1, 8, none⟩ = some (.bool false) := fy 8
          have y9 : w2.cell? ⟨w.heap.size + 1, 9, none⟩ = some (.int .i64 0) := fy 9
          have y10 : w2.cell? ⟨w.heap.size + 1, 10, none⟩ = some (.int .i64 0) := fy 10
          have y11 : w2.cell? ⟨w.heap.size + 1, 11, none⟩ = some (.int .u8 0) := fy 11
          have zy := fun i => frozen_blk st0.out.hz i
          have zz : w.heap.size + 1 < w2.heap.size := (Array.getElem?_eq_some_iff.1 st0.out.hz).1
          clear fy
          have q0 := fun q => on_cell (w := w2) zd f0 q
          have q1 := fun q => on_cell (w := w2) zd f1 q
          have q2 := fun q => on_cell (w := w2) zd f2 q
          have q3 := fun q => on_cell (w := w2) zd f3 q
          have q4 := fun q => on_cell (w := w2) zd f4 q
          have q5 := fun q => on_cell (w := w2) zd f5 q
          have q6 := fun q => on_cell (w := w2) zd f6 q
          have q7 := fun q => on_cell (w := w2) zd f7 q
          have q8 := fun q => on_cell (w := w2) zd f8 q
          have q9 := fun q => on_cell (w := w2) zd f9 q
          have q10 := fun q => on_cell (w := w2) zd f10 q
          have q11 := fun q => on_cell (w := w2) zd f11 q
          refine wp_region_ph (D := fun w' => ∃ p : OnOf _, w' = p.v) 2 [] (by kernel_rfl) (by kernel_rfl) ⟨⟨_, Base.dr (Below.refl _ _)⟩, rfl⟩ ?_
          simp only [List.take_succ_cons, List.take_zero, List.drop_succ_cons, List.drop_zero]
          have on0 := @on_rd0; have on1 := @on_rd1; have on2 := @on_rd2; have on3 := @on_new1; have on4 := @on_new2
          repeat (first | ((with_reducible refine head_quiet ?_ ?_); (focus rfl); (intro K hK); go_simp; first | ((with_reducible refine hK _ ?_); clear hK K) | (rw [if_neg (by intro h; cases h)]; (with_reducible refine hK _ ?_); clear hK K) | (apply Exists.intro; refine ⟨fun _ => ?_, hK _ ?_⟩; (fail); clear hK K)))
          clear on0 on1 on2 on3 on4
          with_reducible refine head_nil ?_
          rintro _ rfl
          clear q0 q1 q2 q3 q4 q5 q6 q7 q8 q9 q10 q11
          go_wp2_with fail
          have hs12 : ((((((((((((w2.setCell ⟨w.heap.size + 1, 0, none⟩ (i64 M.S)).setCell ⟨w.heap.size + 1, 1, none⟩ (i64 M.Z)).setCell ⟨w.heap.size + 1, 2, none⟩ (.slice R.dA M.S R.dc)).setCell ⟨w.heap.size + 1, 3, none⟩ (.slice R.wA M.S R.wc)).setCell ⟨w.heap.size + 1, 4, none⟩ (.slice R.bA M.S R.bc)).setCell ⟨w.heap.size + 1, 5, none⟩ (.bool false)).setCell ⟨w.heap.size + 1, 6, none⟩ (i64 M.offs)).setCell ⟨w.heap.size + 1, 7, none⟩ (i64 M.acts)).setCell ⟨w.heap.size + 1, 8, none⟩ (.bool M.cut.isSome)).setCell ⟨w.heap.size + 1, 9, none⟩ (i64 R.left)).setCell ⟨w.heap.size + 1, 10, none⟩ (i64 R.whole)).setCell ⟨w.heap.size + 1, 11, none⟩ (.int .u8 R.mask)) = sets w2 (w.heap.size + 1) 0 [i64 M.S, i64 M.Z, .slice R.dA M.S R.dc, .slice R.wA M.S R.wc, .slice R.bA M.S R.bc, .bool false, i64 M.offs, i64 M.acts, .bool M.cut.isSome, i64 R.left, i64 R.whole, .int .u8 R.mask] := rfl
          rw [hs12]
          have e12 := sets_at st0.out.hz [i64 M.S, i64 M.Z, .slice R.dA M.S R.dc, .slice R.wA M.S R.wc, .slice R.bA M.S R.bc, .bool false, i64 M.offs, i64 M.acts, .bool M.cut.isSome, i64 R.left, i64 R.whole, .int .u8 R.mask] rfl
          have b12 := sets_below (Nat.le_succ _) [i64 M.S, i64 M.Z, .slice R.dA M.S R.dc, .slice R.wA M.S R.wc, .slice R.bA M.S R.bc, .bool false, i64 M.offs, i64 M.acts, .bool M.cut.isSome, i64 R.left, i64 R.whole, .int .u8 R.mask] _ 0 st0.out.below
          clear hs12 f0 f1 f2 f3 f4 f5 f6 f7 f8 f9 f10 f11 y0 y1 y2 y3 y4 y5 y6 y7 y8 y9 y10 y11 zy zz zd
          generalize sets w2 (w.heap.size + 1) 0 [i64 M.S, i64 M.Z, .slice R.dA M.S R.dc, .slice R.wA M.S R.wc, .slice R.bA M.S R.bc, .bool false, i64 M.offs, i64 M.acts, .bool M.cut.isSome, i64 R.left, i64 R.whole, .int .u8 R.mask] = w6 at *
          have e := cell_blk e12
          have e0 : w6.cell? ⟨w.heap.size + 1, 0, none⟩ = some (i64 M.S) := e 0
          have e1 : w6.cell? ⟨w.heap.size + 1, 1, none⟩ = some (i64 M.Z) := e 1
          have e2 : w6.cell? ⟨w.heap.size + 1, 2, none⟩ = some (.slice R.dA M.S R.dc) := e 2
          have e3 : w6.cell? ⟨w.heap.size + 1, 3, none⟩ = some (.slice R.wA M.S R.wc) := e 3
          have e4 : w6.cell? ⟨w.heap.size + 1, 4, none⟩ = some (.slice R.bA M.S R.bc) := e 4
          have e5 : w6.cell? ⟨w.heap.size + 1, 5, none⟩ = some (.bool false) := e 5
          have e6 : w6.cell? ⟨w.heap.size + 1, 6, none⟩ = some (i64 M.offs) := e 6
          have e7 : w6.cell? ⟨w.heap.size + 1, 7, none⟩ = some (i64 M.acts) := e 7
          have e8 : w6.cell? ⟨w.heap.size + 1, 8, none⟩ = some (.bool M.cut.isSome) := e 8
          have e9 : w6.cell? ⟨w.heap.size + 1, 9, none⟩ = some (i64 R.left) := e 9
          have e10 : w6.cell? ⟨w.heap.size + 1, 10, none⟩ = some (i64 R.whole) := e 10
          have e11 : w6.cell? ⟨w.heap.size + 1, 11, none⟩ = some (.int .u8 R.mask) := e 11
          exact bodyPost_ret (v := .tuple #[i64 1, .agg #[i64 M.S, i64 M.Z, .slice R.dA M.S R.dc, .slice R.wA M.S R.wc, .slice R.bA M.S R.bc, .bool false, i64 M.offs, i64 M.acts, .bool M.cut.isSome, i64 R.left, i64 R.whole, .int .u8 R.mask]]) (by simp [results, Tryz.results31, go_sem, e0, e1, e2, e3, e4, e5, e6, e7, e8, e9, e10, e11]) rfl ⟨R, by rfl, h.below (Base.dr b12), Base.dr b12, rfl, Nat.le_refl _⟩
    · obtain ⟨k, rfl⟩ : ∃ k : Nat, s = k := ⟨s.toNat, by omega⟩
      have hk : k < M.S := by omega
      have hpv : M.erase k = if M.isBad k then (8, M) else Nor.act { M with wear := M.wear.set k (M.wear.getD k 0 + 1) } k 0 M.Z (rUpd (List.replicate M.Z 0) false) := by unfold Nor.erase; rw [hoff, if_neg (by decide), if_neg hin]; rfl
      have HPV := Lib.hid hpv
      have t1 : ¬ ((k : Int) < 0) := by omega
      have t2 : ¬ ((M.S : Int) ≤ k) := by omega
      obtain ⟨ad, hbA, hbl, hbc⟩ := h.badAt k hk
      obtain ⟨wad, hwA⟩ := h.wear.some (by omega)
      have hwd := h.wear
      rw [hwA] at hwd
      have hwl : M.wear.length = M.S := h.wl
      have hsrc : ∀ W, Below w.heap.size w W → ∀ j u, (M.wear.map fun n : Nat => i64 n)[j]? = some u → W.cell? (wad.add j) = some u := by
        intro W hW j u hj
        have := Sl.src1 (w := W) (ad := wad) (n := M.S) (cap := R.wc) (xs := M.wear.map fun n : Nat => i64 n) (by have := Sl.below hwd hW; rw [List.map_map] at this ⊢; exact this) j u hj
        exact this
      have hbc2 : ∀ X Y, ((w.alloc X).alloc Y).cell? (ad.add k) = some (.bool (M.isBad k)) := by
        intro X Y
        rw [(Base.al (Base.al (Below.refl _ w) X) Y).cell (by rw [block_add]; exact hbl)]
        exact hbc
      clear hpv hin hbc
      obtain ⟨i2, hi, hz0, hz1, hz2⟩ := info_parts info_intE
      obtain ⟨i4, d0, d1, d2, d3⟩ := info_parts info_u8E
      unfold RV.val RV.cells
      rw [hoff, hbA, hwA]
      rw [hbA, hwA] at st0
      cases hbad : M.isBad k
      · have HBAD := Lib.hid hbad
        simp only [hbad] at hbc2
        clear hbad
        go_enter Tryz.func31, Tryz.ntmps31
        go_wp2_with (at_builtin; refine wpList_append_fresh _ rfl _ _ 30 rfl 3 i2 _ Tryz.underlying30 hi hz0 hz1 ?c2 ⟨w.heap.size + 1 + 1, 0, none⟩ rfl wad M.S R.wc (M.wear.map fun n : Nat => i64 n) rfl (by rw [List.length_map]; exact hwl) ?c1 ?c3 (hsrc _ (Base.al (Base.al (Base.al (Below.refl _ _) _) _) _)) ?_)
        case c1 => omega
        case c3 => omega
        intro cp junk hcp hcm
        obtain ⟨C, hC⟩ : ∃ C, (M.wear.map fun n : Nat => i64 n) ++ junk = C := ⟨_, rfl⟩
        rw [hC]
        have hCt : C.take M.S = M.wear.map fun n : Nat => i64 n := by rw [← hC]; exact List.take_left' (by rw [List.length_map]; exact hwl)
        have hkw : k < M.wear.length := by omega
        obtain ⟨x, hx⟩ : ∃ x, M.wear[k]? = some x := ⟨_, List.getElem?_eq_getElem hkw⟩
        have hck : C[k]? = some (i64 x) := by rw [← hC, List.getElem?_append_left (by rw [List.length_map]; exact hkw), List.getElem?_map, hx]; rfl
        have hxb : x ≤ 1000000 := h3 _ (List.mem_of_getElem? hx)
        have hgx : M.wear.getD k 0 = x := by rw [List.getD_eq_getElem?_getD, hx]; rfl
        rw [hgx] at HPV
        have hset : (C.set k (.int .i64 ((x : Int) + 1))).take M.S = (M.wear.set k (x + 1)).map fun n : Nat => i64 n := by rw [List.take_set, hCt, List.map_set]; rfl
        have HSET := Lib.hid hset
        clear hC hCt hset hsrc hbc2 hgx hx hkw st0 h3 hwl
        go_wp2_with fail
        have st3 : Hid (Two w #[i64 M.S, i64 M.Z, .slice R.dA M.S R.dc, .slice (some ⟨w.heap.size + 1 + 1 + 1, 0, none⟩) M.S cp, .slice (some ad) M.S R.bc, .bool false, i64 M.offs, i64 M.acts, .bool M.cut.isSome, i64 R.left, i64 R.whole, .int .u8 R.mask] _ ∧ _) := Lib.hid (Two.start4 w _ _ (.cells #[] 3) (.cells (C.set k (.int .i64 ((x : Int) + 1))).toArray 3) rfl)
        generalize ((((w.alloc _).alloc _).alloc _).alloc _).drew = w3 at *
        have fd := cell_blk st3.out.1.hd
        have f0 : w3.cell? ⟨w.heap.size, 0, none⟩ = some (i64 M.S) := fd 0
        have f1 : w3.cell? ⟨w.heap.size, 1, none⟩ = some (i64 M.Z) := fd 1
        have f2 : w3.cell? ⟨w.heap.size, 2, none⟩ = some (.slice R.dA M.S R.dc) := fd 2
        have f3 : w3.cell? ⟨w.heap.size, 3, none⟩ = some (.slice (some ⟨w.heap.size + 1 + 1 + 1, 0, none⟩) M.S cp) := fd 3
        have f4 : w3.cell? ⟨w.heap.size, 4, none⟩ = some (.slice (some ad) M.S R.bc) := fd 4
        have f5 : w3.cell? ⟨w.heap.size, 5, none⟩ = some (.bool false) := fd 5
        have f6 : w3.cell? ⟨w.heap.size, 6, none⟩ = some (i64 M.offs) := fd 6
        have f7 : w3.cell? ⟨w.heap.size, 7, none⟩ = some (i64 M.acts) := fd 7
        have f8 : w3.cell? ⟨w.heap.size, 8, none⟩ = some (.bool M.cut.isSome) := fd 8
        have f9 : w3.cell? ⟨w.heap.size, 9, none⟩ = some (i64 R.left) := fd 9
        have f10 : w3.cell? ⟨w.heap.size, 10, none⟩ = some (i64 R.whole) := fd 10
        have f11 : w3.cell? ⟨w.heap.size, 11, none⟩ = some (.int .u8 R.mask) := fd 11
        have zd : w.heap.size < w3.heap.size := (Array.getElem?_eq_some_iff.1 st3.out.1.hd).1
        clear fd
        have q0 := fun q => on_cell (w := w3) zd f0 q
        have q1 := fun q => on_cell (w := w3) zd f1 q
        have q2 := fun q => on_cell (w := w3) zd f2 q
        have q3 := fun q => on_cell (w := w3) zd f3 q
        have q4 := fun q => on_cell (w := w3) zd f4 q
        have q5 := fun q => on_cell (w := w3) zd f5 q
        have q6 := fun q => on_cell (w := w3) zd f6 q
        have q7 := fun q => on_cell (w := w3) zd f7 q
        have q8 := fun q => on_cell (w := w3) zd f8 q
        have q9 := fun q => on_cell (w := w3) zd f9 q
        have q10 := fun q => on_cell (w := w3) zd f10 q
        have q11 := fun q => on_cell (w := w3) zd f11 q
        have b3 := st3.out.1.below
        have z3 : w.heap.size + 1 < w3.heap.size := (Array.getElem?_eq_some_iff.1 st3.out.1.hz).1
        have hr3 := (h.wider (Q := fun k => O k ∨ k = w.heap.size + 1) (by rintro k (hk | rfl); exact .inl hk; exact .inr (Nat.le_succ _)))
        have hr4 := hr3.wear' b3 st3.out.2 HSET.out (by rintro (hq | hq); have := lim _ hq; omega; omega) hcp hcm
        have hmk := fun W => run_make (P := Tryz.prog) W 38 5 i4 _ Tryz.underlying38 d0 d1 .i64 .i64 (M.Z : Int) (M.Z : Int) (by omega) (Int.le_refl _) (by rw [d3]; omega) (by omega)
        have hmz : madeCells (Value.int IntKind.u8 0).cells (M.Z * i4.size) = ((List.replicate M.Z (0 : Nat)).map bv).toArray := by
          rw [d2, Nat.mul_one]
          show madeCells #[Value.int .u8 0] M.Z = _
          unfold madeCells
          apply Array.ext'
          apply List.ext_getElem
          · simp
          · intro i h1 h2
            simp [Nat.mod_one]
        have hN : ((M.Z : Int)).toNat = M.Z := by omega
        rw [hN, hmz] at hmk
        clear hN hmz
        have HA := fun (W : World) (hW : Below w3.heap.size w3 W) (hbz : Byt W (.slice (some ⟨w3.heap.size, 0, none⟩) M.Z M.Z) (List.replicate M.Z 0)) => Lib.hid (ract_any (hr4.below hW) (by rintro k (hk | rfl); exact Nat.lt_of_lt_of_le (lim k hk) (Nat.le_trans b3.size hW.size); exact Nat.lt_of_lt_of_le z3 hW.size) hoff h1 h2 k 0 hk (some ⟨w3.heap.size, 0, none⟩) M.Z M.Z (List.replicate M.Z 0) hbz (by intro x hx; rw [(List.mem_replicate.1 hx).2]; decide) (by simp) false hm8 hcm3)
        obtain ⟨ea, Na, hea⟩ : ∃ ea Na, Nor.act { M with wear := M.wear.set k (x + 1) } k 0 M.Z (rUpd (List.replicate M.Z 0) false) = (ea, Na) := ⟨_, _, rfl⟩
        rw [hea] at HA HPV
        unfold RV.val RV.cells at HA
        simp only [] at HA
        rw [hoff, hbA] at HA
        clear hea hr3
        refine wp_region_po (fun w' => ∃ p : OnOf w3, w' = p.v) 10 [5, 6] (by kernel_rfl) (by kernel_rfl) ⟨⟨_, Base.dr (Below.refl _ _)⟩, rfl⟩ ?_
        simp only [List.take_succ_cons, List.take_zero, List.drop_succ_cons, List.drop_zero]
        have on0 := @on_rd0; have on1 := @on_rd1; have on2 := @on_rd2; have on3 := @on_new1; have on4 := @on_new2; have on5 := @gr_rd0
        repeat ((with_reducible refine seq_read ?_ ?_); (focus rfl); (intro K hK); (unfold readsAt); go_simp; first | ((with_reducible refine hK _ ?_); clear hK K) | (rw [if_neg (by intro h; cases h)]; (with_reducible refine hK _ ?_); clear hK K))
        refine seq_eff (by rfl) (by first | rfl | go_simp) ?_
        intro K hK
        unfold effAt2
        go_simp
        refine ⟨⟨⟨_, Base.al (Base.dr (Below.refl _ _)) _⟩, rfl⟩, hK _ _ ?_⟩
        clear hK K
        repeat ((with_reducible refine seq_read ?_ ?_); (focus rfl); (intro K hK); (unfold readsAt); go_simp; first | ((with_reducible refine hK _ ?_); clear hK K) | (rw [if_neg (by intro h; cases h)]; (with_reducible refine hK _ ?_); clear hK K))
        refine seq_eff (by rfl) (by first | rfl | go_simp) ?_
        intro K hK
        unfold effAt2
        go_simp
        have hza : Array.replicate M.Z (bv 0) = ((List.replicate M.Z (0 : Nat)).map bv).toArray := by
          apply Array.ext'
          simp
        have hbz : Byt (w3.alloc (.cells (Array.replicate M.Z (bv 0)) 5)).drew (.slice (some ⟨w3.heap.size, 0, none⟩) M.Z M.Z) (List.replicate M.Z 0) := by
          rw [hza]
          have := Sl.below (Byt.fresh (l := List.replicate M.Z 0) (blk_new w3 (.cells ((List.replicate M.Z (0 : Nat)).map bv).toArray 5)) (by simp; omega)) (Base.dr (Below.refl _ _))
          rw [List.length_replicate] at this
          exact this
        clear hza
        refine ⟨rfl, (HA _ (Base.dr (Base.al (Below.refl _ _) _)) hbz).out.mono ?_⟩; rintro e x5 ⟨R', rfl, hr5, hb5, hm5, hl5⟩
        refine ⟨_, rfl, ⟨⟨_, Base.tr (Base.dr (Base.al (Below.refl _ _) _)) hb5⟩, rfl⟩, hK _ _ ?_⟩
        clear hK K
        repeat ((with_reducible refine seq_read ?_ ?_); (focus rfl); (intro K hK); (unfold readsAt); go_simp; first | ((with_reducible refine hK _ ?_); clear hK K) | (rw [if_neg (by intro h; cases h)]; (with_reducible refine hK _ ?_); clear hK K))
        clear on0 on1 on2 on3 on4 on5
        with_reducible refine seq_nil ?_
        have st5 := Lib.hid ((st3.out.1.on (Base.dr (Base.al (Below.refl _ _) _))).on hb5)
        clear q0 q1 q2 q3 q4 q5 q6 q7 q8 q9 q10 q11 f0 f1 f2 f3 f4 f5 f6 f7 f8 f9 f10 f11 zd st3 HA hmk hr4
        have fy := cell_blk st5.out.hz
        have y0 : x5.cell? ⟨w.heap.size + 1, 0, none⟩ = some (.int .i64 0) := fy 0
        have y1 : x5.cell? ⟨w.heap.size + 1, 1, none⟩ = some (.int .i64 0) := fy 1
        have y2 : x5.cell? ⟨w.heap.size + 1, 2, none⟩ = some (.slice none 0 0) := fy 2
        have y3 : x5.cell? ⟨w.heap.size + 1, 3, none⟩ = some (.slice none 0 0) := fy 3
        have y4 : x5.cell? ⟨w.heap.size + 1, 4, none⟩ = some (.slice none 0 0) := fy 4
        have y5 : x5.cell? ⟨w.heap.size + 1, 5, none⟩ = some (.bool false) := fy 5
        have y6 : x5.cell? ⟨w.heap.size + 1, 6, none⟩ = some (.int .i64 0) := fy 6
        have y7 : x5.cell? ⟨w.heap.size + 1, 7, none⟩ = some (.int .i64 0) := fy 7
        have y8 : x5.cell? ⟨w.heap.size + 1, 8, none⟩ = some (.bool false) := fy 8
        have y9 : x5.cell? ⟨w.heap.size + 1, 9, none⟩ = some (.int .i64 0) := fy 9
        have y10 : x5.cell? ⟨w.heap.size + 1, 10, none⟩ = some (.int .i64 0) := fy 10
        have y11 : x5.cell? ⟨w.heap.size + 1, 11, none⟩ = some (.int .u8 0) := fy 11
        have zy := fun i => frozen_blk st5.out.hz i
        have zz : w.heap.size + 1 < x5.heap.size := (Array.getElem?_eq_some_iff.1 st5.out.hz).1
        clear fy
        go_wp2_with fail
        have hs12 : ((((((((((((x5.setCell ⟨w.heap.size + 1, 0, none⟩ (i64 Na.S)).setCell ⟨w.heap.size + 1, 1, none⟩ (i64 Na.Z)).setCell ⟨w.heap.size + 1, 2, none⟩ (.slice R'.dA Na.S R'.dc)).setCell ⟨w.heap.size + 1, 3, none⟩ (.slice R'.wA Na.S R'.wc)).setCell ⟨w.heap.size + 1, 4, none⟩ (.slice R'.bA Na.S R'.bc)).setCell ⟨w.heap.size + 1, 5, none⟩ (.bool Na.off)).setCell ⟨w.heap.size + 1, 6, none⟩ (i64 Na.offs)).setCell ⟨w.heap.size + 1, 7, none⟩ (i64 Na.acts)).setCell ⟨w.heap.size + 1, 8, none⟩ (.bool Na.cut.isSome)).setCell ⟨w.heap.size + 1, 9, none⟩ (i64 R'.left)).setCell ⟨w.heap.size + 1, 10, none⟩ (i64 R'.whole)).setCell ⟨w.heap.size + 1, 11, none⟩ (.int .u8 R.mask)) = sets x5 (w.heap.size + 1) 0 [i64 Na.S, i64 Na.Z, .slice R'.dA Na.S R'.dc, .slice R'.wA Na.S R'.wc, .slice R'.bA Na.S R'.bc, .bool Na.off, i64 Na.offs, i64 Na.acts, .bool Na.cut.isSome, i64 R'.left, i64 R'.whole, .int .u8 R.mask] := rfl
        rw [hs12]
        have e12 := sets_at st5.out.hz [i64 Na.S, i64 Na.Z, .slice R'.dA Na.S R'.dc, .slice R'.wA Na.S R'.wc, .slice R'.bA Na.S R'.bc, .bool Na.off, i64 Na.offs, i64 Na.acts, .bool Na.cut.isSome, i64 R'.left, i64 R'.whole, .int .u8 R.mask] rfl
        have b12 := sets_below (Nat.le_succ _) [i64 Na.S, i64 Na.Z, .slice R'.dA Na.S R'.dc, .slice R'.wA Na.S R'.wc, .slice R'.bA Na.S R'.bc, .bool Na.off, i64 Na.offs, i64 Na.acts, .bool Na.cut.isSome, i64 R'.left, i64 R'.whole, .int .u8 R.mask] _ 0 st5.out.below
        have r12 := RefR.sub (Q := O) (hr5.out (sets_out (g := w.heap.size + 1) (Or.inr rfl) [i64 Na.S, i64 Na.Z, .slice R'.dA Na.S R'.dc, .slice R'.wA Na.S R'.wc, .slice R'.bA Na.S R'.bc, .bool Na.off, i64 Na.offs, i64 Na.acts, .bool Na.cut.isSome, i64 R'.left, i64 R'.whole, .int .u8 R.mask] _ _ 0 (Out.refl _ _))) (fun k hk => .inl hk)
        clear hs12 y0 y1 y2 y3 y4 y5 y6 y7 y8 y9 y10 y11 zy zz
        generalize sets x5 (w.heap.size + 1) 0 [i64 Na.S, i64 Na.Z, .slice R'.dA Na.S R'.dc, .slice R'.wA Na.S R'.wc, .slice R'.bA Na.S R'.bc, .bool Na.off, i64 Na.offs, i64 Na.acts, .bool Na.cut.isSome, i64 R'.left, i64 R'.whole, .int .u8 R.mask] = w6 at *
        have e := cell_blk e12
        have e0 : w6.cell? ⟨w.heap.size + 1, 0, none⟩ = some (i64 Na.S) := e 0
        have e1 : w6.cell? ⟨w.heap.size + 1, 1, none⟩ = some (i64 Na.Z) := e 1
        have e2 : w6.cell? ⟨w.heap.size + 1, 2, none⟩ = some (.slice R'.dA Na.S R'.dc) := e 2
        have e3 : w6.cell? ⟨w.heap.size + 1, 3, none⟩ = some (.slice R'.wA Na.S R'.wc) := e 3
        have e4 : w6.cell? ⟨w.heap.size + 1, 4, none⟩ = some (.slice R'.bA Na.S R'.bc) := e 4
        have e5 : w6.cell? ⟨w.heap.size + 1, 5, none⟩ = some (.bool Na.off) := e 5
        have e6 : w6.cell? ⟨w.heap.size + 1, 6, none⟩ = some (i64 Na.offs) := e 6
        have e7 : w6.cell? ⟨w.heap.size + 1, 7, none⟩ = some (i64 Na.acts) := e 7
        have e8 : w6.cell? ⟨w.heap.size + 1, 8, none⟩ = some (.bool Na.cut.isSome) := e 8
        have e9 : w6.cell? ⟨w.heap.size + 1, 9, none⟩ = some (i64 R'.left) := e 9
        have e10 : w6.cell? ⟨w.heap.size + 1, 10, none⟩ = some (i64 R'.whole) := e 10
        have e11 : w6.cell? ⟨w.heap.size + 1, 11, none⟩ = some (.int .u8 R.mask) := e 11
        refine bodyPost_ret (v := .tuple #[i64 ea, .agg #[i64 Na.S, i64 Na.Z, .slice R'.dA Na.S R'.dc, .slice R'.wA Na.S R'.wc, .slice R'.bA Na.S R'.bc, .bool Na.off, i64 Na.offs, i64 Na.acts, .bool Na.cut.isSome, i64 R'.left, i64 R'.whole, .int .u8 R.mask]]) (by simp [results, Tryz.results31, go_sem, e0, e1, e2, e3, e4, e5, e6, e7, e8, e9, e10, e11]) rfl ⟨R', ?_, ?_, b12, hm5, hl5⟩
        · rw [HPV.out, HBAD.out]; show _ = Ending.returned (.tuple #[i64 ea, R'.val Na]); simp only [RV.val, RV.cells]; rw [hm5]
        · rw [HPV.out, HBAD.out]; exact r12
      · have HBAD := Lib.hid hbad
        simp only [hbad] at hbc2
        clear hbad
        go_enter Tryz.func31, Tryz.ntmps31
        go_wp2_with fail
        generalize (w.alloc _).alloc _ = w2 at *
        have fd := cell_blk st0.out.hd
        have f0 : w2.cell? ⟨w.heap.size, 0, none⟩ = some (i64 M.S) := fd 0
        have f1 : w2.cell? ⟨w.heap.size, 1, none⟩ = some (i64 M.Z) := fd 1
        have f2 : w2.cell? ⟨w.heap.size, 2, none⟩ = some (.slice R.dA M.S R.dc) := fd 2
        have f3 : w2.cell? ⟨w.heap.size, 3, none⟩ = some (.slice (some wad) M.S R.wc) := fd 3
        have f4 : w2.cell? ⟨w.heap.size, 4, none⟩ = some (.slice (some ad) M.S R.bc) := fd 4
        have f5 : w2.cell? ⟨w.heap.size, 5, none⟩ = some (.bool false) := fd 5
        have f6 : w2.cell? ⟨w.heap.size, 6, none⟩ = some (i64 M.offs) := fd 6
        have f7 : w2.cell? ⟨w.heap.size, 7, none⟩ = some (i64 M.acts) := fd 7
        have f8 : w2.cell? ⟨w.heap.size, 8, none⟩ = some (.bool M.cut.isSome) := fd 8
        have f9 : w2.cell? ⟨w.heap.size, 9, none⟩ = some (i64 R.left) := fd 9
        have f10 : w2.cell? ⟨w.heap.size, 10, none⟩ = some (i64 R.whole) := fd 10
        have f11 : w2.cell? ⟨w.heap.size, 11, none⟩ = some (.int .u8 R.mask) := fd 11
        have zd : w.heap.size < w2.heap.size := (Array.getElem?_eq_some_iff.1 st0.out.hd).1
        clear fd
        have fy := cell_blk st0.out.hz
        have y0 : w2.cell? ⟨w.heap.size + 1, 0, none⟩ = some (.int .i64 0) := fy 0
        have y1 : w2.cell? ⟨w.heap.size + 1, 1, none⟩ = some (.int .i64 0) := fy 1
        have y2 : w2.cell? ⟨w.heap.size + 1, 2, none⟩ = some (.slice none 0 0) := fy 2
        have y3 : w2.cell? ⟨w.heap.size + 1, 3, none⟩ = some (.slice none 0 0) := fy 3
        have y4 : w2.cell? ⟨w.heap.size + 1, 4, none⟩ = some (.slice none 0 0) := fy 4
        have y5 : w2.cell? ⟨w.heap.size + 1, 5, none⟩ = some (.bool false) := fy 5
        have y6 : w2.cell? ⟨w.heap.size + 1, 6, none⟩ = some (.int .i64 0) := fy 6
        have y7 : w2.cell? ⟨w.heap.size + 1, 7, none⟩ = some (.int .i64 0) := fy 7
        have y8 : w2.cell? ⟨w.heap.size + 1, 8, none⟩ = some (.bool false) := fy 8
        have y9 : w2.cell? ⟨w.heap.size + 1, 9, none⟩ = some (.int .i64 0) := fy 9
        have y10 : w2.cell? ⟨w.heap.size + 1, 10, none⟩ = some (.int .i64 0) := fy 10
        have y11 : w2.cell? ⟨w.heap.size + 1, 11, none⟩ = some (.int .u8 0) := fy 11
        have zy := fun i => frozen_blk st0.out.hz i
        have zz : w.heap.size + 1 < w2.heap.size := (Array.getElem?_eq_some_iff.1 st0.out.hz).1
        clear fy
        have q0 := fun q => on_cell (w := w2) zd f0 q
        have q1 := fun q => on_cell (w := w2) zd f1 q
        have q2 := fun q => on_cell (w := w2) zd f2 q
        have q3 := fun q => on_cell (w := w2) zd f3 q
        have q4 := fun q => on_cell (w := w2) zd f4 q
        have q5 := fun q => on_cell (w := w2) zd f5 q
        have q6 := fun q => on_cell (w := w2) zd f6 q
        have q7 := fun q => on_cell (w := w2) zd f7 q
        have q8 := fun q => on_cell (w := w2) zd f8 q
        have q9 := fun q => on_cell (w := w2) zd f9 q
        have q10 := fun q => on_cell (w := w2) zd f10 q
        have q11 := fun q => on_cell (w := w2) zd f11 q
        refine wp_region_ph (D := fun w' => ∃ p : OnOf _, w' = p.v) 2 [] (by kernel_rfl) (by kernel_rfl) ⟨⟨_, Base.dr (Below.refl _ _)⟩, rfl⟩ ?_
        simp only [List.take_succ_cons, List.take_zero, List.drop_succ_cons, List.drop_zero]
        have on0 := @on_rd0; have on1 := @on_rd1; have on2 := @on_rd2; have on3 := @on_new1; have on4 := @on_new2
        repeat (first | ((with_reducible refine head_quiet ?_ ?_); (focus rfl); (intro K hK); go_simp; first | ((with_reducible refine hK _ ?_); clear hK K) | (rw [if_neg (by intro h; cases h)]; (with_reducible refine hK _ ?_); clear hK K) | (apply Exists.intro; refine ⟨fun _ => ?_, hK _ ?_⟩; (fail); clear hK K)))
        clear on0 on1 on2 on3 on4
        with_reducible refine head_nil ?_
        rintro _ rfl
        clear q0 q1 q2 q3 q4 q5 q6 q7 q8 q9 q10 q11
        go_wp2_with fail
        have hs12 : ((((((((((((w2.setCell ⟨w.heap.size + 1, 0, none⟩ (i64 M.S)).setCell ⟨w.heap.size + 1, 1, none⟩ (i64 M.Z)).setCell ⟨w.heap.size + 1, 2, none⟩ (.slice R.dA M.S R.dc)).setCell ⟨w.heap.size + 1, 3, none⟩ (.slice (some wad) M.S R.wc)).setCell ⟨w.heap.size + 1, 4, none⟩ (.slice (some ad) M.S R.bc)).setCell ⟨w.heap.size + 1, 5, none⟩ (.bool false)).setCell ⟨w.heap.size + 1, 6, none⟩ (i64 M.offs)).setCell ⟨w.heap.size + 1, 7, none⟩ (i64 M.acts)).setCell ⟨w.heap.size + 1, 8, none⟩ (.bool M.cut.isSome)).setCell ⟨w.heap.size + 1, 9, none⟩ (i64 R.left)).setCell ⟨w.heap.size + 1, 10, none⟩ (i64 R.whole)).setCell ⟨w.heap.size + 1, 11, none⟩ (.int .u8 R.mask)) = sets w2 (w.heap.size + 1) 0 [i64 M.S, i64 M.Z, .slice R.dA M.S R.dc, .slice (some wad) M.S R.wc, .slice (some ad) M.S R.bc, .bool false, i64 M.offs, i64 M.acts, .bool M.cut.isSome, i64 R.left, i64 R.whole, .int .u8 R.mask] := rfl
        rw [hs12]
        have e12 := sets_at st0.out.hz [i64 M.S, i64 M.Z, .slice R.dA M.S R.dc, .slice (some wad) M.S R.wc, .slice (some ad) M.S R.bc, .bool false, i64 M.offs, i64 M.acts, .bool M.cut.isSome, i64 R.left, i64 R.whole, .int .u8 R.mask] rfl
        have b12 := sets_below (Nat.le_succ _) [i64 M.S, i64 M.Z, .slice R.dA M.S R.dc, .slice (some wad) M.S R.wc, .slice (some ad) M.S R.bc, .bool false, i64 M.offs, i64 M.acts, .bool M.cut.isSome, i64 R.left, i64 R.whole, .int .u8 R.mask] _ 0 st0.out.below
        clear hs12 f0 f1 f2 f3 f4 f5 f6 f7 f8 f9 f10 f11 y0 y1 y2 y3 y4 y5 y6 y7 y8 y9 y10 y11 zy zz zd
        generalize sets w2 (w.heap.size + 1) 0 [i64 M.S, i64 M.Z, .slice R.dA M.S R.dc, .slice (some wad) M.S R.wc, .slice (some ad) M.S R.bc, .bool false, i64 M.offs, i64 M.acts, .bool M.cut.isSome, i64 R.left, i64 R.whole, .int .u8 R.mask] = w6 at *
        have e := cell_blk e12
        have e0 : w6.cell? ⟨w.heap.size + 1, 0, none⟩ = some (i64 M.S) := e 0
        have e1 : w6.cell? ⟨w.heap.size + 1, 1, none⟩ = some (i64 M.Z) := e 1
        have e2 : w6.cell? ⟨w.heap.size + 1, 2, none⟩ = some (.slice R.dA M.S R.dc) := e 2
        have e3 : w6.cell? ⟨w.heap.size + 1, 3, none⟩ = some (.slice (some wad) M.S R.wc) := e 3
        have e4 : w6.cell? ⟨w.heap.size + 1, 4, none⟩ = some (.slice (some ad) M.S R.bc) := e 4
        have e5 : w6.cell? ⟨w.heap.size + 1, 5, none⟩ = some (.bool false) := e 5
        have e6 : w6.cell? ⟨w.heap.size + 1, 6, none⟩ = some (i64 M.offs) := e 6
        have e7 : w6.cell? ⟨w.heap.size + 1, 7, none⟩ = some (i64 M.acts) := e 7
        have e8 : w6.cell? ⟨w.heap.size + 1, 8, none⟩ = some (.bool M.cut.isSome) := e 8
        have e9 : w6.cell? ⟨w.heap.size + 1, 9, none⟩ = some (i64 R.left) := e 9
        have e10 : w6.cell? ⟨w.heap.size + 1, 10, none⟩ = some (i64 R.whole) := e 10
        have e11 : w6.cell? ⟨w.heap.size + 1, 11, none⟩ = some (.int .u8 R.mask) := e 11
        exact bodyPost_ret (v := .tuple #[i64 8, .agg #[i64 M.S, i64 M.Z, .slice R.dA M.S R.dc, .slice (some wad) M.S R.wc, .slice (some ad) M.S R.bc, .bool false, i64 M.offs, i64 M.acts, .bool M.cut.isSome, i64 R.left, i64 R.whole, .int .u8 R.mask]]) (by simp [results, Tryz.results31, go_sem, e0, e1, e2, e3, e4, e5, e6, e7, e8, e9, e10, e11]) rfl ⟨R, by rw [HPV.out, HBAD.out]; show _ = Ending.returned (.tuple #[i64 8, R.val M]); simp only [RV.val, RV.cells]; rw [hoff, hbA, hwA], by rw [HPV.out, HBAD.out]; exact h.below (Base.dr b12), Base.dr b12, rfl, Nat.le_refl _⟩
end Go.Proofs.YtokpoogcoeodkaaGreatDoor
