/- The document's device: programmed, erased. -/
import Derived.Test.YtokpoogcoeodkaaGreatDoorNorX
namespace Go.Proofs.YtokpoogcoeodkaaGreatDoor
open Go.RowKit Flo

/-- Its own copy, and the result's place. -/
structure Two (w : World) (D : Array Value) (W : World) : Prop where
  hd : W.heap[w.heap.size]? = some (Obj.cells D 33 (0, 0))
  hz : W.heap[w.heap.size + 1]? = some (Obj.cells #[.int .i64 0, .int .i64 0, .slice none 0 0, .slice none 0 0, .slice none 0 0, .bool false, .int .i64 0, .int .i64 0, .bool false, .int .i64 0, .int .i64 0, .int .u8 0] 33 (0, 0))
  below : Below w.heap.size w W
theorem Two.start (w : World) (D : Array Value) : Two w D ((w.alloc (.cells D 33)).alloc (.cells #[.int .i64 0, .int .i64 0, .slice none 0 0, .slice none 0 0, .slice none 0 0, .bool false, .int .i64 0, .int .i64 0, .bool false, .int .i64 0, .int .i64 0, .int .u8 0] 33)) :=
  ⟨blk_old (blk_new w _), blk_new1 w _ _, Base.al (Base.al (Below.refl _ _) _) _⟩
theorem Two.on {w W W' : World} {D : Array Value} (h : Two w D W) (hb : Below W.heap.size W W') : Two w D W' := ⟨blk_below h.hd hb, blk_below h.hz hb, Base.tr h.below hb⟩
abbrev RefPost (O : Nat → Prop) (w : World) (R : RV) (p : Nat × Nor) (e : Ending) (w' : World) : Prop :=
  ∃ R' : RV, e = .returned (.tuple #[i64 p.1, R'.val p.2]) ∧ RefR O w' R' p.2 ∧ Below w.heap.size w w' ∧ R'.mask = R.mask ∧ R'.left ≤ R.left
theorem RefR.badAt {O : Nat → Prop} {w : World} {R : RV} {N : Nor} (h : RefR O w R N) (k : Nat) (hk : k < N.S) : ∃ ad : Addr, R.bA = some ad ∧ ad.block < w.heap.size ∧ w.cell? (ad.add k) = some (.bool (N.isBad k)) := by
  have hbd := h.bad
  obtain ⟨b, off, hA, hb, hx⟩ := hbd.at (by omega)
  refine ⟨⟨b, off, none⟩, hA, hb, ?_⟩
  have := (hx k [.bool (N.isBad k)] (by simp [hk])).2 0 _ rfl
  rw [Addr.add_lit, show off + k = off + k * 1 + 0 by omega]
  exact this
/-- What is written may be more, where none of it is read. -/
theorem RefR.wider {O Q : Nat → Prop} {w : World} {R : RV} {N : Nor} (h : RefR O w R N) (hq : ∀ k, Q k → O k ∨ w.heap.size ≤ k) : RefR Q w R N := by
  have hg := geoB_yes h.geo
  have far : ∀ {k n cap : Nat} {A : Option Addr} {xs : List (List Value)}, Sl w k (.slice A n cap) xs → 0 < n → Far O (.slice A n cap) → Far Q (.slice A n cap) := by
    intro k n cap A xs hs hn hf b off n' c' he hQ
    rcases hq b hQ with h1 | h1
    · exact hf b off n' c' he h1
    · obtain ⟨b', off', hA, hb, _⟩ := hs.at hn
      injection he with he
      rw [hA] at he
      injection he with he
      injection he with he
      omega
  refine { h with dfar := far h.data (by omega) h.dfar, row := ?_, wfar := far h.wear (by omega) h.wfar, bfar := far h.bad (by omega) h.bfar }
  intro i r l h1 h2
  obtain ⟨a1, a2, ad, n, c, rfl⟩ := h.row i r l h1 h2
  refine ⟨a1, ?_, _, _, _, rfl⟩
  have hn := a1.len
  rw [List.length_map, (h.all l (List.mem_of_getElem? h2)).1] at hn
  exact far a1 (by omega) a2
theorem RefR.sub {O Q : Nat → Prop} {w : World} {R : RV} {N : Nor} (h : RefR O w R N) (hq : ∀ k, Q k → O k) : RefR Q w R N :=
  h.wider (fun k hk => .inl (hq k hk))
theorem sets_out {Q : Nat → Prop} {g : Nat} (hg : Q g) : ∀ (vs : List Value) (W W' : World) (k : Nat), Out Q W W' → Out Q W (sets W' g k vs)
  | [], _, _, _, h => h
  | v :: vs, W, _, k, h => sets_out hg vs W _ _ (h.set hg k v)

set_option maxHeartbeats 4000000 in
set_option maxRecDepth 100000 in
theorem rprog_any {O : Nat → Prop} {w : World} {R : RV} {M : Nor} (h : RefR O w R M) (lim : ∀ k, O k → k < w.heap.size) (h1 : M.acts ≤ 1000000) (h2 : M.offs ≤ 1000000) (hm8 : R.mask < 256) (hcm3 : R.left ≤ 9223372036854775807)
    (a b : Nat) (A : Option Addr) (nb cap : Nat) (lb : List Nat) (hy : Byt w (.slice A nb cap) lb) (hl8 : ∀ x ∈ lb, x < 256) :
    Calls Tryz.prog 9 #[R.val M, cx a b, .slice A nb cap] w (RefPost O w R (M.prog a b lb)) := by
  have hg := geoB_yes h.geo
  have hn := hy.len
  rw [List.length_map] at hn
  subst hn
  have st0 := Lib.hid (Two.start w (R.cells M))
  unfold RefPost
  unfold RV.cells at st0
  cases hoff : M.off
  case true =>
    have hv : M.prog a b lb = (7, M) := by unfold Nor.prog; rw [hoff]; rfl
    rw [hv]
    rw [hoff] at st0
    clear hv
    unfold RV.val RV.cells
    rw [hoff]
    go_enter Tryz.func9, Tryz.ntmps9
    go_wp2_with fail
    generalize (w.alloc _).alloc _ = w2 at *
    have fd := cell_blk st0.out.hd
    have f0 : w2.cell? ⟨w.heap.size, 0, none⟩ = some (i64 M.S) := fd 0
    have f1 : w2.cell? ⟨w.heap.size, 1, none⟩ = some (i64 M.Z) := fd 1
    have f2 : w2.cell? ⟨w.heap.size, 2, none⟩ = some (.slice R.dA M.S R.dc) := fd 2
    have f3 : w2.cell? ⟨w.heap.size, 3, none⟩ = some (.slice R.wA M.S R.wc) := fd 3
    have f4 : w2.cell? ⟨w.heap.size, 4, none⟩ = some (.slice R.bA M.S R.bc) := fd 4
    have f5 : w2.cell? ⟨w.heap.size, 5, none⟩ = some (.bool true) := fd 5
    have f6 : w2.cell? ⟨w.heap.size, 6, none⟩ = some (i64 M.offs) := fd 6
    have f7 : w2.cell? ⟨w.heap.size, 7, none⟩ = some (i64 M.acts) := fd 7
    have f8 : w2.cell? ⟨w.heap.size, 8, none⟩ = some (.bool M.cut.isSome) := fd 8
    have f9 : w2.cell? ⟨w.heap.size, 9, none⟩ = some (i64 R.left) := fd 9
    have f10 : w2.cell? ⟨w.heap.size, 10, none⟩ = some (i64 R.whole) := fd 10
    have f11 : w2.cell? ⟨w.heap.size, 11, none⟩ = some (.int .u8 R.mask) := fd 11
    have zd : w.heap.size < w2.heap.size := (Array.getElem?_eq_some_iff.1 st0.out.hd).1
    clear fd
    have fy := cell_blk st0.out.hz
    have y0 : w2.cell? ⟨w.heap.size + 1, 0, none⟩ = some (.int .i64 0) := fy 0
    have y1 : w2.cell? ⟨w.heap.size + 1, 1, none⟩ = some (.int .i64 0) := fy 1
    have y2 : w2.cell? ⟨w.heap.size + 1, 2, none⟩ = some (.slice none 0 0) := fy 2
    have y3 : w2.cell? ⟨w.heap.size + 1, 3, none⟩ = some (.slice none 0 0) := fy 3
    have y4 : w2.cell? ⟨w.heap.size + 1, 4, none⟩ = some (.slice none 0 0) := fy 4
    have y5 : w2.cell? ⟨w.heap.size + 1, 5, none⟩ = some (.bool false) := fy 5
    have y6 : w2.cell? ⟨w.heap.size + 1, 6, none⟩ = some (.int .i64 0) := fy 6
    have y7 : w2.cell? ⟨w.heap.size + 1, 7, none⟩ = some (.int .i64 0) := fy 7
    have y8 : w2.cell? ⟨w.heap.size + 1, 8, none⟩ = some (.bool false) := fy 8
    have y9 : w2.cell? ⟨w.heap.size + 1, 9, none⟩ = some (.int .i64 0) := fy 9
    have y10 : w2.cell? ⟨w.heap.size + 1, 10, none⟩ = some (.int .i64 0) := fy 10
    have y11 : w2.cell? ⟨w.heap.size + 1, 11, none⟩ = some (.int .u8 0) := fy 11
    have zy := fun i => frozen_blk st0.out.hz i
    have zz : w.heap.size + 1 < w2.heap.size := (Array.getElem?_eq_some_iff.1 st0.out.hz).1
    clear fy
    have q0 := fun q => on_cell (w := w2) zd f0 q
    have q1 := fun q => on_cell (w := w2) zd f1 q
    have q2 := fun q => on_cell (w := w2) zd f2 q
    have q3 := fun q => on_cell (w := w2) zd f3 q
    have q4 := fun q => on_cell (w := w2) zd f4 q
    have q5 := fun q => on_cell (w := w2) zd f5 q
    have q6 := fun q => on_cell (w := w2) zd f6 q
    have q7 := fun q => on_cell (w := w2) zd f7 q
    have q8 := fun q => on_cell (w := w2) zd f8 q
    have q9 := fun q => on_cell (w := w2) zd f9 q
    have q10 := fun q => on_cell (w := w2) zd f10 q
    have q11 := fun q => on_cell (w := w2) zd f11 q
    refine wp_region_ph (D := fun w' => ∃ p : OnOf _, w' = p.v) 2 [] (by kernel_rfl) (by kernel_rfl) ⟨⟨_, Base.dr (Below.refl _ _)⟩, rfl⟩ ?_
    simp only [List.take_succ_cons, List.take_zero, List.drop_succ_cons, List.drop_zero]
    have on0 := @on_rd0; have on1 := @on_rd1; have on2 := @on_rd2; have on3 := @on_new1; have on4 := @on_new2
    repeat (first | ((with_reducible refine head_quiet ?_ ?_); (focus rfl); (intro K hK); go_simp; first | ((with_reducible refine hK _ ?_); clear hK K) | (rw [if_neg (by intro h; cases h)]; (with_reducible refine hK _ ?_); clear hK K) | (apply Exists.intro; refine ⟨fun _ => ?_, hK _ ?_⟩; (fail); clear hK K)))
    clear on0 on1 on2 on3 on4
    with_reducible refine head_nil ?_
    rintro _ rfl
    clear q0 q1 q2 q3 q4 q5 q6 q7 q8 q9 q10 q11
    go_wp2_with fail
    have hs12 : ((((((((((((w2.setCell ⟨w.heap.size + 1, 0, none⟩ (i64 M.S)).setCell ⟨w.heap.size + 1, 1, none⟩ (i64 M.Z)).setCell ⟨w.heap.size + 1, 2, none⟩ (.slice R.dA M.S R.dc)).setCell ⟨w.heap.size + 1, 3, none⟩ (.slice R.wA M.S R.wc)).setCell ⟨w.heap.size + 1, 4, none⟩ (.slice R.bA M.S R.bc)).setCell ⟨w.heap.size + 1, 5, none⟩ (.bool true)).setCell ⟨w.heap.size + 1, 6, none⟩ (i64 M.offs)).setCell ⟨w.heap.size + 1, 7, none⟩ (i64 M.acts)).setCell ⟨w.heap.size + 1, 8, none⟩ (.bool M.cut.isSome)).setCell ⟨w.heap.size + 1, 9, none⟩ (i64 R.left)).setCell ⟨w.heap.size + 1, 10, none⟩ (i64 R.whole)).setCell ⟨w.heap.size + 1, 11, none⟩ (.int .u8 R.mask)) = sets w2 (w.heap.size + 1) 0 [i64 M.S, i64 M.Z, .slice R.dA M.S R.dc, .slice R.wA M.S R.wc, .slice R.bA M.S R.bc, .bool true, i64 M.offs, i64 M.acts, .bool M.cut.isSome, i64 R.left, i64 R.whole, .int .u8 R.mask] := rfl
    rw [hs12]
    have e12 := sets_at st0.out.hz [i64 M.S, i64 M.Z, .slice R.dA M.S R.dc, .slice R.wA M.S R.wc, .slice R.bA M.S R.bc, .bool true, i64 M.offs, i64 M.acts, .bool M.cut.isSome, i64 R.left, i64 R.whole, .int .u8 R.mask] rfl
    have b12 := sets_below (Nat.le_succ _) [i64 M.S, i64 M.Z, .slice R.dA M.S R.dc, .slice R.wA M.S R.wc, .slice R.bA M.S R.bc, .bool true, i64 M.offs, i64 M.acts, .bool M.cut.isSome, i64 R.left, i64 R.whole, .int .u8 R.mask] _ 0 st0.out.below
    clear hs12 f0 f1 f2 f3 f4 f5 f6 f7 f8 f9 f10 f11 y0 y1 y2 y3 y4 y5 y6 y7 y8 y9 y10 y11 zy zz zd
    generalize sets w2 (w.heap.size + 1) 0 [i64 M.S, i64 M.Z, .slice R.dA M.S R.dc, .slice R.wA M.S R.wc, .slice R.bA M.S R.bc, .bool true, i64 M.offs, i64 M.acts, .bool M.cut.isSome, i64 R.left, i64 R.whole, .int .u8 R.mask] = w6 at *
    have e := cell_blk e12
    have e0 : w6.cell? ⟨w.heap.size + 1, 0, none⟩ = some (i64 M.S) := e 0
    have e1 : w6.cell? ⟨w.heap.size + 1, 1, none⟩ = some (i64 M.Z) := e 1
    have e2 : w6.cell? ⟨w.heap.size + 1, 2, none⟩ = some (.slice R.dA M.S R.dc) := e 2
    have e3 : w6.cell? ⟨w.heap.size + 1, 3, none⟩ = some (.slice R.wA M.S R.wc) := e 3
    have e4 : w6.cell? ⟨w.heap.size + 1, 4, none⟩ = some (.slice R.bA M.S R.bc) := e 4
    have e5 : w6.cell? ⟨w.heap.size + 1, 5, none⟩ = some (.bool true) := e 5
    have e6 : w6.cell? ⟨w.heap.size + 1, 6, none⟩ = some (i64 M.offs) := e 6
    have e7 : w6.cell? ⟨w.heap.size + 1, 7, none⟩ = some (i64 M.acts) := e 7
    have e8 : w6.cell? ⟨w.heap.size + 1, 8, none⟩ = some (.bool M.cut.isSome) := e 8
    have e9 : w6.cell? ⟨w.heap.size + 1, 9, none⟩ = some (i64 R.left) := e 9
    have e10 : w6.cell? ⟨w.heap.size + 1, 10, none⟩ = some (i64 R.whole) := e 10
    have e11 : w6.cell? ⟨w.heap.size + 1, 11, none⟩ = some (.int .u8 R.mask) := e 11
    exact bodyPost_ret (v := .tuple #[i64 7, .agg #[i64 M.S, i64 M.Z, .slice R.dA M.S R.dc, .slice R.wA M.S R.wc, .slice R.bA M.S R.bc, .bool true, i64 M.offs, i64 M.acts, .bool M.cut.isSome, i64 R.left, i64 R.whole, .int .u8 R.mask]]) (by simp [results, Tryz.results9, go_sem, e0, e1, e2, e3, e4, e5, e6, e7, e8, e9, e10, e11]) rfl ⟨R, by rfl, h.below (Base.dr b12), Base.dr b12, rfl, Nat.le_refl _⟩
  case false =>
    rw [hoff] at st0
    have g1 := fun W => Lib.hid (rwithin_any (M.S : Int) M.Z a b lb.length W (by omega) (by omega))
    by_cases hz : lb.length = 0
    · have hv : M.prog a b lb = (1, M) := by unfold Nor.prog; rw [hoff, if_neg (by decide), if_pos hz]
      have hz2 : ((lb.length : Int) == 0) = true := by rw [beq_iff_eq]; omega
      rw [hv]
      clear hv hz
      unfold RV.val RV.cells
      rw [hoff]
      go_enter Tryz.func9, Tryz.ntmps9
      go_wp2_with fail
      generalize (w.alloc _).alloc _ = w2 at *
      have fd := cell_blk st0.out.hd
      have f0 : w2.cell? ⟨w.heap.size, 0, none⟩ = some (i64 M.S) := fd 0
      have f1 : w2.cell? ⟨w.heap.size, 1, none⟩ = some (i64 M.Z) := fd 1
      have f2 : w2.cell? ⟨w.heap.size, 2, none⟩ = some (.slice R.dA M.S R.dc) := fd 2
      have f3 : w2.cell? ⟨w.heap.size, 3, none⟩ = some (.slice R.wA M.S R.wc) := fd 3
      have f4 : w2.cell? ⟨w.heap.size, 4, none⟩ = some (.slice R.bA M.S R.bc) := fd 4
      have f5 : w2.cell? ⟨w.heap.size, 5, none⟩ = some (.bool false) := fd 5
      have f6 : w2.cell? ⟨w.heap.size, 6, none⟩ = some (i64 M.offs) := fd 6
      have f7 : w2.cell? ⟨w.heap.size, 7, none⟩ = some (i64 M.acts) := fd 7
      have f8 : w2.cell? ⟨w.heap.size, 8, none⟩ = some (.bool M.cut.isSome) := fd 8
      have f9 : w2.cell? ⟨w.heap.size, 9, none⟩ = some (i64 R.left) := fd 9
      have f10 : w2.cell? ⟨w.heap.size, 10, none⟩ = some (i64 R.whole) := fd 10
      have f11 : w2.cell? ⟨w.heap.size, 11, none⟩ = some (.int .u8 R.mask) := fd 11
      have zd : w.heap.size < w2.heap.size := (Array.getElem?_eq_some_iff.1 st0.out.hd).1
      clear fd
      have fy := cell_blk st0.out.hz
      have y0 : w2.cell? ⟨w.heap.size + 1, 0, none⟩ = some (.int .i64 0) := fy 0
      have y1 : w2.cell? ⟨w.heap.size + 1, 1, none⟩ = some (.int .i64 0) := fy 1
      have y2 : w2.cell? ⟨w.heap.size + 1, 2, none⟩ = some (.slice none 0 0) := fy 2
      have y3 : w2.cell? ⟨w.heap.size + 1, 3, none⟩ = some (.slice none 0 0) := fy 3
      have y4 : w2.cell? ⟨w.heap.size + 1, 4, none⟩ = some (.slice none 0 0) := fy 4
      have y5 : w2.cell? ⟨w.heap.size + 1, 5, none⟩ = some (.bool false) := fy 5
      have y6 : w2.cell? ⟨w.heap.size + 1, 6, none⟩ = some (.int .i64 0) := fy 6
      have y7 : w2.cell? ⟨w.heap.size + 1, 7, none⟩ = some (.int .i64 0) := fy 7
      have y8 : w2.cell? ⟨w.heap.size + 1, 8, none⟩ = some (.bool false) := fy 8
      have y9 : w2.cell? ⟨w.heap.size + 1, 9, none⟩ = some (.int .i64 0) := fy 9
      have y10 : w2.cell? ⟨w.heap.size + 1, 10, none⟩ = some (.int .i64 0) := fy 10
      have y11 : w2.cell? ⟨w.heap.size + 1, 11, none⟩ = some (.int .u8 0) := fy 11
      have zy := fun i => frozen_blk st0.out.hz i
      have zz : w.heap.size + 1 < w2.heap.size := (Array.getElem?_eq_some_iff.1 st0.out.hz).1
      clear fy
      have q0 := fun q => on_cell (w := w2) zd f0 q
      have q1 := fun q => on_cell (w := w2) zd f1 q
      have q2 := fun q => on_cell (w := w2) zd f2 q
      have q3 := fun q => on_cell (w := w2) zd f3 q
      have q4 := fun q => on_cell (w := w2) zd f4 q
      have q5 := fun q => on_cell (w := w2) zd f5 q
      have q6 := fun q => on_cell (w := w2) zd f6 q
      have q7 := fun q => on_cell (w := w2) zd f7 q
      have q8 := fun q => on_cell (w := w2) zd f8 q
      have q9 := fun q => on_cell (w := w2) zd f9 q
      have q10 := fun q => on_cell (w := w2) zd f10 q
      have q11 := fun q => on_cell (w := w2) zd f11 q
      refine wp_region_ph (D := fun w' => ∃ p : OnOf _, w' = p.v) 2 [] (by kernel_rfl) (by kernel_rfl) ⟨⟨_, Base.dr (Below.refl _ _)⟩, rfl⟩ ?_
      simp only [List.take_succ_cons, List.take_zero, List.drop_succ_cons, List.drop_zero]
      have on0 := @on_rd0; have on1 := @on_rd1; have on2 := @on_rd2; have on3 := @on_new1; have on4 := @on_new2
      repeat (first | ((with_reducible refine head_quiet ?_ ?_); (focus rfl); (intro K hK); go_simp; first | ((with_reducible refine hK _ ?_); clear hK K) | (rw [if_neg (by intro h; cases h)]; (with_reducible refine hK _ ?_); clear hK K) | (apply Exists.intro; refine ⟨fun _ => ?_, hK _ ?_⟩; (fail); clear hK K)))
      clear on0 on1 on2 on3 on4
      with_reducible refine head_nil ?_
      rintro _ rfl
      clear q0 q1 q2 q3 q4 q5 q6 q7 q8 q9 q10 q11
      go_wp2_with fail
      have hs12 : ((((((((((((w2.setCell ⟨w.heap.size + 1, 0, none⟩ (i64 M.S)).setCell ⟨w.heap.size + 1, 1, none⟩ (i64 M.Z)).setCell ⟨w.heap.size + 1, 2, none⟩ (.slice R.dA M.S R.dc)).setCell ⟨w.heap.size + 1, 3, none⟩ (.slice R.wA M.S R.wc)).setCell ⟨w.heap.size + 1, 4, none⟩ (.slice R.bA M.S R.bc)).setCell ⟨w.heap.size + 1, 5, none⟩ (.bool false)).setCell ⟨w.heap.size + 1, 6, none⟩ (i64 M.offs)).setCell ⟨w.heap.size + 1, 7, none⟩ (i64 M.acts)).setCell ⟨w.heap.size + 1, 8, none⟩ (.bool M.cut.isSome)).setCell ⟨w.heap.size + 1, 9, none⟩ (i64 R.left)).setCell ⟨w.heap.size + 1, 10, none⟩ (i64 R.whole)).setCell ⟨w.heap.size + 1, 11, none⟩ (.int .u8 R.mask)) = sets w2 (w.heap.size + 1) 0 [i64 M.S, i64 M.Z, .slice R.dA M.S R.dc, .slice R.wA M.S R.wc, .slice R.bA M.S R.bc, .bool false, i64 M.offs, i64 M.acts, .bool M.cut.isSome, i64 R.left, i64 R.whole, .int .u8 R.mask] := rfl
      rw [hs12]
      have e12 := sets_at st0.out.hz [i64 M.S, i64 M.Z, .slice R.dA M.S R.dc, .slice R.wA M.S R.wc, .slice R.bA M.S R.bc, .bool false, i64 M.offs, i64 M.acts, .bool M.cut.isSome, i64 R.left, i64 R.whole, .int .u8 R.mask] rfl
      have b12 := sets_below (Nat.le_succ _) [i64 M.S, i64 M.Z, .slice R.dA M.S R.dc, .slice R.wA M.S R.wc, .slice R.bA M.S R.bc, .bool false, i64 M.offs, i64 M.acts, .bool M.cut.isSome, i64 R.left, i64 R.whole, .int .u8 R.mask] _ 0 st0.out.below
      clear hs12 f0 f1 f2 f3 f4 f5 f6 f7 f8 f9 f10 f11 y0 y1 y2 y3 y4 y5 y6 y7 y8 y9 y10 y11 zy zz zd
      generalize sets w2 (w.heap.size + 1) 0 [i64 M.S, i64 M.Z, .slice R.dA M.S R.dc, .slice R.wA M.S R.wc, .slice R.bA M.S R.bc, .bool false, i64 M.offs, i64 M.acts, .bool M.cut.isSome, i64 R.left, i64 R.whole, .int .u8 R.mask] = w6 at *
      have e := cell_blk e12
      have e0 : w6.cell? ⟨w.heap.size + 1, 0, none⟩ = some (i64 M.S) := e 0
      have e1 : w6.cell? ⟨w.heap.size + 1, 1, none⟩ = some (i64 M.Z) := e 1
      have e2 : w6.cell? ⟨w.heap.size + 1, 2, none⟩ = some (.slice R.dA M.S R.dc) := e 2
      have e3 : w6.cell? ⟨w.heap.size + 1, 3, none⟩ = some (.slice R.wA M.S R.wc) := e 3
      have e4 : w6.cell? ⟨w.heap.size + 1, 4, none⟩ = some (.slice R.bA M.S R.bc) := e 4
      have e5 : w6.cell? ⟨w.heap.size + 1, 5, none⟩ = some (.bool false) := e 5
      have e6 : w6.cell? ⟨w.heap.size + 1, 6, none⟩ = some (i64 M.offs) := e 6
      have e7 : w6.cell? ⟨w.heap.size + 1, 7, none⟩ = some (i64 M.acts) := e 7
      have e8 : w6.cell? ⟨w.heap.size + 1, 8, none⟩ = some (.bool M.cut.isSome) := e 8
      have e9 : w6.cell? ⟨w.heap.size + 1, 9, none⟩ = some (i64 R.left) := e 9
      have e10 : w6.cell? ⟨w.heap.size + 1, 10, none⟩ = some (i64 R.whole) := e 10
      have e11 : w6.cell? ⟨w.heap.size + 1, 11, none⟩ = some (.int .u8 R.mask) := e 11
      exact bodyPost_ret (v := .tuple #[i64 1, .agg #[i64 M.S, i64 M.Z, .slice R.dA M.S R.dc, .slice R.wA M.S R.wc, .slice R.bA M.S R.bc, .bool false, i64 M.offs, i64 M.acts, .bool M.cut.isSome, i64 R.left, i64 R.whole, .int .u8 R.mask]]) (by simp [results, Tryz.results9, go_sem, e0, e1, e2, e3, e4, e5, e6, e7, e8, e9, e10, e11]) rfl ⟨R, by rfl, h.below (Base.dr b12), Base.dr b12, rfl, Nat.le_refl _⟩
    · have hz2 : ((lb.length : Int) == 0) = false := by rw [beq_eq_false_iff_ne]; omega
      cases hwi : withinB M.S M.Z a b lb.length
      · have hv : M.prog a b lb = (1, M) := by unfold Nor.prog; rw [hoff, if_neg (by decide), if_neg hz, if_pos hwi]
        rw [hv]
        rw [hwi] at g1
        clear hv
        unfold RV.val RV.cells
        rw [hoff]
        go_enter Tryz.func9, Tryz.ntmps9
        go_wp2_with fail
        refine (g1 _).out.mono ?_; rintro e x2 ⟨rfl, hb2⟩
        have st2 := Lib.hid (st0.out.on hb2)
        clear st0
        go_wp2_with fail
        have fd := cell_blk st2.out.hd
        have f0 : x2.cell? ⟨w.heap.size, 0, none⟩ = some (i64 M.S) := fd 0
        have f1 : x2.cell? ⟨w.heap.size, 1, none⟩ = some (i64 M.Z) := fd 1
        have f2 : x2.cell? ⟨w.heap.size, 2, none⟩ = some (.slice R.dA M.S R.dc) := fd 2
        have f3 : x2.cell? ⟨w.heap.size, 3, none⟩ = some (.slice R.wA M.S R.wc) := fd 3
        have f4 : x2.cell? ⟨w.heap.size, 4, none⟩ = some (.slice R.bA M.S R.bc) := fd 4
        have f5 : x2.cell? ⟨w.heap.size, 5, none⟩ = some (.bool false) := fd 5
        have f6 : x2.cell? ⟨w.heap.size, 6, none⟩ = some (i64 M.offs) := fd 6
        have f7 : x2.cell? ⟨w.heap.size, 7, none⟩ = some (i64 M.acts) := fd 7
        have f8 : x2.cell? ⟨w.heap.size, 8, none⟩ = some (.bool M.cut.isSome) := fd 8
        have f9 : x2.cell? ⟨w.heap.size, 9, none⟩ = some (i64 R.left) := fd 9
        have f10 : x2.cell? ⟨w.heap.size, 10, none⟩ = some (i64 R.whole) := fd 10
        have f11 : x2.cell? ⟨w.heap.size, 11, none⟩ = some (.int .u8 R.mask) := fd 11
        have zd : w.heap.size < x2.heap.size := (Array.getElem?_eq_some_iff.1 st2.out.hd).1
        clear fd
        have fy := cell_blk st2.out.hz
        have y0 : x2.cell? ⟨w.heap.size + 1, 0, none⟩ = some (.int .i64 0) := fy 0
        have y1 : x2.cell? ⟨w.heap.size + 1, 1, none⟩ = some (.int .i64 0) := fy 1
        have y2 : x2.cell? ⟨w.heap.size + 1, 2, none⟩ = some (.slice none 0 0) := fy 2
        have y3 : x2.cell? ⟨w.heap.size + 1, 3, none⟩ = some (.slice none 0 0) := fy 3
        have y4 : x2.cell? ⟨w.heap.size + 1, 4, none⟩ = some (.slice none 0 0) := fy 4
        have y5 : x2.cell? ⟨w.heap.size + 1, 5, none⟩ = some (.bool false) := fy 5
        have y6 : x2.cell? ⟨w.heap.size + 1, 6, none⟩ = some (.int .i64 0) := fy 6
        have y7 : x2.cell? ⟨w.heap.size + 1, 7, none⟩ = some (.int .i64 0) := fy 7
        have y8 : x2.cell? ⟨w.heap.size + 1, 8, none⟩ = some (.bool false) := fy 8
        have y9 : x2.cell? ⟨w.heap.size + 1, 9, none⟩ = some (.int .i64 0) := fy 9
        have y10 : x2.cell? ⟨w.heap.size + 1, 10, none⟩ = some (.int .i64 0) := fy 10
        have y11 : x2.cell? ⟨w.heap.size + 1, 11, none⟩ = some (.int .u8 0) := fy 11
        have zy := fun i => frozen_blk st2.out.hz i
        have zz : w.heap.size + 1 < x2.heap.size := (Array.getElem?_eq_some_iff.1 st2.out.hz).1
        clear fy
        have q0 := fun q => on_cell (w := x2) zd f0 q
        have q1 := fun q => on_cell (w := x2) zd f1 q
        have q2 := fun q => on_cell (w := x2) zd f2 q
        have q3 := fun q => on_cell (w := x2) zd f3 q
        have q4 := fun q => on_cell (w := x2) zd f4 q
        have q5 := fun q => on_cell (w := x2) zd f5 q
        have q6 := fun q => on_cell (w := x2) zd f6 q
        have q7 := fun q => on_cell (w := x2) zd f7 q
        have q8 := fun q => on_cell (w := x2) zd f8 q
        have q9 := fun q => on_cell (w := x2) zd f9 q
        have q10 := fun q => on_cell (w := x2) zd f10 q
        have q11 := fun q => on_cell (w := x2) zd f11 q
        refine wp_region_ph (D := fun w' => ∃ p : OnOf _, w' = p.v) 2 [] (by kernel_rfl) (by kernel_rfl) ⟨⟨_, Base.dr (Below.refl _ _)⟩, rfl⟩ ?_
        simp only [List.take_succ_cons, List.take_zero, List.drop_succ_cons, List.drop_zero]
        have on0 := @on_rd0; have on1 := @on_rd1; have on2 := @on_rd2; have on3 := @on_new1; have on4 := @on_new2
        repeat (first | ((with_reducible refine head_quiet ?_ ?_); (focus rfl); (intro K hK); go_simp; first | ((with_reducible refine hK _ ?_); clear hK K) | (rw [if_neg (by intro h; cases h)]; (with_reducible refine hK _ ?_); clear hK K) | (apply Exists.intro; refine ⟨fun _ => ?_, hK _ ?_⟩; (fail); clear hK K)))
        clear on0 on1 on2 on3 on4
        with_reducible refine head_nil ?_
        rintro _ rfl
        clear q0 q1 q2 q3 q4 q5 q6 q7 q8 q9 q10 q11
        go_wp2_with fail
        have hs12 : ((((((((((((x2.setCell ⟨w.heap.size + 1, 0, none⟩ (i64 M.S)).setCell ⟨w.heap.size + 1, 1, none⟩ (i64 M.Z)).setCell ⟨w.heap.size + 1, 2, none⟩ (.slice R.dA M.S R.dc)).setCell ⟨w.heap.size + 1, 3, none⟩ (.slice R.wA M.S R.wc)).setCell ⟨w.heap.size + 1, 4, none⟩ (.slice R.bA M.S R.bc)).setCell ⟨w.heap.size + 1, 5, none⟩ (.bool false)).setCell ⟨w.heap.size + 1, 6, none⟩ (i64 M.offs)).setCell ⟨w.heap.size + 1, 7, none⟩ (i64 M.acts)).setCell ⟨w.heap.size + 1, 8, none⟩ (.bool M.cut.isSome)).setCell ⟨w.heap.size + 1, 9, none⟩ (i64 R.left)).setCell ⟨w.heap.size + 1, 10, none⟩ (i64 R.whole)).setCell ⟨w.heap.size + 1, 11, none⟩ (.int .u8 R.mask)) = sets x2 (w.heap.size + 1) 0 [i64 M.S, i64 M.Z, .slice R.dA M.S R.dc, .slice R.wA M.S R.wc, .slice R.bA M.S R.bc, .bool false, i64 M.offs, i64 M.acts, .bool M.cut.isSome, i64 R.left, i64 R.whole, .int .u8 R.mask] := rfl
        rw [hs12]
        have e12 := sets_at st2.out.hz [i64 M.S, i64 M.Z, .slice R.dA M.S R.dc, .slice R.wA M.S R.wc, .slice R.bA M.S R.bc, .bool false, i64 M.offs, i64 M.acts, .bool M.cut.isSome, i64 R.left, i64 R.whole, .int .u8 R.mask] rfl
        have b12 := sets_below (Nat.le_succ _) [i64 M.S, i64 M.Z, .slice R.dA M.S R.dc, .slice R.wA M.S R.wc, .slice R.bA M.S R.bc, .bool false, i64 M.offs, i64 M.acts, .bool M.cut.isSome, i64 R.left, i64 R.whole, .int .u8 R.mask] _ 0 st2.out.below
        clear hs12 f0 f1 f2 f3 f4 f5 f6 f7 f8 f9 f10 f11 y0 y1 y2 y3 y4 y5 y6 y7 y8 y9 y10 y11 zy zz zd
        generalize sets x2 (w.heap.size + 1) 0 [i64 M.S, i64 M.Z, .slice R.dA M.S R.dc, .slice R.wA M.S R.wc, .slice R.bA M.S R.bc, .bool false, i64 M.offs, i64 M.acts, .bool M.cut.isSome, i64 R.left, i64 R.whole, .int .u8 R.mask] = w6 at *
        have e := cell_blk e12
        have e0 : w6.cell? ⟨w.heap.size + 1, 0, none⟩ = some (i64 M.S) := e 0
        have e1 : w6.cell? ⟨w.heap.size + 1, 1, none⟩ = some (i64 M.Z) := e 1
        have e2 : w6.cell? ⟨w.heap.size + 1, 2, none⟩ = some (.slice R.dA M.S R.dc) := e 2
        have e3 : w6.cell? ⟨w.heap.size + 1, 3, none⟩ = some (.slice R.wA M.S R.wc) := e 3
        have e4 : w6.cell? ⟨w.heap.size + 1, 4, none⟩ = some (.slice R.bA M.S R.bc) := e 4
        have e5 : w6.cell? ⟨w.heap.size + 1, 5, none⟩ = some (.bool false) := e 5
        have e6 : w6.cell? ⟨w.heap.size + 1, 6, none⟩ = some (i64 M.offs) := e 6
        have e7 : w6.cell? ⟨w.heap.size + 1, 7, none⟩ = some (i64 M.acts) := e 7
        have e8 : w6.cell? ⟨w.heap.size + 1, 8, none⟩ = some (.bool M.cut.isSome) := e 8
        have e9 : w6.cell? ⟨w.heap.size + 1, 9, none⟩ = some (i64 R.left) := e 9
        have e10 : w6.cell? ⟨w.heap.size + 1, 10, none⟩ = some (i64 R.whole) := e 10
        have e11 : w6.cell? ⟨w.heap.size + 1, 11, none⟩ = some (.int .u8 R.mask) := e 11
        exact bodyPost_ret (v := .tuple #[i64 1, .agg #[i64 M.S, i64 M.Z, .slice R.dA M.S R.dc, .slice R.wA M.S R.wc, .slice R.bA M.S R.bc, .bool false, i64 M.offs, i64 M.acts, .bool M.cut.isSome, i64 R.left, i64 R.whole, .int .u8 R.mask]]) (by simp [results, Tryz.results9, go_sem, e0, e1, e2, e3, e4, e5, e6, e7, e8, e9, e10, e11]) rfl ⟨R, by rfl, h.below (Base.dr b12), Base.dr b12, rfl, Nat.le_refl _⟩
      · obtain ⟨k, p, ha, hb⟩ : ∃ k o, part? a = some k ∧ part? b = some o := by
          cases h1 : part? a <;> cases h2 : part? b <;> first | exact ⟨_, _, rfl, rfl⟩ | (rw [within_no (by simp [h1, h2])] at hwi; cases hwi)
        have hin := hwi
        rw [within_yes ha hb] at hin
        simp only [Bool.and_eq_true, decide_eq_true_eq] at hin
        obtain ⟨⟨⟨i1, i2⟩, i3⟩, i4⟩ := hin
        rw [hwi] at g1
        have g2 := fun W => Lib.hid (sector_in (b := b) W ha)
        have g3 := fun W => Lib.hid (offset_in (a := a) W hb)
        have hpv : M.prog a b lb = if M.isBad k then (8, M) else M.act k p lb.length (rUpd lb true) := by unfold Nor.prog; rw [hoff, if_neg (by decide), if_neg hz, if_neg (by rw [hwi]; decide), ha, hb]; rfl
        have HPV := Lib.hid hpv
        clear hpv hwi ha hb hz
        obtain ⟨ad, hbA, hbl, hbc⟩ := h.badAt k (by omega)
        unfold RV.val RV.cells
        rw [hoff]
        rw [hbA] at st0 ⊢
        go_enter Tryz.func9, Tryz.ntmps9
        go_wp2_with fail
        refine (g1 _).out.mono ?_; rintro e x2 ⟨rfl, hb2⟩
        have st2 := Lib.hid (st0.out.on hb2)
        clear st0
        go_wp2_with fail
        refine (g2 _).out.mono ?_; rintro e x3 ⟨rfl, rfl⟩
        have hbc3 : x3.cell? (ad.add k) = some (.bool (M.isBad k)) := by rw [st2.out.below.cell (by rw [block_add]; exact hbl)]; exact hbc
        have k6 : k < M.S := by omega
        have fd := cell_blk st2.out.hd
        have f0 : x3.cell? ⟨w.heap.size, 0, none⟩ = some (i64 M.S) := fd 0
        have f1 : x3.cell? ⟨w.heap.size, 1, none⟩ = some (i64 M.Z) := fd 1
        have f2 : x3.cell? ⟨w.heap.size, 2, none⟩ = some (.slice R.dA M.S R.dc) := fd 2
        have f3 : x3.cell? ⟨w.heap.size, 3, none⟩ = some (.slice R.wA M.S R.wc) := fd 3
        have f4 : x3.cell? ⟨w.heap.size, 4, none⟩ = some (.slice (some ad) M.S R.bc) := fd 4
        have f5 : x3.cell? ⟨w.heap.size, 5, none⟩ = some (.bool false) := fd 5
        have f6 : x3.cell? ⟨w.heap.size, 6, none⟩ = some (i64 M.offs) := fd 6
        have f7 : x3.cell? ⟨w.heap.size, 7, none⟩ = some (i64 M.acts) := fd 7
        have f8 : x3.cell? ⟨w.heap.size, 8, none⟩ = some (.bool M.cut.isSome) := fd 8
        have f9 : x3.cell? ⟨w.heap.size, 9, none⟩ = some (i64 R.left) := fd 9
        have f10 : x3.cell? ⟨w.heap.size, 10, none⟩ = some (i64 R.whole) := fd 10
        have f11 : x3.cell? ⟨w.heap.size, 11, none⟩ = some (.int .u8 R.mask) := fd 11
        have zd : w.heap.size < x3.heap.size := (Array.getElem?_eq_some_iff.1 st2.out.hd).1
        clear fd
        cases hbad : M.isBad k
        all_goals
          have HBAD := Lib.hid hbad
          rw [hbad] at hbc3
          clear hbad
          go_wp2_with fail
        · clear hbc hbc3
          have HA := fun (W : World) (hW : Below w.heap.size w W) (hWs : w.heap.size + 1 < W.heap.size) => Lib.hid (ract_any (O := fun k => O k ∨ k = w.heap.size + 1) ((h.wider (by rintro k (hk | rfl); exact .inl hk; exact .inr (Nat.le_succ _))).below hW) (by rintro k (hk | rfl); exact Nat.lt_of_lt_of_le (lim k hk) hW.size; exact hWs) hoff h1 h2 k p k6 A lb.length cap lb (Sl.below hy hW) hl8 (by omega) true hm8 hcm3)
          unfold RV.val RV.cells at HA
          rw [hoff, hbA] at HA
          obtain ⟨ea, Na, hea⟩ : ∃ ea Na, M.act k p lb.length (rUpd lb true) = (ea, Na) := ⟨_, _, rfl⟩
          rw [hea] at HA HPV
          simp only [] at HA
          clear hea
          have q0 := fun q => on_cell (w := x3) zd f0 q
          have q1 := fun q => on_cell (w := x3) zd f1 q
          have q2 := fun q => on_cell (w := x3) zd f2 q
          have q3 := fun q => on_cell (w := x3) zd f3 q
          have q4 := fun q => on_cell (w := x3) zd f4 q
          have q5 := fun q => on_cell (w := x3) zd f5 q
          have q6 := fun q => on_cell (w := x3) zd f6 q
          have q7 := fun q => on_cell (w := x3) zd f7 q
          have q8 := fun q => on_cell (w := x3) zd f8 q
          have q9 := fun q => on_cell (w := x3) zd f9 q
          have q10 := fun q => on_cell (w := x3) zd f10 q
          have q11 := fun q => on_cell (w := x3) zd f11 q
          have b3 := st2.out.below
          have z3 : w.heap.size + 1 < x3.heap.size := (Array.getElem?_eq_some_iff.1 st2.out.hz).1
          refine wp_region_po (fun w' => ∃ p : OnOf x3, w' = p.v) 9 [3, 5] (by kernel_rfl) (by kernel_rfl) ⟨⟨_, Base.dr (Below.refl _ _)⟩, rfl⟩ ?_
          simp only [List.take_succ_cons, List.take_zero, List.drop_succ_cons, List.drop_zero]
          have on0 := @on_rd0; have on1 := @on_rd1; have on2 := @on_rd2; have on3 := @on_new1; have on4 := @on_new2; have on5 := @gr_rd0
          repeat ((with_reducible refine seq_read ?_ ?_); (focus rfl); (intro K hK); (unfold readsAt); go_simp; first | ((with_reducible refine hK _ ?_); clear hK K) | (rw [if_neg (by intro h; cases h)]; (with_reducible refine hK _ ?_); clear hK K))
          refine seq_eff (by rfl) (by first | rfl | go_simp) ?_
          intro K hK
          unfold effAt2
          go_simp
          refine ⟨rfl, (g3 _).out.mono ?_⟩; rintro e x4 ⟨rfl, rfl⟩
          refine ⟨_, rfl, ⟨⟨_, Base.dr (Below.refl _ _)⟩, rfl⟩, hK _ _ ?_⟩
          clear hK K
          repeat ((with_reducible refine seq_read ?_ ?_); (focus rfl); (intro K hK); (unfold readsAt); go_simp; first | ((with_reducible refine hK _ ?_); clear hK K) | (rw [if_neg (by intro h; cases h)]; (with_reducible refine hK _ ?_); clear hK K))
          refine seq_eff (by rfl) (by first | rfl | go_simp) ?_
          intro K hK
          unfold effAt2
          go_simp
          refine ⟨rfl, (HA _ (Base.dr b3) (by simpa using z3)).out.mono ?_⟩; rintro e x5 ⟨R', rfl, hr5, hb5, hm5, hl5⟩
          refine ⟨_, rfl, ⟨⟨_, Base.tr (Base.dr (Below.refl _ _)) hb5⟩, rfl⟩, hK _ _ ?_⟩
          clear hK K
          repeat ((with_reducible refine seq_read ?_ ?_); (focus rfl); (intro K hK); (unfold readsAt); go_simp; first | ((with_reducible refine hK _ ?_); clear hK K) | (rw [if_neg (by intro h; cases h)]; (with_reducible refine hK _ ?_); clear hK K))
          clear on0 on1 on2 on3 on4 on5
          with_reducible refine seq_nil ?_
          have st5 := Lib.hid ((st2.out.on (Base.dr (Below.refl _ _))).on hb5)
          clear q0 q1 q2 q3 q4 q5 q6 q7 q8 q9 q10 q11 f0 f1 f2 f3 f4 f5 f6 f7 f8 f9 f10 f11 zd st2 HA g1 g2 g3
          have fy := cell_blk st5.out.hz
          have y0 : x5.cell? ⟨w.heap.size + 1, 0, none⟩ = some (.int .i64 0) := fy 0
          have y1 : x5.cell? ⟨w.heap.size + 1, 1, none⟩ = some (.int .i64 0) := fy 1
          have y2 : x5.cell? ⟨w.heap.size + 1, 2, none⟩ = some (.slice none 0 0) := fy 2
          have y3 : x5.cell? ⟨w.heap.size + 1, 3, none⟩ = some (.slice none 0 0) := fy 3
          have y4 : x5.cell? ⟨w.heap.size + 1, 4, none⟩ = some (.slice none 0 0) := fy 4
          have y5 : x5.cell? ⟨w.heap.size + 1, 5, none⟩ = some (.bool false) := fy 5
          have y6 : x5.cell? ⟨w.heap.size + 1, 6, none⟩ = some (.int .i64 0) := fy 6
          have y7 : x5.cell? ⟨w.heap.size + 1, 7, none⟩ = some (.int .i64 0) := fy 7
          have y8 : x5.cell? ⟨w.heap.size + 1, 8, none⟩ = some (.bool false) := fy 8
          have y9 : x5.cell? ⟨w.heap.size + 1, 9, none⟩ = some (.int .i64 0) := fy 9
          have y10 : x5.cell? ⟨w.heap.size + 1, 10, none⟩ = some (.int .i64 0) := fy 10
          have y11 : x5.cell? ⟨w.heap.size + 1, 11, none⟩ = some (.int .u8 0) := fy 11
          have zy := fun i => frozen_blk st5.out.hz i
          have zz : w.heap.size + 1 < x5.heap.size := (Array.getElem?_eq_some_iff.1 st5.out.hz).1
          clear fy
          go_wp2_with fail
          have hs12 : ((((((((((((x5.setCell ⟨w.heap.size + 1, 0, none⟩ (i64 Na.S)).setCell ⟨w.heap.size + 1, 1, none⟩ (i64 Na.Z)).setCell ⟨w.heap.size + 1, 2, none⟩ (.slice R'.dA Na.S R'.dc)).setCell ⟨w.heap.size + 1, 3, none⟩ (.slice R'.wA Na.S R'.wc)).setCell ⟨w.heap.size + 1, 4, none⟩ (.slice R'.bA Na.S R'.bc)).setCell ⟨w.heap.size + 1, 5, none⟩ (.bool Na.off)).setCell ⟨w.heap.size + 1, 6, none⟩ (i64 Na.offs)).setCell ⟨w.heap.size + 1, 7, none⟩ (i64 Na.acts)).setCell ⟨w.heap.size + 1, 8, none⟩ (.bool Na.cut.isSome)).setCell ⟨w.heap.size + 1, 9, none⟩ (i64 R'.left)).setCell ⟨w.heap.size + 1, 10, none⟩ (i64 R'.whole)).setCell ⟨w.heap.size + 1, 11, none⟩ (.int .u8 R.mask)) = sets x5 (w.heap.size + 1) 0 [i64 Na.S, i64 Na.Z, .slice R'.dA Na.S R'.dc, .slice R'.wA Na.S R'.wc, .slice R'.bA Na.S R'.bc, .bool Na.off, i64 Na.offs, i64 Na.acts, .bool Na.cut.isSome, i64 R'.left, i64 R'.whole, .int .u8 R.mask] := rfl
          rw [hs12]
          have e12 := sets_at st5.out.hz [i64 Na.S, i64 Na.Z, .slice R'.dA Na.S R'.dc, .slice R'.wA Na.S R'.wc, .slice R'.bA Na.S R'.bc, .bool Na.off, i64 Na.offs, i64 Na.acts, .bool Na.cut.isSome, i64 R'.left, i64 R'.whole, .int .u8 R.mask] rfl
          have b12 := sets_below (Nat.le_succ _) [i64 Na.S, i64 Na.Z, .slice R'.dA Na.S R'.dc, .slice R'.wA Na.S R'.wc, .slice R'.bA Na.S R'.bc, .bool Na.off, i64 Na.offs, i64 Na.acts, .bool Na.cut.isSome, i64 R'.left, i64 R'.whole, .int .u8 R.mask] _ 0 st5.out.below
          have r12 := RefR.sub (Q := O) (hr5.out (sets_out (g := w.heap.size + 1) (Or.inr rfl) [i64 Na.S, i64 Na.Z, .slice R'.dA Na.S R'.dc, .slice R'.wA Na.S R'.wc, .slice R'.bA Na.S R'.bc, .bool Na.off, i64 Na.offs, i64 Na.acts, .bool Na.cut.isSome, i64 R'.left, i64 R'.whole, .int .u8 R.mask] _ _ 0 (Out.refl _ _))) (fun k hk => .inl hk)
          clear hs12 y0 y1 y2 y3 y4 y5 y6 y7 y8 y9 y10 y11 zy zz
          generalize sets x5 (w.heap.size + 1) 0 [i64 Na.S, i64 Na.Z, .slice R'.dA Na.S R'.dc, .slice R'.wA Na.S R'.wc, .slice R'.bA Na.S R'.bc, .bool Na.off, i64 Na.offs, i64 Na.acts, .bool Na.cut.isSome, i64 R'.left, i64 R'.whole, .int .u8 R.mask] = w6 at *
          have e := cell_blk e12
          have e0 : w6.cell? ⟨w.heap.size + 1, 0, none⟩ = some (i64 Na.S) := e 0
          have e1 : w6.cell? ⟨w.heap.size + 1, 1, none⟩ = some (i64 Na.Z) := e 1
          have e2 : w6.cell? ⟨w.heap.size + 1, 2, none⟩ = some (.slice R'.dA Na.S R'.dc) := e 2
          have e3 : w6.cell? ⟨w.heap.size + 1, 3, none⟩ = some (.slice R'.wA Na.S R'.wc) := e 3
          have e4 : w6.cell? ⟨w.heap.size + 1, 4, none⟩ = some (.slice R'.bA Na.S R'.bc) := e 4
          have e5 : w6.cell? ⟨w.heap.size + 1, 5, none⟩ = some (.bool Na.off) := e 5
          have e6 : w6.cell? ⟨w.heap.size + 1, 6, none⟩ = some (i64 Na.offs) := e 6
          have e7 : w6.cell? ⟨w.heap.size + 1, 7, none⟩ = some (i64 Na.acts) := e 7
          have e8 : w6.cell? ⟨w.heap.size + 1, 8, none⟩ = some (.bool Na.cut.isSome) := e 8
          have e9 : w6.cell? ⟨w.heap.size + 1, 9, none⟩ = some (i64 R'.left) := e 9
          have e10 : w6.cell? ⟨w.heap.size + 1, 10, none⟩ = some (i64 R'.whole) := e 10
          have e11 : w6.cell? ⟨w.heap.size + 1, 11, none⟩ = some (.int .u8 R.mask) := e 11
          refine bodyPost_ret (v := .tuple #[i64 ea, .agg #[i64 Na.S, i64 Na.Z, .slice R'.dA Na.S R'.dc, .slice R'.wA Na.S R'.wc, .slice R'.bA Na.S R'.bc, .bool Na.off, i64 Na.offs, i64 Na.acts, .bool Na.cut.isSome, i64 R'.left, i64 R'.whole, .int .u8 R.mask]]) (by simp [results, Tryz.results9, go_sem, e0, e1, e2, e3, e4, e5, e6, e7, e8, e9, e10, e11]) rfl ⟨R', ?_, ?_, b12, hm5, hl5⟩
          · rw [HPV.out, HBAD.out]; show _ = Ending.returned (.tuple #[i64 ea, R'.val Na]); simp only [RV.val, RV.cells]; rw [hm5]
          · rw [HPV.out, HBAD.out]; exact r12
        · clear hbc hbc3 f0 f1 f2 f3 f4 f5 f6 f7 f8 f9 f10 f11 zd g1 g2 g3
          have fd := cell_blk st2.out.hd
          have f0 : x3.cell? ⟨w.heap.size, 0, none⟩ = some (i64 M.S) := fd 0
          have f1 : x3.cell? ⟨w.heap.size, 1, none⟩ = some (i64 M.Z) := fd 1
          have f2 : x3.cell? ⟨w.heap.size, 2, none⟩ = some (.slice R.dA M.S R.dc) := fd 2
          have f3 : x3.cell? ⟨w.heap.size, 3, none⟩ = some (.slice R.wA M.S R.wc) := fd 3
          have f4 : x3.cell? ⟨w.heap.size, 4, none⟩ = some (.slice (some ad) M.S R.bc) := fd 4
          have f5 : x3.cell? ⟨w.heap.size, 5, none⟩ = some (.bool false) := fd 5
          have f6 : x3.cell? ⟨w.heap.size, 6, none⟩ = some (i64 M.offs) := fd 6
          have f7 : x3.cell? ⟨w.heap.size, 7, none⟩ = some (i64 M.acts) := fd 7
          have f8 : x3.cell? ⟨w.heap.size, 8, none⟩ = some (.bool M.cut.isSome) := fd 8
          have f9 : x3.cell? ⟨w.heap.size, 9, none⟩ = some (i64 R.left) := fd 9
          have f10 : x3.cell? ⟨w.heap.size, 10, none⟩ = some (i64 R.whole) := fd 10
          have f11 : x3.cell? ⟨w.heap.size, 11, none⟩ = some (.int .u8 R.mask) := fd 11
          have zd : w.heap.size < x3.heap.size := (Array.getElem?_eq_some_iff.1 st2.out.hd).1
          clear fd
          have fy := cell_blk st2.out.hz
          have y0 : x3.cell? ⟨w.heap.size + 1, 0, none⟩ = some (.int .i64 0) := fy 0
          have y1 : x3.cell? ⟨w.heap.size + 1, 1, none⟩ = some (.int .i64 0) := fy 1
          have y2 : x3.cell? ⟨w.heap.size + 1, 2, none⟩ = some (.slice none 0 0) := fy 2
          have y3 : x3.cell? ⟨w.heap.size + 1, 3, none⟩ = some (.slice none 0 0) := fy 3
          have y4 : x3.cell? ⟨w.heap.size + 1, 4, none⟩ = some (.slice none 0 0) := fy 4
          have y5 : x3.cell? ⟨w.heap.size + 1, 5, none⟩ = some (.bool false) := fy 5
          have y6 : x3.cell? ⟨w.heap.size + 1, 6, none⟩ = some (.int .i64 0) := fy 6
          have y7 : x3.cell? ⟨w.heap.size + 1, 7, none⟩ = some (.int .i64 0) := fy 7
          have y8 : x3.cell? ⟨w.heap.size + 1, 8, none⟩ = some (.bool false) := fy 8
          have y9 : x3.cell? ⟨w.heap.size + 1, 9, none⟩ = some (.int .i64 0) := fy 9
          have y10 : x3.cell? ⟨w.heap.size + 1, 10, none⟩ = some (.int .i64 0) := fy 10
          have y11 : x3.cell? ⟨w.heap.size + 1, 11, none⟩ = some (.int .u8 0) := fy 11
          have zy := fun i => frozen_blk st2.out.hz i
          have zz : w.heap.size + 1 < x3.heap.size := (Array.getElem?_eq_some_iff.1 st2.out.hz).1
          clear fy
          have q0 := fun q => on_cell (w := x3) zd f0 q
          have q1 := fun q => on_cell (w := x3) zd f1 q
          have q2 := fun q => on_cell (w := x3) zd f2 q
          have q3 := fun q => on_cell (w := x3) zd f3 q
          have q4 := fun q => on_cell (w := x3) zd f4 q
          have q5 := fun q => on_cell (w := x3) zd f5 q
          have q6 := fun q => on_cell (w := x3) zd f6 q
          have q7 := fun q => on_cell (w := x3) zd f7 q
          have q8 := fun q => on_cell (w := x3) zd f8 q
          have q9 := fun q => on_cell (w := x3) zd f9 q
          have q10 := fun q => on_cell (w := x3) zd f10 q
          have q11 := fun q => on_cell (w := x3) zd f11 q
          refine wp_region_ph (D := fun w' => ∃ p : OnOf _, w' = p.v) 2 [] (by kernel_rfl) (by kernel_rfl) ⟨⟨_, Base.dr (Below.refl _ _)⟩, rfl⟩ ?_
          simp only [List.take_succ_cons, List.take_zero, List.drop_succ_cons, List.drop_zero]
          have on0 := @on_rd0; have on1 := @on_rd1; have on2 := @on_rd2; have on3 := @on_new1; have on4 := @on_new2
          repeat (first | ((with_reducible refine head_quiet ?_ ?_); (focus rfl); (intro K hK); go_simp; first | ((with_reducible refine hK _ ?_); clear hK K) | (rw [if_neg (by intro h; cases h)]; (with_reducible refine hK _ ?_); clear hK K) | (apply Exists.intro; refine ⟨fun _ => ?_, hK _ ?_⟩; (fail); clear hK K)))
          clear on0 on1 on2 on3 on4
          with_reducible refine head_nil ?_
          rintro _ rfl
          clear q0 q1 q2 q3 q4 q5 q6 q7 q8 q9 q10 q11
          go_wp2_with fail
          have hs12 : ((((((((((((x3.setCell ⟨w.heap.size + 1, 0, none⟩ (i64 M.S)).setCell ⟨w.heap.size + 1, 1, none⟩ (i64 M.Z)).setCell ⟨w.heap.size + 1, 2, none⟩ (.slice R.dA M.S R.dc)).setCell ⟨w.heap.size + 1, 3, none⟩ (.slice R.wA M.S R.wc)).setCell ⟨w.heap.size + 1, 4, none⟩ (.slice (some ad) M.S R.bc)).setCell ⟨w.heap.size + 1, 5, none⟩ (.bool false)).setCell ⟨w.heap.size + 1, 6, none⟩ (i64 M.offs)).setCell ⟨w.heap.size + 1, 7, none⟩ (i64 M.acts)).setCell ⟨w.heap.size + 1, 8, none⟩ (.bool M.cut.isSome)).setCell ⟨w.heap.size + 1, 9, none⟩ (i64 R.left)).setCell ⟨w.heap.size + 1, 10, none⟩ (i64 R.whole)).setCell ⟨w.heap.size + 1, 11, none⟩ (.int .u8 R.mask)) = sets x3 (w.heap.size + 1) 0 [i64 M.S, i64 M.Z, .slice R.dA M.S R.dc, .slice R.wA M.S R.wc, .slice (some ad) M.S R.bc, .bool false, i64 M.offs, i64 M.acts, .bool M.cut.isSome, i64 R.left, i64 R.whole, .int .u8 R.mask] := rfl
          rw [hs12]
          have e12 := sets_at st2.out.hz [i64 M.S, i64 M.Z, .slice R.dA M.S R.dc, .slice R.wA M.S R.wc, .slice (some ad) M.S R.bc, .bool false, i64 M.offs, i64 M.acts, .bool M.cut.isSome, i64 R.left, i64 R.whole, .int .u8 R.mask] rfl
          have b12 := sets_below (Nat.le_succ _) [i64 M.S, i64 M.Z, .slice R.dA M.S R.dc, .slice R.wA M.S R.wc, .slice (some ad) M.S R.bc, .bool false, i64 M.offs, i64 M.acts, .bool M.cut.isSome, i64 R.left, i64 R.whole, .int .u8 R.mask] _ 0 st2.out.below
          clear hs12 f0 f1 f2 f3 f4 f5 f6 f7 f8 f9 f10 f11 y0 y1 y2 y3 y4 y5 y6 y7 y8 y9 y10 y11 zy zz zd
          generalize sets x3 (w.heap.size + 1) 0 [i64 M.S, i64 M.Z, .slice R.dA M.S R.dc, .slice R.wA M.S R.wc, .slice (some ad) M.S R.bc, .bool false, i64 M.offs, i64 M.acts, .bool M.cut.isSome, i64 R.left, i64 R.whole, .int .u8 R.mask] = w6 at *
          have e := cell_blk e12
          have e0 : w6.cell? ⟨w.heap.size + 1, 0, none⟩ = some (i64 M.S) := e 0
          have e1 : w6.cell? ⟨w.heap.size + 1, 1, none⟩ = some (i64 M.Z) := e 1
          have e2 : w6.cell? ⟨w.heap.size + 1, 2, none⟩ = some (.slice R.dA M.S R.dc) := e 2
          have e3 : w6.cell? ⟨w.heap.size + 1, 3, none⟩ = some (.slice R.wA M.S R.wc) := e 3
          have e4 : w6.cell? ⟨w.heap.size + 1, 4, none⟩ = some (.slice (some ad) M.S R.bc) := e 4
          have e5 : w6.cell? ⟨w.heap.size + 1, 5, none⟩ = some (.bool false) := e 5
          have e6 : w6.cell? ⟨w.heap.size + 1, 6, none⟩ = some (i64 M.offs) := e 6
          have e7 : w6.cell? ⟨w.heap.size + 1, 7, none⟩ = some (i64 M.acts) := e 7
          have e8 : w6.cell? ⟨w.heap.size + 1, 8, none⟩ = some (.bool M.cut.isSome) := e 8
          have e9 : w6.cell? ⟨w.heap.size + 1, 9, none⟩ = some (i64 R.left) := e 9
          have e10 : w6.cell? ⟨w.heap.size + 1, 10, none⟩ = some (i64 R.whole) := e 10
          have e11 : w6.cell? ⟨w.heap.size + 1, 11, none⟩ = some (.int .u8 R.mask) := e 11
          exact bodyPost_ret (v := .tuple #[i64 8, .agg #[i64 M.S, i64 M.Z, .slice R.dA M.S R.dc, .slice R.wA M.S R.wc, .slice (some ad) M.S R.bc, .bool false, i64 M.offs, i64 M.acts, .bool M.cut.isSome, i64 R.left, i64 R.whole, .int .u8 R.mask]]) (by simp [results, Tryz.results9, go_sem, e0, e1, e2, e3, e4, e5, e6, e7, e8, e9, e10, e11]) rfl ⟨R, by rw [HPV.out, HBAD.out]; show _ = Ending.returned (.tuple #[i64 8, R.val M]); simp only [RV.val, RV.cells]; rw [hoff, hbA], by rw [HPV.out, HBAD.out]; exact h.below (Base.dr b12), Base.dr b12, rfl, Nat.le_refl _⟩
end Go.Proofs.YtokpoogcoeodkaaGreatDoor
