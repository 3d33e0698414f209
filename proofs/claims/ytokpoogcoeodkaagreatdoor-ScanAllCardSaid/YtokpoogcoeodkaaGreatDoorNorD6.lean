/- An operation of the law, kind 6. -/
import Derived.Test.YtokpoogcoeodkaaGreatDoorMg15
namespace Go.Proofs.YtokpoogcoeodkaaGreatDoor
open Go.RowKit Flo

set_option maxHeartbeats 4000000 in
set_option maxRecDepth 100000 in
theorem rspoil2 {O : Nat → Prop} {w : World} {R : RV} {N : Nor} (h : RefR O w R N) (s : Int) (lim : ∀ k, O k → k < w.heap.size) :
    Calls Tryz.prog 40 #[R.val N, i64 s] w fun e w' => ∃ R', e = .returned (R'.val (N.spoil s)) ∧ RefR O w' R' (N.spoil s) ∧ Below w.heap.size w w' ∧ R'.mask = R.mask ∧ R'.left = R.left := by
  have hg := geoB_yes h.geo
  obtain ⟨ad, hbA⟩ := h.bad.some (by omega)
  have hbd := h.bad
  rw [hbA] at hbd
  have hbl : ((List.range N.S).map fun i => [Value.bool (N.isBad i)]) = (((List.range N.S).map fun i => Value.bool (N.isBad i)).map fun x => [x]) := by rw [List.map_map]; rfl
  rw [hbl] at hbd
  have hsrc : ∀ (X Y Z : Obj) j u, ((List.range N.S).map fun i => Value.bool (N.isBad i))[j]? = some u → (((w.alloc X).alloc Y).alloc Z).cell? (ad.add j) = some u := fun X Y Z => Sl.src1 (Sl.below hbd (Base.al (Base.al (Base.al (Below.refl _ _) X) Y) Z))
  obtain ⟨i1, hi, hz0, hz1, hz2⟩ := info_parts info_boolV
  have hspoil := isBad_spoil N h.badn s
  have hS64 : N.S ≤ 64 := by omega
  have hS6 : 0 < N.S := by omega
  unfold RV.val RV.cells
  rw [hbA]
  go_enter Tryz.func40, Tryz.ntmps40
  go_wp2_with (at_builtin; refine wpList_append_fresh _ rfl _ _ 31 rfl 4 i1 _ Tryz.underlying31 hi hz0 hz1 ?c2 ⟨w.heap.size + 1 + 1, 0, none⟩ rfl ad N.S R.bc ((List.range N.S).map fun i => Value.bool (N.isBad i)) rfl ?c0 hS6 ?c3 (hsrc _ _ _) ?_)
  case c2 => omega
  case c0 => simp
  case c3 => omega
  intro cp junk hcp hcm
  obtain ⟨C, hC⟩ : ∃ C, ((List.range N.S).map fun i => Value.bool (N.isBad i)) ++ junk = C := ⟨_, rfl⟩
  rw [hC]
  have hCt : C.take N.S = (List.range N.S).map fun i => Value.bool (N.isBad i) := by rw [← hC]; exact List.take_left' (by simp)
  have HCT := Lib.hid hCt
  clear hC
  by_cases hin : 0 ≤ s ∧ s < N.S
  · obtain ⟨k, rfl⟩ : ∃ k : Nat, s = k := ⟨s.toNat, by omega⟩
    have hk : k < N.S := by omega
    have hck : C[k]? = some (.bool (N.isBad k)) := by
      have := congrArg (fun l => l[k]?) hCt
      simp only [List.getElem?_take_of_lt hk] at this
      rw [this]
      simp [hk]
    have t1 : ¬ ((k : Int) < 0) := by omega
    have hset : (C.set k (.bool true)).take N.S = (List.range N.S).map fun i => Value.bool ((N.spoil k).isBad i) := by
      rw [List.take_set, hCt]
      apply List.ext_getElem
      · simp
      · intro i h1 h2
        rw [List.getElem_set]
        simp only [List.getElem_map, List.getElem_range, hspoil]
        by_cases hik : k = i
        · subst hik; simp
        · rw [if_neg hik, decide_eq_false (by omega), Bool.false_or]
    have HSET := Lib.hid hset
    clear hCt hin hsrc hbd hset hspoil
    go_wp2_with fail
    refine bodyPost_ret (v := .agg #[i64 N.S, i64 N.Z, .slice R.dA N.S R.dc, .slice R.wA N.S R.wc, .slice (some ⟨w.heap.size + 1 + 1 + 1, 0, none⟩) N.S cp, .bool N.off, i64 N.offs, i64 N.acts, .bool N.cut.isSome, i64 R.left, i64 R.whole, .int .u8 R.mask]) (by simp [results, Tryz.results40, go_sem]) rfl ⟨{ R with bA := some ⟨w.heap.size + 1 + 1 + 1, 0, none⟩, bc := cp }, rfl, ?_, ?_, rfl, rfl⟩
    · exact h.bad' k lim (Base.dr (Base.al (Base.al (Base.al (Base.al (Below.refl _ _) _) _) _) _)) (blk_new3 w _ _ _ _) HSET.out (by omega) hcp hcm
    · exact Base.dr (Base.al (Base.al (Base.al (Base.al (Below.refl _ _) _) _) _) _)
  · have hset : C.take N.S = (List.range N.S).map fun i => Value.bool ((N.spoil s).isBad i) := by
      rw [hCt]
      refine List.map_congr_left fun i hi => ?_
      rw [hspoil, decide_eq_false (fun e => hin (by have := List.mem_range.1 hi; omega)), Bool.false_or]
    have HSET := Lib.hid hset
    clear hCt hsrc hbd hset hspoil
    go_wp2_with fail
    all_goals
      refine bodyPost_ret (v := .agg #[i64 N.S, i64 N.Z, .slice R.dA N.S R.dc, .slice R.wA N.S R.wc, .slice (some ⟨w.heap.size + 1 + 1 + 1, 0, none⟩) N.S cp, .bool N.off, i64 N.offs, i64 N.acts, .bool N.cut.isSome, i64 R.left, i64 R.whole, .int .u8 R.mask]) (by simp [results, Tryz.results40, go_sem]) rfl ⟨{ R with bA := some ⟨w.heap.size + 1 + 1 + 1, 0, none⟩, bc := cp }, rfl, ?_, ?_, rfl, rfl⟩
      · exact h.bad' s lim (Base.dr (Base.al (Base.al (Base.al (Base.al (Below.refl _ _) _) _) _) _)) (blk_new3 w _ _ _ _) HSET.out (by omega) hcp hcm
      · exact Base.dr (Base.al (Base.al (Base.al (Base.al (Below.refl _ _) _) _) _) _)

set_option maxHeartbeats 4000000 in
set_option maxRecDepth 100000 in
theorem do6_any {O E : Nat → Prop} {w : World} {N M : Nor} {R : RV} {o : OpV} {lb : List Nat} (h : DoFit O E w N M R o lb) (hk0 : o.kind ≠ 0) (hk1 : o.kind ≠ 1) (hk2 : o.kind ≠ 2) (hk3 : o.kind ≠ 3) (hk4 : o.kind ≠ 4) (hk5 : o.kind ≠ 5) : Calls Tryz.prog 11 #[ptrD N, R.val M, o.val] w (DoPost O E w N M o lb) := by
  have hd := h.dev
  have hop := h.op
  have lim := hd.lim
  have P0 := fun W => Lib.hid (of_any o.sector o.offset W)
  obtain ⟨pa, pb, hpl⟩ : ∃ pa pb, ofPl o.sector o.offset = (pa, pb) := ⟨_, _, rfl⟩
  rw [hpl] at P0
  simp only [] at P0
  have lc0 : Hid (Loc O w #[i64 M.S, i64 M.Z, .slice R.dA M.S R.dc, .slice R.wA M.S R.wc, .slice R.bA M.S R.bc, .bool M.off, i64 M.offs, i64 M.acts, .bool M.cut.isSome, i64 R.left, i64 R.whole, .int .u8 R.mask] #[i64 o.kind, i64 o.sector, i64 o.offset, .slice o.A o.bn o.bc, i64 o.n, i64 o.k, bv o.mask] _) := Lib.hid (Loc.start O w _ #[i64 o.kind, i64 o.sector, i64 o.offset, .slice o.A o.bn o.bc, i64 o.n, i64 o.k, bv o.mask])
  have hrq : RefR (fun k => (O k ∨ E k) ∨ k = w.heap.size + 1 + 1) w R M := h.ref.wider (by rintro k (hk | rfl); exact .inl hk; exact .inr (by omega))
  have limq : ∀ W : World, w.heap.size + 1 + 1 < W.heap.size → ∀ k, ((O k ∨ E k) ∨ k = w.heap.size + 1 + 1) → k < W.heap.size := by rintro W hW k ((hk | hk) | rfl); have := lim k hk; omega; have := h.limE k hk; omega; exact hW
  have hdoN : ∀ g, N.doo o lb g = N.spoil o.sector := by intro g; unfold Nor.doo; rw [if_neg hk0, if_neg hk1, if_neg hk2, if_neg hk3, if_neg hk4, if_neg hk5]
  have hdoM : ∀ g, M.doo o lb g = M.spoil o.sector := by intro g; unfold Nor.doo; rw [if_neg hk0, if_neg hk1, if_neg hk2, if_neg hk3, if_neg hk4, if_neg hk5]
  obtain ⟨Mt, hMt⟩ : ∃ Mt, M.spoil o.sector = Mt := ⟨_, rfl⟩
  rw [hMt] at hdoM
  clear hpl
  have lb0 : Hid (Below w.heap.size w (((w.alloc (.cells #[i64 M.S, i64 M.Z, .slice R.dA M.S R.dc, .slice R.wA M.S R.wc, .slice R.bA M.S R.bc, .bool M.off, i64 M.offs, i64 M.acts, .bool M.cut.isSome, i64 R.left, i64 R.whole, .int .u8 R.mask] 33)).alloc (.cells #[i64 o.kind, i64 o.sector, i64 o.offset, .slice o.A o.bn o.bc, i64 o.n, i64 o.k, bv o.mask] 43)).alloc (.cells #[.int .i64 0, .int .i64 0, .slice none 0 0, .slice none 0 0, .slice none 0 0, .bool false, .int .i64 0, .int .i64 0, .bool false, .int .i64 0, .int .i64 0, .int .u8 0] 33))) := Lib.hid (Base.al (Base.al (Base.al (Below.refl _ _) _) _) _)
  show Calls Tryz.prog 11 #[ptrD N, .agg #[i64 M.S, i64 M.Z, .slice R.dA M.S R.dc, .slice R.wA M.S R.wc, .slice R.bA M.S R.bc, .bool M.off, i64 M.offs, i64 M.acts, .bool M.cut.isSome, i64 R.left, i64 R.whole, .int .u8 R.mask], .agg #[i64 o.kind, i64 o.sector, i64 o.offset, .slice o.A o.bn o.bc, i64 o.n, i64 o.k, bv o.mask]] w _
  go_enter Tryz.func11, Tryz.ntmps11
  go_wp2_with fail
  refine (P0 _).out.mono ?_; rintro e x2 ⟨rfl, rfl⟩
  generalize ((w.alloc _).alloc _).alloc _ = x2 at *
  have hd2 := hd.below lb0.out
  have hr2 : RefR _ x2 R M := hrq.below lb0.out
  have limx := limq x2 (Array.getElem?_eq_some_iff.1 lc0.out.hz).1
  have fd := cell_blk lc0.out.hm
  have f0 : x2.cell? ⟨w.heap.size, 0, none⟩ = some (i64 M.S) := fd 0
  have f1 : x2.cell? ⟨w.heap.size, 1, none⟩ = some (i64 M.Z) := fd 1
  have f2 : x2.cell? ⟨w.heap.size, 2, none⟩ = some (.slice R.dA M.S R.dc) := fd 2
  have f3 : x2.cell? ⟨w.heap.size, 3, none⟩ = some (.slice R.wA M.S R.wc) := fd 3
  have f4 : x2.cell? ⟨w.heap.size, 4, none⟩ = some (.slice R.bA M.S R.bc) := fd 4
  have f5 : x2.cell? ⟨w.heap.size, 5, none⟩ = some (.bool M.off) := fd 5
  have f6 : x2.cell? ⟨w.heap.size, 6, none⟩ = some (i64 M.offs) := fd 6
  have f7 : x2.cell? ⟨w.heap.size, 7, none⟩ = some (i64 M.acts) := fd 7
  have f8 : x2.cell? ⟨w.heap.size, 8, none⟩ = some (.bool M.cut.isSome) := fd 8
  have f9 : x2.cell? ⟨w.heap.size, 9, none⟩ = some (i64 R.left) := fd 9
  have f10 : x2.cell? ⟨w.heap.size, 10, none⟩ = some (i64 R.whole) := fd 10
  have f11 : x2.cell? ⟨w.heap.size, 11, none⟩ = some (.int .u8 R.mask) := fd 11
  have zd : w.heap.size < x2.heap.size := (Array.getElem?_eq_some_iff.1 lc0.out.hm).1
  clear fd
  have fo := cell_blk lc0.out.ho
  have g0 : x2.cell? ⟨w.heap.size + 1, 0, none⟩ = some (i64 o.kind) := fo 0
  have g1 : x2.cell? ⟨w.heap.size + 1, 1, none⟩ = some (i64 o.sector) := fo 1
  have g2 : x2.cell? ⟨w.heap.size + 1, 2, none⟩ = some (i64 o.offset) := fo 2
  have g3 : x2.cell? ⟨w.heap.size + 1, 3, none⟩ = some (.slice o.A o.bn o.bc) := fo 3
  have g4 : x2.cell? ⟨w.heap.size + 1, 4, none⟩ = some (i64 o.n) := fo 4
  have g5 : x2.cell? ⟨w.heap.size + 1, 5, none⟩ = some (i64 o.k) := fo 5
  have g6 : x2.cell? ⟨w.heap.size + 1, 6, none⟩ = some (bv o.mask) := fo 6
  have zo : w.heap.size + 1 < x2.heap.size := (Array.getElem?_eq_some_iff.1 lc0.out.ho).1
  clear fo
  have HC := Lib.hid (spoil_any hd2 o.sector)
  go_wp2_with fail
  refine HC.out.mono ?_; rintro e x3 ⟨rfl, hd3, ho3⟩
  have lc3 := Lib.hid (lc0.out.on lim ho3)
  have hr3 := hr2.out (ho3.wide (fun k hk => .inl (.inl hk)))
  clear f0 f1 f2 f3 f4 f5 f6 f7 f8 f9 f10 f11 g0 g1 g2 g3 g4 g5 g6 zd zo
  have fd := cell_blk lc3.out.hm
  have f0 : x3.cell? ⟨w.heap.size, 0, none⟩ = some (i64 M.S) := fd 0
  have f1 : x3.cell? ⟨w.heap.size, 1, none⟩ = some (i64 M.Z) := fd 1
  have f2 : x3.cell? ⟨w.heap.size, 2, none⟩ = some (.slice R.dA M.S R.dc) := fd 2
  have f3 : x3.cell? ⟨w.heap.size, 3, none⟩ = some (.slice R.wA M.S R.wc) := fd 3
  have f4 : x3.cell? ⟨w.heap.size, 4, none⟩ = some (.slice R.bA M.S R.bc) := fd 4
  have f5 : x3.cell? ⟨w.heap.size, 5, none⟩ = some (.bool M.off) := fd 5
  have f6 : x3.cell? ⟨w.heap.size, 6, none⟩ = some (i64 M.offs) := fd 6
  have f7 : x3.cell? ⟨w.heap.size, 7, none⟩ = some (i64 M.acts) := fd 7
  have f8 : x3.cell? ⟨w.heap.size, 8, none⟩ = some (.bool M.cut.isSome) := fd 8
  have f9 : x3.cell? ⟨w.heap.size, 9, none⟩ = some (i64 R.left) := fd 9
  have f10 : x3.cell? ⟨w.heap.size, 10, none⟩ = some (i64 R.whole) := fd 10
  have f11 : x3.cell? ⟨w.heap.size, 11, none⟩ = some (.int .u8 R.mask) := fd 11
  have zd : w.heap.size < x3.heap.size := (Array.getElem?_eq_some_iff.1 lc3.out.hm).1
  clear fd
  have fo := cell_blk lc3.out.ho
  have g0 : x3.cell? ⟨w.heap.size + 1, 0, none⟩ = some (i64 o.kind) := fo 0
  have g1 : x3.cell? ⟨w.heap.size + 1, 1, none⟩ = some (i64 o.sector) := fo 1
  have g2 : x3.cell? ⟨w.heap.size + 1, 2, none⟩ = some (i64 o.offset) := fo 2
  have g3 : x3.cell? ⟨w.heap.size + 1, 3, none⟩ = some (.slice o.A o.bn o.bc) := fo 3
  have g4 : x3.cell? ⟨w.heap.size + 1, 4, none⟩ = some (i64 o.n) := fo 4
  have g5 : x3.cell? ⟨w.heap.size + 1, 5, none⟩ = some (i64 o.k) := fo 5
  have g6 : x3.cell? ⟨w.heap.size + 1, 6, none⟩ = some (bv o.mask) := fo 6
  have zo : w.heap.size + 1 < x3.heap.size := (Array.getElem?_eq_some_iff.1 lc3.out.ho).1
  clear fo
  have HR := rspoil2 hr3 o.sector (limq x3 (Array.getElem?_eq_some_iff.1 lc3.out.hz).1)
  rw [hMt] at HR
  simp only [RV.val, RV.cells] at HR
  have HR := Lib.hid HR
  clear lb0 lc0 hd2 hr2 HC ho3 limx hMt
  go_wp2_with fail
  refine HR.out.mono ?_; rintro e x5 ⟨R', rfl, hr5, hb5, hm5, hl5⟩
  have hd5 := hd3.below hb5
  have HM5 := Lib.hid hm5
  have HL5 := Lib.hid hl5
  have lc5 := Lib.hid (lc3.out.below hb5)
  clear f0 f1 f2 f3 f4 f5 f6 f7 f8 f9 f10 f11 g0 g1 g2 g3 g4 g5 g6 zd zo
  clear HR lc3 hd3 hr3 hb5 hm5 hl5
  have fy := cell_blk lc5.out.hz
  have y0 : x5.cell? ⟨w.heap.size + 1 + 1, 0, none⟩ = some (.int .i64 0) := fy 0
  have y1 : x5.cell? ⟨w.heap.size + 1 + 1, 1, none⟩ = some (.int .i64 0) := fy 1
  have y2 : x5.cell? ⟨w.heap.size + 1 + 1, 2, none⟩ = some (.slice none 0 0) := fy 2
  have y3 : x5.cell? ⟨w.heap.size + 1 + 1, 3, none⟩ = some (.slice none 0 0) := fy 3
  have y4 : x5.cell? ⟨w.heap.size + 1 + 1, 4, none⟩ = some (.slice none 0 0) := fy 4
  have y5 : x5.cell? ⟨w.heap.size + 1 + 1, 5, none⟩ = some (.bool false) := fy 5
  have y6 : x5.cell? ⟨w.heap.size + 1 + 1, 6, none⟩ = some (.int .i64 0) := fy 6
  have y7 : x5.cell? ⟨w.heap.size + 1 + 1, 7, none⟩ = some (.int .i64 0) := fy 7
  have y8 : x5.cell? ⟨w.heap.size + 1 + 1, 8, none⟩ = some (.bool false) := fy 8
  have y9 : x5.cell? ⟨w.heap.size + 1 + 1, 9, none⟩ = some (.int .i64 0) := fy 9
  have y10 : x5.cell? ⟨w.heap.size + 1 + 1, 10, none⟩ = some (.int .i64 0) := fy 10
  have y11 : x5.cell? ⟨w.heap.size + 1 + 1, 11, none⟩ = some (.int .u8 0) := fy 11
  have zy := fun i => frozen_blk lc5.out.hz i
  have zz : w.heap.size + 1 + 1 < x5.heap.size := (Array.getElem?_eq_some_iff.1 lc5.out.hz).1
  clear fy
  go_wp2_with fail
  have hs12 : ((((((((((((x5.setCell ⟨w.heap.size + 1 + 1, 0, none⟩ (i64 Mt.S)).setCell ⟨w.heap.size + 1 + 1, 1, none⟩ (i64 Mt.Z)).setCell ⟨w.heap.size + 1 + 1, 2, none⟩ (.slice R'.dA Mt.S R'.dc)).setCell ⟨w.heap.size + 1 + 1, 3, none⟩ (.slice R'.wA Mt.S R'.wc)).setCell ⟨w.heap.size + 1 + 1, 4, none⟩ (.slice R'.bA Mt.S R'.bc)).setCell ⟨w.heap.size + 1 + 1, 5, none⟩ (.bool Mt.off)).setCell ⟨w.heap.size + 1 + 1, 6, none⟩ (i64 Mt.offs)).setCell ⟨w.heap.size + 1 + 1, 7, none⟩ (i64 Mt.acts)).setCell ⟨w.heap.size + 1 + 1, 8, none⟩ (.bool Mt.cut.isSome)).setCell ⟨w.heap.size + 1 + 1, 9, none⟩ (i64 R'.left)).setCell ⟨w.heap.size + 1 + 1, 10, none⟩ (i64 R'.whole)).setCell ⟨w.heap.size + 1 + 1, 11, none⟩ (.int .u8 R'.mask)) = sets x5 (w.heap.size + 1 + 1) 0 [i64 Mt.S, i64 Mt.Z, .slice R'.dA Mt.S R'.dc, .slice R'.wA Mt.S R'.wc, .slice R'.bA Mt.S R'.bc, .bool Mt.off, i64 Mt.offs, i64 Mt.acts, .bool Mt.cut.isSome, i64 R'.left, i64 R'.whole, .int .u8 R'.mask] := rfl
  rw [hs12]
  have e12 := sets_at lc5.out.hz [i64 Mt.S, i64 Mt.Z, .slice R'.dA Mt.S R'.dc, .slice R'.wA Mt.S R'.wc, .slice R'.bA Mt.S R'.bc, .bool Mt.off, i64 Mt.offs, i64 Mt.acts, .bool Mt.cut.isSome, i64 R'.left, i64 R'.whole, .int .u8 R'.mask] rfl
  have s12 := sets_out (Q := fun k => k = w.heap.size + 1 + 1) rfl [i64 Mt.S, i64 Mt.Z, .slice R'.dA Mt.S R'.dc, .slice R'.wA Mt.S R'.wc, .slice R'.bA Mt.S R'.bc, .bool Mt.off, i64 Mt.offs, i64 Mt.acts, .bool Mt.cut.isSome, i64 R'.left, i64 R'.whole, .int .u8 R'.mask] x5 x5 0 (Out.refl _ _)
  clear hs12 y0 y1 y2 y3 y4 y5 y6 y7 y8 y9 y10 y11 zy zz
  generalize sets x5 (w.heap.size + 1 + 1) 0 [i64 Mt.S, i64 Mt.Z, .slice R'.dA Mt.S R'.dc, .slice R'.wA Mt.S R'.wc, .slice R'.bA Mt.S R'.bc, .bool Mt.off, i64 Mt.offs, i64 Mt.acts, .bool Mt.cut.isSome, i64 R'.left, i64 R'.whole, .int .u8 R'.mask] = w9 at *
  have e := cell_blk e12
  have e0 : w9.cell? ⟨w.heap.size + 1 + 1, 0, none⟩ = some (i64 Mt.S) := e 0
  have e1 : w9.cell? ⟨w.heap.size + 1 + 1, 1, none⟩ = some (i64 Mt.Z) := e 1
  have e2 : w9.cell? ⟨w.heap.size + 1 + 1, 2, none⟩ = some (.slice R'.dA Mt.S R'.dc) := e 2
  have e3 : w9.cell? ⟨w.heap.size + 1 + 1, 3, none⟩ = some (.slice R'.wA Mt.S R'.wc) := e 3
  have e4 : w9.cell? ⟨w.heap.size + 1 + 1, 4, none⟩ = some (.slice R'.bA Mt.S R'.bc) := e 4
  have e5 : w9.cell? ⟨w.heap.size + 1 + 1, 5, none⟩ = some (.bool Mt.off) := e 5
  have e6 : w9.cell? ⟨w.heap.size + 1 + 1, 6, none⟩ = some (i64 Mt.offs) := e 6
  have e7 : w9.cell? ⟨w.heap.size + 1 + 1, 7, none⟩ = some (i64 Mt.acts) := e 7
  have e8 : w9.cell? ⟨w.heap.size + 1 + 1, 8, none⟩ = some (.bool Mt.cut.isSome) := e 8
  have e9 : w9.cell? ⟨w.heap.size + 1 + 1, 9, none⟩ = some (i64 R'.left) := e 9
  have e10 : w9.cell? ⟨w.heap.size + 1 + 1, 10, none⟩ = some (i64 R'.whole) := e 10
  have e11 : w9.cell? ⟨w.heap.size + 1 + 1, 11, none⟩ = some (.int .u8 R'.mask) := e 11
  have d9 := DevR.outQ (hd5) s12 (by intro k hk e; have := lim k hk; omega)
  have r9 := RefR.sub (Q := fun k => (O) k ∨ E k) (RefR.out (hr5) (s12.wide (fun k hk => .inr hk))) (fun k hk => .inl hk)
  have o9 : Out O w w9 := Out.new ((lc5.out.out.wide (Q := fun k => O k ∨ k = w.heap.size + 1 + 1) (fun k hk => .inl hk)).trans (s12.wide (fun k hk => .inr hk))) (by rintro k (hk | rfl); exact .inl hk; exact .inr (by omega))
  refine bodyPost_ret (v := .tuple #[.bool true, .agg #[i64 Mt.S, i64 Mt.Z, .slice R'.dA Mt.S R'.dc, .slice R'.wA Mt.S R'.wc, .slice R'.bA Mt.S R'.bc, .bool Mt.off, i64 Mt.offs, i64 Mt.acts, .bool Mt.cut.isSome, i64 R'.left, i64 R'.whole, .int .u8 R'.mask]]) (by simp [results, Tryz.results11, go_sem, e0, e1, e2, e3, e4, e5, e6, e7, e8, e9, e10, e11]) rfl ⟨true, R', O, 0, ?_, (fun _ => rfl), ?_, ?_, o9, (fun k hk => .inl hk), (by rw [HM5.out]; exact h.mask), (by rw [HL5.out]; exact h.left)⟩
  · rw [hdoM]; rfl
  · rw [hdoN]; exact d9
  · rw [hdoM]; exact r9
end Go.Proofs.YtokpoogcoeodkaaGreatDoor
