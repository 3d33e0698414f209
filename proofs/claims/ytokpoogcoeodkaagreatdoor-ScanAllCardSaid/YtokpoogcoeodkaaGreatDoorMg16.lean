/- An operation of the law, kind 3. -/
import Derived.Test.YtokpoogcoeodkaaGreatDoorMg15
import Derived.Test.YtokpoogcoeodkaaGreatDoorNorD0
import Derived.Test.YtokpoogcoeodkaaGreatDoorNorD1
import Derived.Test.YtokpoogcoeodkaaGreatDoorNorD2
import Derived.Test.YtokpoogcoeodkaaGreatDoorNorD5
import Derived.Test.YtokpoogcoeodkaaGreatDoorNorD6
import Derived.Test.YtokpoogcoeodkaaGreatDoorNorD7
import Derived.Test.YtokpoogcoeodkaaGreatDoorNorD8
import Derived.Test.YtokpoogcoeodkaaGreatDoorNorD9
namespace Go.Proofs.YtokpoogcoeodkaaGreatDoor
open Go.RowKit Flo

set_option maxHeartbeats 4000000 in
set_option maxRecDepth 100000 in
theorem do3_any {O E : Nat → Prop} {w : World} {N M : Nor} {R : RV} {o : OpV} {lb : List Nat} (h : DoFit O E w N M R o lb) (hk : o.kind = 3) : Calls Tryz.prog 11 #[ptrD N, R.val M, o.val] w (DoPost O E w N M o lb) := by
  have hd := h.dev
  have hop := h.op
  have lim := hd.lim
  have P0 := fun W => Lib.hid (of_any o.sector o.offset W)
  obtain ⟨pa, pb, hpl⟩ : ∃ pa pb, ofPl o.sector o.offset = (pa, pb) := ⟨_, _, rfl⟩
  rw [hpl] at P0
  simp only [] at P0
  have lc0 : Hid (Loc O w #[i64 M.S, i64 M.Z, .slice R.dA M.S R.dc, .slice R.wA M.S R.wc, .slice R.bA M.S R.bc, .bool M.off, i64 M.offs, i64 M.acts, .bool M.cut.isSome, i64 R.left, i64 R.whole, .int .u8 R.mask] #[i64 3, i64 o.sector, i64 o.offset, .slice o.A o.bn o.bc, i64 o.n, i64 o.k, bv o.mask] _) := Lib.hid (Loc.start O w _ #[i64 3, i64 o.sector, i64 o.offset, .slice o.A o.bn o.bc, i64 o.n, i64 o.k, bv o.mask])
  have hrq : RefR (fun k => (O k ∨ E k) ∨ k = w.heap.size + 1 + 1) w R M := h.ref.wider (by rintro k (hk | rfl); exact .inl hk; exact .inr (by omega))
  have limq : ∀ W : World, w.heap.size + 1 + 1 < W.heap.size → ∀ k, ((O k ∨ E k) ∨ k = w.heap.size + 1 + 1) → k < W.heap.size := by rintro W hW k ((hk | hk) | rfl); have := lim k hk; omega; have := h.limE k hk; omega; exact hW
  have hdoN : ∀ g, N.doo o lb g = N.cutAt o.n o.k o.mask g := by intro g; unfold Nor.doo; rw [if_neg (by rw [hk]; decide)]; rw [if_neg (by rw [hk]; decide)]; rw [if_neg (by rw [hk]; decide)]; rw [if_pos hk]
  have hdoM : ∀ g, M.doo o lb g = M.cutAt o.n o.k o.mask g := by intro g; unfold Nor.doo; rw [if_neg (by rw [hk]; decide)]; rw [if_neg (by rw [hk]; decide)]; rw [if_neg (by rw [hk]; decide)]; rw [if_pos hk]
  clear hpl
  have lb0 : Hid (Below w.heap.size w (((w.alloc (.cells #[i64 M.S, i64 M.Z, .slice R.dA M.S R.dc, .slice R.wA M.S R.wc, .slice R.bA M.S R.bc, .bool M.off, i64 M.offs, i64 M.acts, .bool M.cut.isSome, i64 R.left, i64 R.whole, .int .u8 R.mask] 33)).alloc (.cells #[i64 3, i64 o.sector, i64 o.offset, .slice o.A o.bn o.bc, i64 o.n, i64 o.k, bv o.mask] 43)).alloc (.cells #[.int .i64 0, .int .i64 0, .slice none 0 0, .slice none 0 0, .slice none 0 0, .bool false, .int .i64 0, .int .i64 0, .bool false, .int .i64 0, .int .i64 0, .int .u8 0] 33))) := Lib.hid (Base.al (Base.al (Base.al (Below.refl _ _) _) _) _)
  show Calls Tryz.prog 11 #[ptrD N, .agg #[i64 M.S, i64 M.Z, .slice R.dA M.S R.dc, .slice R.wA M.S R.wc, .slice R.bA M.S R.bc, .bool M.off, i64 M.offs, i64 M.acts, .bool M.cut.isSome, i64 R.left, i64 R.whole, .int .u8 R.mask], .agg #[i64 o.kind, i64 o.sector, i64 o.offset, .slice o.A o.bn o.bc, i64 o.n, i64 o.k, bv o.mask]] w _
  go_enter Tryz.func11, Tryz.ntmps11
  go_wp2_with fail
  refine (P0 _).out.mono ?_; rintro e x2 ⟨rfl, rfl⟩
  generalize ((w.alloc _).alloc _).alloc _ = x2 at *
  have hd2 := hd.below lb0.out
  have hr2 : RefR _ x2 R M := hrq.below lb0.out
  have limx := limq x2 (Array.getElem?_eq_some_iff.1 lc0.out.hz).1
  have fd := cell_blk lc0.out.hm
  have f0 : x2.cell? ⟨w.heap.size, 0, none⟩ = some (i64 M.S) := fd 0
  have f1 : x2.cell? ⟨w.heap.size, 1, none⟩ = some (i64 M.Z) := fd 1
  have f2 : x2.cell? ⟨w.heap.size, 2, none⟩ = some (.slice R.dA M.S R.dc) := fd 2
  have f3 : x2.cell? ⟨w.heap.size, 3, none⟩ = some (.slice R.wA M.S R.wc) := fd 3
  have f4 : x2.cell? ⟨w.heap.size, 4, none⟩ = some (.slice R.bA M.S R.bc) := fd 4
  have f5 : x2.cell? ⟨w.heap.size, 5, none⟩ = some (.bool M.off) := fd 5
  have f6 : x2.cell? ⟨w.heap.size, 6, none⟩ = some (i64 M.offs) := fd 6
  have f7 : x2.cell? ⟨w.heap.size, 7, none⟩ = some (i64 M.acts) := fd 7
  have f8 : x2.cell? ⟨w.heap.size, 8, none⟩ = some (.bool M.cut.isSome) := fd 8
  have f9 : x2.cell? ⟨w.heap.size, 9, none⟩ = some (i64 R.left) := fd 9
  have f10 : x2.cell? ⟨w.heap.size, 10, none⟩ = some (i64 R.whole) := fd 10
  have f11 : x2.cell? ⟨w.heap.size, 11, none⟩ = some (.int .u8 R.mask) := fd 11
  have zd : w.heap.size < x2.heap.size := (Array.getElem?_eq_some_iff.1 lc0.out.hm).1
  clear fd
  have fo := cell_blk lc0.out.ho
  have g0 : x2.cell? ⟨w.heap.size + 1, 0, none⟩ = some (i64 3) := fo 0
  have g1 : x2.cell? ⟨w.heap.size + 1, 1, none⟩ = some (i64 o.sector) := fo 1
  have g2 : x2.cell? ⟨w.heap.size + 1, 2, none⟩ = some (i64 o.offset) := fo 2
  have g3 : x2.cell? ⟨w.heap.size + 1, 3, none⟩ = some (.slice o.A o.bn o.bc) := fo 3
  have g4 : x2.cell? ⟨w.heap.size + 1, 4, none⟩ = some (i64 o.n) := fo 4
  have g5 : x2.cell? ⟨w.heap.size + 1, 5, none⟩ = some (i64 o.k) := fo 5
  have g6 : x2.cell? ⟨w.heap.size + 1, 6, none⟩ = some (bv o.mask) := fo 6
  have zo : w.heap.size + 1 < x2.heap.size := (Array.getElem?_eq_some_iff.1 lc0.out.ho).1
  clear fo
  have HC := Lib.hid (cut_any hd2 o.n o.k o.mask hop.mask)
  have hw2 : RefR (fun k => ((O k ∨ E k) ∨ k = w.heap.size + 1 + 1) ∨ k = x2.heap.size) x2 R M := hr2.wider (by rintro k (hk | rfl); exact .inl hk; exact .inr (Nat.le_refl _))
  have hg2 := lb0.out.size
  have hne2 : w.heap.size + 1 + 1 ≠ x2.heap.size := by have := (Array.getElem?_eq_some_iff.1 lc0.out.hz).1; omega
  go_wp2_with fail
  refine HC.out.mono ?_; rintro e x3 ⟨rfl, hd3, ho3⟩
  have lc3 := Lib.hid (lc0.out.on lim ho3)
  have hr3 := hw2.out (ho3.wide (fun k hk => .inl (.inl (.inl hk))))
  clear f0 f1 f2 f3 f4 f5 f6 f7 f8 f9 f10 f11 g0 g1 g2 g3 g4 g5 g6 zd zo
  have fd := cell_blk lc3.out.hm
  have f0 : x3.cell? ⟨w.heap.size, 0, none⟩ = some (i64 M.S) := fd 0
  have f1 : x3.cell? ⟨w.heap.size, 1, none⟩ = some (i64 M.Z) := fd 1
  have f2 : x3.cell? ⟨w.heap.size, 2, none⟩ = some (.slice R.dA M.S R.dc) := fd 2
  have f3 : x3.cell? ⟨w.heap.size, 3, none⟩ = some (.slice R.wA M.S R.wc) := fd 3
  have f4 : x3.cell? ⟨w.heap.size, 4, none⟩ = some (.slice R.bA M.S R.bc) := fd 4
  have f5 : x3.cell? ⟨w.heap.size, 5, none⟩ = some (.bool M.off) := fd 5
  have f6 : x3.cell? ⟨w.heap.size, 6, none⟩ = some (i64 M.offs) := fd 6
  have f7 : x3.cell? ⟨w.heap.size, 7, none⟩ = some (i64 M.acts) := fd 7
  have f8 : x3.cell? ⟨w.heap.size, 8, none⟩ = some (.bool M.cut.isSome) := fd 8
  have f9 : x3.cell? ⟨w.heap.size, 9, none⟩ = some (i64 R.left) := fd 9
  have f10 : x3.cell? ⟨w.heap.size, 10, none⟩ = some (i64 R.whole) := fd 10
  have f11 : x3.cell? ⟨w.heap.size, 11, none⟩ = some (.int .u8 R.mask) := fd 11
  have zd : w.heap.size < x3.heap.size := (Array.getElem?_eq_some_iff.1 lc3.out.hm).1
  clear fd
  have fo := cell_blk lc3.out.ho
  have g0 : x3.cell? ⟨w.heap.size + 1, 0, none⟩ = some (i64 3) := fo 0
  have g1 : x3.cell? ⟨w.heap.size + 1, 1, none⟩ = some (i64 o.sector) := fo 1
  have g2 : x3.cell? ⟨w.heap.size + 1, 2, none⟩ = some (i64 o.offset) := fo 2
  have g3 : x3.cell? ⟨w.heap.size + 1, 3, none⟩ = some (.slice o.A o.bn o.bc) := fo 3
  have g4 : x3.cell? ⟨w.heap.size + 1, 4, none⟩ = some (i64 o.n) := fo 4
  have g5 : x3.cell? ⟨w.heap.size + 1, 5, none⟩ = some (i64 o.k) := fo 5
  have g6 : x3.cell? ⟨w.heap.size + 1, 6, none⟩ = some (bv o.mask) := fo 6
  have zo : w.heap.size + 1 < x3.heap.size := (Array.getElem?_eq_some_iff.1 lc3.out.ho).1
  clear fo
  have HR := rcut_any x3 R M o.n o.k o.mask x2.heap.size
  simp only [RV.val, RV.cells, Nor.cutAt, Option.isSome_some] at HR
  obtain ⟨nn, hnn⟩ : ∃ nn, o.n.toNat = nn := ⟨_, rfl⟩
  obtain ⟨kk, hkk⟩ : ∃ kk, o.k.toNat = kk := ⟨_, rfl⟩
  rw [hnn, hkk] at HR
  have hnl : nn ≤ 9223372036854775807 := by have := hop.n64; omega
  have HR := Lib.hid HR
  clear lb0 lc0 hd2 hr2 hw2 HC ho3 limx
  go_wp2_with fail
  refine HR.out.mono ?_; rintro e x5 ⟨rfl, hb5⟩
  have hd5 := hd3.below hb5
  have hr5 := (hr3.below hb5).cutAt o.n o.k o.mask x2.heap.size
  rw [hnn, hkk] at hr5
  clear hnn hkk
  have lc5 := Lib.hid (lc3.out.below hb5)
  clear f0 f1 f2 f3 f4 f5 f6 f7 f8 f9 f10 f11 g0 g1 g2 g3 g4 g5 g6 zd zo
  clear HR lc3 hd3 hr3 hb5
  have fy := cell_blk lc5.out.hz
  have y0 : x5.cell? ⟨w.heap.size + 1 + 1, 0, none⟩ = some (.int .i64 0) := fy 0
  have y1 : x5.cell? ⟨w.heap.size + 1 + 1, 1, none⟩ = some (.int .i64 0) := fy 1
  have y2 : x5.cell? ⟨w.heap.size + 1 + 1, 2, none⟩ = some (.slice none 0 0) := fy 2
  have y3 : x5.cell? ⟨w.heap.size + 1 + 1, 3, none⟩ = some (.slice none 0 0) := fy 3
  have y4 : x5.cell? ⟨w.heap.size + 1 + 1, 4, none⟩ = some (.slice none 0 0) := fy 4
  have y5 : x5.cell? ⟨w.heap.size + 1 + 1, 5, none⟩ = some (.bool false) := fy 5
  have y6 : x5.cell? ⟨w.heap.size + 1 + 1, 6, none⟩ = some (.int .i64 0) := fy 6
  have y7 : x5.cell? ⟨w.heap.size + 1 + 1, 7, none⟩ = some (.int .i64 0) := fy 7
  have y8 : x5.cell? ⟨w.heap.size + 1 + 1, 8, none⟩ = some (.bool false) := fy 8
  have y9 : x5.cell? ⟨w.heap.size + 1 + 1, 9, none⟩ = some (.int .i64 0) := fy 9
  have y10 : x5.cell? ⟨w.heap.size + 1 + 1, 10, none⟩ = some (.int .i64 0) := fy 10
  have y11 : x5.cell? ⟨w.heap.size + 1 + 1, 11, none⟩ = some (.int .u8 0) := fy 11
  have zy := fun i => frozen_blk lc5.out.hz i
  have zz : w.heap.size + 1 + 1 < x5.heap.size := (Array.getElem?_eq_some_iff.1 lc5.out.hz).1
  clear fy
  go_wp2_with fail
  have hs12 : ((((((((((((x5.setCell ⟨w.heap.size + 1 + 1, 0, none⟩ (i64 M.S)).setCell ⟨w.heap.size + 1 + 1, 1, none⟩ (i64 M.Z)).setCell ⟨w.heap.size + 1 + 1, 2, none⟩ (.slice R.dA M.S R.dc)).setCell ⟨w.heap.size + 1 + 1, 3, none⟩ (.slice R.wA M.S R.wc)).setCell ⟨w.heap.size + 1 + 1, 4, none⟩ (.slice R.bA M.S R.bc)).setCell ⟨w.heap.size + 1 + 1, 5, none⟩ (.bool M.off)).setCell ⟨w.heap.size + 1 + 1, 6, none⟩ (i64 M.offs)).setCell ⟨w.heap.size + 1 + 1, 7, none⟩ (i64 M.acts)).setCell ⟨w.heap.size + 1 + 1, 8, none⟩ (.bool true)).setCell ⟨w.heap.size + 1 + 1, 9, none⟩ (i64 nn)).setCell ⟨w.heap.size + 1 + 1, 10, none⟩ (i64 kk)).setCell ⟨w.heap.size + 1 + 1, 11, none⟩ (.int .u8 o.mask)) = sets x5 (w.heap.size + 1 + 1) 0 [i64 M.S, i64 M.Z, .slice R.dA M.S R.dc, .slice R.wA M.S R.wc, .slice R.bA M.S R.bc, .bool M.off, i64 M.offs, i64 M.acts, .bool true, i64 nn, i64 kk, .int .u8 o.mask] := rfl
  rw [hs12]
  have e12 := sets_at lc5.out.hz [i64 M.S, i64 M.Z, .slice R.dA M.S R.dc, .slice R.wA M.S R.wc, .slice R.bA M.S R.bc, .bool M.off, i64 M.offs, i64 M.acts, .bool true, i64 nn, i64 kk, .int .u8 o.mask] rfl
  have s12 := sets_out (Q := fun k => k = w.heap.size + 1 + 1) rfl [i64 M.S, i64 M.Z, .slice R.dA M.S R.dc, .slice R.wA M.S R.wc, .slice R.bA M.S R.bc, .bool M.off, i64 M.offs, i64 M.acts, .bool true, i64 nn, i64 kk, .int .u8 o.mask] x5 x5 0 (Out.refl _ _)
  clear hs12 y0 y1 y2 y3 y4 y5 y6 y7 y8 y9 y10 y11 zy zz
  generalize sets x5 (w.heap.size + 1 + 1) 0 [i64 M.S, i64 M.Z, .slice R.dA M.S R.dc, .slice R.wA M.S R.wc, .slice R.bA M.S R.bc, .bool M.off, i64 M.offs, i64 M.acts, .bool true, i64 nn, i64 kk, .int .u8 o.mask] = w9 at *
  have e := cell_blk e12
  have e0 : w9.cell? ⟨w.heap.size + 1 + 1, 0, none⟩ = some (i64 M.S) := e 0
  have e1 : w9.cell? ⟨w.heap.size + 1 + 1, 1, none⟩ = some (i64 M.Z) := e 1
  have e2 : w9.cell? ⟨w.heap.size + 1 + 1, 2, none⟩ = some (.slice R.dA M.S R.dc) := e 2
  have e3 : w9.cell? ⟨w.heap.size + 1 + 1, 3, none⟩ = some (.slice R.wA M.S R.wc) := e 3
  have e4 : w9.cell? ⟨w.heap.size + 1 + 1, 4, none⟩ = some (.slice R.bA M.S R.bc) := e 4
  have e5 : w9.cell? ⟨w.heap.size + 1 + 1, 5, none⟩ = some (.bool M.off) := e 5
  have e6 : w9.cell? ⟨w.heap.size + 1 + 1, 6, none⟩ = some (i64 M.offs) := e 6
  have e7 : w9.cell? ⟨w.heap.size + 1 + 1, 7, none⟩ = some (i64 M.acts) := e 7
  have e8 : w9.cell? ⟨w.heap.size + 1 + 1, 8, none⟩ = some (.bool true) := e 8
  have e9 : w9.cell? ⟨w.heap.size + 1 + 1, 9, none⟩ = some (i64 nn) := e 9
  have e10 : w9.cell? ⟨w.heap.size + 1 + 1, 10, none⟩ = some (i64 kk) := e 10
  have e11 : w9.cell? ⟨w.heap.size + 1 + 1, 11, none⟩ = some (.int .u8 o.mask) := e 11
  have d9 := DevR.outQ (hd5) s12 (by rintro k (hk | hk) e; have := lim k hk; omega; exact hne2 (e.symm.trans hk))
  have r9 := RefR.sub (Q := fun k => ((fun k => O k ∨ k = x2.heap.size)) k ∨ E k) (RefR.out (hr5) (s12.wide (fun k hk => .inl (.inr hk)))) (by rintro k ((hk | hk) | hk); exact .inl (.inl (.inl hk)); exact .inr hk; exact .inl (.inl (.inr hk)))
  have o9 : Out O w w9 := Out.new ((lc5.out.out.wide (Q := fun k => O k ∨ k = w.heap.size + 1 + 1) (fun k hk => .inl hk)).trans (s12.wide (fun k hk => .inr hk))) (by rintro k (hk | rfl); exact .inl hk; exact .inr (by omega))
  refine bodyPost_ret (v := .tuple #[.bool true, .agg #[i64 M.S, i64 M.Z, .slice R.dA M.S R.dc, .slice R.wA M.S R.wc, .slice R.bA M.S R.bc, .bool M.off, i64 M.offs, i64 M.acts, .bool true, i64 nn, i64 kk, .int .u8 o.mask]]) (by simp [results, Tryz.results11, go_sem, e0, e1, e2, e3, e4, e5, e6, e7, e8, e9, e10, e11]) rfl ⟨true, { R with left := nn, whole := kk, mask := o.mask }, (fun k => O k ∨ k = x2.heap.size), x2.heap.size, ?_, (fun _ => rfl), ?_, ?_, o9, (by rintro k (hk | rfl); exact .inl hk; exact .inr hg2), hop.mask, hnl⟩
  · rw [hdoM]; rfl
  · rw [hdoN]; exact d9
  · rw [hdoM]; exact r9
end Go.Proofs.YtokpoogcoeodkaaGreatDoor

/- An operation of the law, of any kind; how far a device's counts go. -/
namespace Go.Proofs.YtokpoogcoeodkaaGreatDoor
open Go.RowKit Flo

theorem do_any {O E : Nat → Prop} {w : World} {N M : Nor} {R : RV} {o : OpV} {lb : List Nat} (h : DoFit O E w N M R o lb) : Calls Tryz.prog 11 #[ptrD N, R.val M, o.val] w (DoPost O E w N M o lb) := by
  by_cases h0 : o.kind = 0
  · exact do0_any h h0
  by_cases h1 : o.kind = 1
  · exact do1_any h h1
  by_cases h2 : o.kind = 2
  · cases hoff : M.off
    · cases hwi : withinB M.S M.Z (ofPl o.sector o.offset).1 (ofPl o.sector o.offset).2 o.n
      · exact do2_out h h2 hoff hwi
      · by_cases hA : ∀ (k : Nat) ad n c, part? (ofPl o.sector o.offset).1 = some k → R.rows[k]? = some (.slice ad n c) → part? (ofPl o.sector o.offset).2 = some c
        · exact do2_inA h h2 hoff hwi hA
        · refine do2_inB h h2 hoff hwi ?_
          intro k ad n c hk hr hc
          refine hA fun k' ad' n' c' hk' hr' => ?_
          rw [hk] at hk'
          injection hk' with e
          subst e
          rw [hr] at hr'
          injection hr' with e
          injection e with _ _ e
          subst e
          exact hc
    · exact do2_off h h2 hoff
  by_cases h3 : o.kind = 3
  · exact do3_any h h3
  by_cases h4 : o.kind = 4
  · exact do4_any h h4
  by_cases h5 : o.kind = 5
  · exact do5_any h h5
  · exact do6_any h h0 h1 h2 h3 h4 h5

theorem act_S (N : Nor) (s p n : Nat) (upd : Nat → Nat → Nat → Nat) : (N.act s p n upd).2.S = N.S ∧ (N.act s p n upd).2.Z = N.Z ∧ (N.act s p n upd).2.wear = N.wear ∧ (N.act s p n upd).2.bad = N.bad ∧ (N.act s p n upd).2.D = N.D := by
  unfold Nor.act
  split
  · exact ⟨rfl, rfl, rfl, rfl, rfl⟩
  · split <;> exact ⟨rfl, rfl, rfl, rfl, rfl⟩
theorem act_Bd {N : Nor} {j : Nat} (h : Bd N j) (s p n : Nat) (upd : Nat → Nat → Nat → Nat) : Bd (N.act s p n upd).2 (j + 1) := by
  have h1 := h.acts
  have h2 := h.offs
  have hw : ∀ n ∈ N.wear, n ≤ j + 1 := fun n hn => by have := h.wear n hn; omega
  unfold Nor.act
  split
  · rename_i hc
    exact ⟨by show N.acts + 1 ≤ _; omega, by show N.offs ≤ _; omega, hw, fun c hq => by rw [show _ = N.cut from rfl, hc] at hq; cases hq⟩
  · rename_i c b m hc
    have h3 := h.cut _ hc
    split
    · exact ⟨by show N.acts + 1 ≤ _; omega, by show N.offs ≤ _; omega, hw, fun c' hq => by injection hq with hq; subst hq; show c - 1 ≤ _; have : c ≤ 9223372036854775807 := h3; omega⟩
    · exact ⟨by show N.acts + 1 ≤ _; omega, by show N.offs + 1 ≤ _; omega, hw, fun c' hq => by cases hq⟩
theorem doo_S (N : Nor) (o : OpV) (lb : List Nat) (g : Nat) : (N.doo o lb g).S = N.S ∧ (N.doo o lb g).Z = N.Z ∧ (N.doo o lb g).D = N.D := by
  have ha := fun (N : Nor) s p n upd => act_S N s p n upd
  unfold Nor.doo
  split
  · unfold Nor.prog
    split
    · exact ⟨rfl, rfl, rfl⟩
    · split
      · exact ⟨rfl, rfl, rfl⟩
      · split
        · exact ⟨rfl, rfl, rfl⟩
        · split
          · exact ⟨rfl, rfl, rfl⟩
          · obtain ⟨h1, h2, _, _, h5⟩ := ha N ((part? (ofPl o.sector o.offset).1).getD 0) ((part? (ofPl o.sector o.offset).2).getD 0) lb.length (fun i m old => pUp (lb.getD i 0) m old)
            exact ⟨h1, h2, h5⟩
  · split
    · unfold Nor.erase
      split
      · exact ⟨rfl, rfl, rfl⟩
      · split
        · exact ⟨rfl, rfl, rfl⟩
        · split
          · exact ⟨rfl, rfl, rfl⟩
          · obtain ⟨h1, h2, _, _, h5⟩ := ha { N with wear := N.wear.set o.sector.toNat (N.wear.getD o.sector.toNat 0 + 1) } o.sector.toNat 0 N.Z (fun _ m old => eUp m old)
            exact ⟨h1, h2, h5⟩
    · split
      · exact ⟨rfl, rfl, rfl⟩
      · split
        · exact ⟨rfl, rfl, rfl⟩
        · split
          · unfold Nor.turn; split <;> exact ⟨rfl, rfl, rfl⟩
          · split <;> exact ⟨rfl, rfl, rfl⟩
theorem Bd.mono {N : Nor} {i j : Nat} (h : Bd N i) (hij : i ≤ j) : Bd N j := ⟨Nat.le_trans h.acts hij, Nat.le_trans h.offs hij, fun n hn => Nat.le_trans (h.wear n hn) hij, h.cut⟩
theorem doo_Bd {N : Nor} {j : Nat} (h : Bd N j) (o : OpV) (lb : List Nat) (g : Nat) (h64 : o.n ≤ 9223372036854775807) : Bd (N.doo o lb g) (j + 1) := by
  have hm := h.mono (Nat.le_succ j)
  unfold Nor.doo
  split
  · unfold Nor.prog
    split
    · exact hm
    · split
      · exact hm
      · split
        · exact hm
        · split
          · exact hm
          · exact act_Bd h _ _ _ _
  · split
    · unfold Nor.erase
      split
      · exact hm
      · split
        · exact hm
        · split
          · exact hm
          · have hx : N.wear.getD o.sector.toNat 0 ≤ j := by
              rw [List.getD_eq_getElem?_getD]
              cases hq : N.wear[o.sector.toNat]? with
              | none => exact Nat.zero_le _
              | some x => exact h.wear x (List.mem_of_getElem? hq)
            obtain ⟨q1, q2, q3, _, _⟩ := act_S { N with wear := N.wear.set o.sector.toNat (N.wear.getD o.sector.toNat 0 + 1) } o.sector.toNat 0 N.Z (fun _ m old => eUp m old)
            have hb0 : Bd { N with wear := [] } j := ⟨h.acts, h.offs, (fun n hn => by cases hn), h.cut⟩
            have hb1 := act_Bd hb0 o.sector.toNat 0 N.Z (fun _ m old => eUp m old)
            have hsame : ∀ (W : List Nat), (Nor.act { N with wear := W } o.sector.toNat 0 N.Z (fun _ m old => eUp m old)).2 = { (Nor.act { N with wear := [] } o.sector.toNat 0 N.Z (fun _ m old => eUp m old)).2 with wear := W } := by
              intro W
              unfold Nor.act
              cases hc : N.cut with
              | none => rfl
              | some c =>
                obtain ⟨c, b, m⟩ := c
                show (if 0 < c then _ else _ : Nat × Nor).2 = { (if 0 < c then _ else _ : Nat × Nor).2 with wear := W }
                split <;> rfl
            rw [hsame]
            refine ⟨hb1.acts, hb1.offs, fun n hn => ?_, hb1.cut⟩
            rcases List.mem_or_eq_of_mem_set hn with h1 | h1
            · have := h.wear n h1; omega
            · omega
    · split
      · exact hm
      · split
        · exact ⟨hm.acts, hm.offs, hm.wear, fun c hc => by injection hc with hc; subst hc; show o.n.toNat ≤ _; omega⟩
        · split
          · unfold Nor.turn
            split
            · exact hm
            · exact ⟨hm.acts, by have := h.offs; show N.offs + 1 ≤ _; omega, hm.wear, fun c hc => by cases hc⟩
          · split
            · exact ⟨hm.acts, hm.offs, hm.wear, hm.cut⟩
            · exact ⟨hm.acts, hm.offs, hm.wear, hm.cut⟩
end Go.Proofs.YtokpoogcoeodkaaGreatDoor

/- Does a device show the document's? -/
namespace Go.Proofs.YtokpoogcoeodkaaGreatDoor
open Go.RowKit Flo

theorem part_near {n : Nat} (h : n ≤ 2147483647) : part? (near n) = some n := part_some (nearest_Whole h)
theorem ofPl_in {a b : Nat} (ha : a ≤ 2147483647) (hb : b ≤ 2147483647) : ofPl a b = (near a, near b) := by unfold ofPl; rw [if_neg (by omega)]
theorem got_row {N : Nor} {s : Nat} {l : List Nat} (hoff : N.off = false) (hl : N.data[s]? = some l) (hs : s < N.S) (hS : N.S ≤ 64) (hll : l.length = N.Z) : N.got (near s) (near 0) N.Z = (l, 0) := by
  unfold Nor.got
  have h0 : part? (near 0) = some 0 := part_near (n := 0) (by decide)
  have h1 := part_near (n := s) (by omega)
  rw [if_neg (by rw [hoff]; decide), within_yes h1 h0, if_pos (by simp; omega), h1, h0]
  have : N.data.getD s [] = l := by rw [List.getD_eq_getElem?_getD, hl]; rfl
  show (((N.data.getD s []).drop 0).take ((N.Z : Int)).toNat, 0) = _
  rw [this, List.drop_zero, Int.toNat_natCast, ← hll, List.take_length]

end Go.Proofs.YtokpoogcoeodkaaGreatDoor

/- A row of operations under way: the device and the document's stand side by side. -/
namespace Go.Proofs.YtokpoogcoeodkaaGreatDoor
open Go.RowKit Flo

theorem mul_in {s z : Int} (hg : geoB s z = true) : 0 ≤ s * z ∧ s * z ≤ 64 * 4096 := by
  obtain ⟨q1, q2, q3, q4⟩ := geoB_yes hg
  exact ⟨Int.mul_nonneg (by omega) (by omega), Int.mul_le_mul q2 q4 (by omega) (by omega)⟩
def smallB (s z : Int) : Bool := geoB s z && decide (s * z ≤ 20000)
/-- An operation that came in. -/
structure OpIn (w : World) (o : OpV) (lb : List Nat) : Prop where
  bytes : Byt w (.slice o.A o.bn o.bc) lb
  lt : ∀ x ∈ lb, x < 256
  mask : o.mask < 256
  n64 : -9223372036854775808 ≤ o.n ∧ o.n ≤ 9223372036854775807
  k64 : -9223372036854775808 ≤ o.k ∧ o.k ≤ 9223372036854775807
theorem OpIn.len {w : World} {o : OpV} {lb : List Nat} (h : OpIn w o lb) : o.bn = lb.length := by have := h.bytes.len; rwa [List.length_map] at this
theorem OpIn.fit {w W : World} {o : OpV} {lb : List Nat} {O : Nat → Prop} (h : OpIn w o lb) (hb : Below w.heap.size w W) (hO : ∀ k, O k → w.heap.size ≤ k) (hs : lb.length ≤ 6000) : OpFit O W o lb where
  bytes := Sl.below h.bytes hb
  lt := h.lt
  far h0 := by
    intro b off n c he hq
    obtain ⟨b', off', hA, hlt, _⟩ := Byt.cell (n := o.bn) (cap := o.bc) (A := o.A) h.bytes h0
    injection he with he
    rw [hA] at he
    injection he with he
    injection he with he
    have := hO b hq
    omega
  small := hs
  n64 := h.n64
  k64 := h.k64
  mask := h.mask

/-- j operations are done. -/
structure PlaySt (w : World) (s z D0 gm : Nat) (W : World) (j : Nat) (N : Nor) (R : RV) (O : Nat → Prop) : Prop where
  dev : DevR O W N
  ref : RefR (fun k => O k ∨ k = gm) W R N
  box : W.heap[gm]? = some (Obj.cells (R.cells N) 33 (0, 0))
  ng : ¬ O gm
  ge : ∀ k, O k → w.heap.size ≤ k
  gg : w.heap.size ≤ gm
  bd : Bd N j
  S : N.S = s
  Z : N.Z = z
  D : N.D = D0
  mask : R.mask < 256
  left : R.left ≤ 9223372036854775807
  below : Below w.heap.size w W
theorem PlaySt.lt {w : World} {s z D0 gm : Nat} {W : World} {j : Nat} {N : Nor} {R : RV} {O : Nat → Prop} (h : PlaySt w s z D0 gm W j N R O) : gm < W.heap.size := (Array.getElem?_eq_some_iff.1 h.box).1
theorem RefR.cb {O : Nat → Prop} {w : World} {R : RV} {N : Nor} {o : OpV} {lb : List Nat} {g : Nat} (h : RefR O w R (N.doo o lb g)) : RefR O w R (N.doo o lb g) := h
theorem do_next {w : World} {s z D0 gm : Nat} {W : World} {j : Nat} {N : Nor} {R : RV} {O : Nat → Prop} (h : PlaySt w s z D0 gm W j N R O) (hj : j < 900) {o : OpV} {lb : List Nat} (ho : OpIn w o lb) (hs : lb.length ≤ 6000) :
    Calls Tryz.prog 11 #[.pointer (some ⟨D0, 0, none⟩), .agg (R.cells N), o.val] (W.alloc (.cells #[i64 o.kind, i64 o.sector, i64 o.offset, .slice o.A o.bn o.bc, i64 o.n, i64 o.k, bv o.mask] 43)) fun e w' => ∃ (R' : RV) (N' : Nor) (O' : Nat → Prop), e = .returned (.tuple #[.bool true, .agg (R'.cells N')]) ∧
      w'.heap[gm]? = some (Obj.cells (R.cells N) 33 (0, 0)) ∧ PlaySt w s z D0 gm (sets w' gm 0 (R'.cells N').toList) (j + 1) N' R' O' := by
  have hb1 : Below W.heap.size W (W.alloc (.cells #[i64 o.kind, i64 o.sector, i64 o.offset, .slice o.A o.bn o.bc, i64 o.n, i64 o.k, bv o.mask] 43)) := Base.al (Below.refl _ _) _
  have hgm := h.lt
  have fit : DoFit O (fun k => k = gm) (W.alloc (.cells #[i64 o.kind, i64 o.sector, i64 o.offset, .slice o.A o.bn o.bc, i64 o.n, i64 o.k, bv o.mask] 43)) N N R o lb :=
    ⟨h.dev.below hb1, h.ref.below hb1, fun k hk => by subst hk; exact Nat.lt_of_lt_of_le hgm hb1.size, rfl, rfl, h.bd.mono (by omega), h.bd.mono (by omega), h.mask, h.left, ho.fit (Base.tr h.below hb1) h.ge hs⟩
  have hD := h.D
  have := do_any fit
  rw [show ptrD N = .pointer (some ⟨D0, 0, none⟩) by rw [← hD]] at this
  refine this.mono ?_
  rintro e w' ⟨bb, R', O', g, rfl, hbb, hd, hr, hout, hO', hm, hl⟩
  have hS := doo_S N o lb g
  have ng' : ¬ O' gm := fun hq => by
    rcases hO' gm hq with h1 | h1
    · exact h.ng h1
    · have := hb1.size; omega
  have hbox : w'.heap[gm]? = some (Obj.cells (R.cells N) 33 (0, 0)) := hout.blk (blk_below h.box hb1) h.ng
  refine ⟨R', N.doo o lb g, O', by rw [hbb rfl], hbox, ?_⟩
  have so := sets_out (Q := fun k => k = gm) rfl (R'.cells (N.doo o lb g)).toList w' w' 0 (Out.refl _ _)
  exact { dev := hd.outQ so (fun k hk e => ng' (by rw [← show k = gm from e]; exact hk)), ref := hr.out (so.wide (fun k hk => .inr hk)), box := by have := sets_at hbox (R'.cells (N.doo o lb g)).toList rfl; simpa using this, ng := ng',
          ge := fun k hk => by { rcases hO' k hk with h1 | h1; exact h.ge k h1; have := hb1.size; have := h.below.size; omega }, gg := h.gg, bd := doo_Bd h.bd o lb g ho.n64.2, S := by rw [hS.1]; exact h.S, Z := by rw [hS.2.1]; exact h.Z, D := by rw [hS.2.2]; exact h.D, mask := hm, left := hl,
          below := (Base.tr h.below hb1).trans ((hout.base h.ge (Base.tr h.below hb1).size).trans (so.base (fun k hk => by rw [show k = gm from hk]; exact h.gg) (Nat.le_trans (Base.tr h.below hb1).size hout.size))) }
end Go.Proofs.YtokpoogcoeodkaaGreatDoor

/- The walk of NorPlays. -/
namespace Go.Proofs.YtokpoogcoeodkaaGreatDoor
open Go.RowKit Flo

theorem PlaySt.on {w : World} {s z D0 gm : Nat} {W W' : World} {j : Nat} {N : Nor} {R : RV} {O : Nat → Prop} (h : PlaySt w s z D0 gm W j N R O) (hb : Below W.heap.size W W') : PlaySt w s z D0 gm W' j N R O :=
  { h with dev := h.dev.below hb, ref := h.ref.below hb, box := blk_below h.box hb, below := Base.tr h.below hb }
theorem bd_fresh {N : Nor} {s z : Nat} (hf : Fresh N s z) : Bd N 0 := ⟨by rw [hf.acts]; exact Nat.le_refl _, by rw [hf.offs]; exact Nat.le_refl _, fun n hn => by rw [hf.wear] at hn; rw [(List.mem_replicate.1 hn).2]; exact Nat.le_refl _, fun c hc => by rw [hf.cut] at hc; cases hc⟩

end Go.Proofs.YtokpoogcoeodkaaGreatDoor

