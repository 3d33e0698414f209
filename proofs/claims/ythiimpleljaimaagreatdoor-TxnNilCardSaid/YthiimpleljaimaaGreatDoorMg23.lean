/- (*shelf.Shelf).opens: the walk. -/
import Derived.Test.YthiimpleljaimaaGreatDoorMg22
namespace Go.Proofs.YthiimpleljaimaaGreatDoor
open Go Go.RowKit Flo

set_option maxHeartbeats 16000000 in
set_option maxRecDepth 100000 in
theorem opens_any {O : Nat → Prop} {w : World} {N : Nor} {H : ShV} (h : ShD O w N H) (h1 : N.acts ≤ 1000000) (h2 : N.offs ≤ 1000000) (hcm : ∀ c, N.cut = some c → c.1 ≤ 9223372036854775807) :
    Calls Tryz.prog 206 #[H.ptr] w fun e w' => e = .returned (i64 (opensP N H).1) ∧ ShD O w' (opensP N H).2.2 (opensP N H).2.1 ∧ Out (shO O H) w w' := by
  have hgeo := h.dev.geoI
  have hgB := h.dev.geo
  have hpos : 0 < H.S := by rw [h.S]; omega
  have G1 := Lib.hid (infos_any h.dev h.sh h.D hpos)
  have HH := Lib.hid h
  have hS64 := h.sh.S64
  have hZ4 := h.sh.Z4
  have hlen : (seenL H N H.S).length = H.S := by rw [seenL_len, h.sh.il]
  have GW := fun W A m c (hy : Infos W (.slice A m c) (seenL H N H.S)) => Lib.hid (Write_any A m c (seenL H N H.S) W hy (by rw [hlen]; omega))
  have HLN := Lib.hid hlen
  obtain ⟨RES, hR⟩ : ∃ RES, opensP N H = RES := ⟨_, rfl⟩
  rw [hR]
  have HR := Lib.hid hR
  obtain ⟨pk, hpk⟩ : ∃ pk, pickW (seenL H N H.S) = pk := ⟨_, rfl⟩
  have HPK := Lib.hid hpk
  clear hpk hlen h hR
  cases pk with
  | none =>
    have hr : RES = (9, H, N) := by rw [← HR.out]; unfold opensP; rw [HPK.out]
    subst hr
    have hno := pickW_no HPK.out
    rw [hno] at GW
    clear hno
    go_enter Tryz.func206, Tryz.ntmps206
    go_wp2_with fail
    refine G1.out.mono ?_; rintro e x1 ⟨v, rfl, hown, hb1⟩
    obtain ⟨A1, n1, c1, rfl⟩ : ∃ A n c, v = .slice A n c := by
      rcases hown.2 with ⟨h1, _⟩ | ⟨g', c', _, h1, _⟩
      · exact ⟨_, _, _, h1⟩
      · exact ⟨_, _, _, h1⟩
    have G2 := GW x1 A1 n1 c1 (infos_own (by rw [HLN.out]; exact hown))
    clear GW hown
    go_wp2_with fail
    refine G2.out.mono ?_; rintro e x2 ⟨rfl, hb2⟩
    go_wp2_with fail
    go_ret
    exact ⟨rfl, HH.out.below (Base.tr hb1 hb2), Out.of_below (Base.tr hb1 hb2)⟩
  | some k =>
    obtain ⟨hk, hlk, hsk⟩ := pickW_lt HPK.out
    rw [hlk, hsk] at GW
    rw [HLN.out] at hk
    clear hlk hsk
    obtain ⟨a, b, c, d, e, f, g, i, hhd⟩ := eight (headOf_len H.S H.Z)
    have GO : ∀ W, Hid (Makes 233 #[geo H.S H.Z] W (.agg (arr8 a b c d e f g i))) := fun W => Lib.hid (headOf_any H.S H.Z W (by rw [HH.out.S, HH.out.Z]; exact hgB) a b c d e f g i hhd)
    have P0 : ∀ W, Hid (Gives 118 #[i64 k, i64 0] W (cx (near k) (near 0))) := fun W => Lib.hid (of_in k 0 W (by omega) (by omega) (by omega) (by omega))
    have HHD := Lib.hid hhd
    clear hhd
    go_enter Tryz.func206, Tryz.ntmps206
    go_wp2_with fail
    refine G1.out.mono ?_; rintro e9 x1 ⟨v, rfl, hown, hb1⟩
    obtain ⟨A1, n1, c1, rfl⟩ : ∃ A n c, v = .slice A n c := by
      rcases hown.2 with ⟨h1, _⟩ | ⟨g', c', _, h1, _⟩
      · exact ⟨_, _, _, h1⟩
      · exact ⟨_, _, _, h1⟩
    have G2 := GW x1 A1 n1 c1 (infos_own (by rw [HLN.out]; exact hown))
    clear GW hown
    go_wp2_with fail
    refine G2.out.mono ?_; rintro e8 x2 ⟨rfl, hb2⟩
    have h2' := HH.out.below (Base.tr hb1 hb2)
    have B2 := Lib.hid (Base.tr hb1 hb2)
    have c5 : x2.cell? ⟨H.SB, 5, none⟩ = some (.int .i64 H.op) := cell_blk h2'.sh.hS 5
    have fS := fun o => frozen_blk h2'.sh.hS o
    have HD2 := Lib.hid h2'
    clear h2' hb1 hb2 G1 G2
    have hp3 := Lib.hid (HD2.out.setOp (k : Int))
    have o3 := Lib.hid ((Out.of_below (O := shO O H) B2.out).set (.inr (.inl rfl)) 5 (.int .i64 (k : Int)))
    go_upto_region 5 with fail
    generalize x2.setCell _ _ = x3 at *
    clear c5 fS HD2 B2
    have g1 : x3.cell? ⟨H.SB, 1, none⟩ = some (i64 H.S) := cell_blk hp3.out.sh.hS 1
    have g2 : x3.cell? ⟨H.SB, 2, none⟩ = some (i64 H.Z) := cell_blk hp3.out.sh.hS 2
    go_wp2_with fail
    refine (GO _).out.mono ?_; rintro e7 x4 ⟨rfl, hb4⟩
    have hp4 := Lib.hid (hp3.out.below hb4)
    have o4 := Lib.hid (o3.out.then hb4)
    clear g1 g2 hb4 GO hp3 o3
    go_upto_region 6 with fail
    have B5 := blk_new x4 (.cells (arr8 a b c d e f g i) 325)
    have hb5 := Base.al (Below.refl _ x4) (.cells (arr8 a b c d e f g i) 325)
    have hp5 := Lib.hid (hp4.out.below hb5)
    have o5 := Lib.hid (o4.out.then hb5)
    have hO5 : ¬ O x4.heap.size := fun hO => by have := hp4.out.dev.lim _ hO; omega
    have BY := Lib.hid B5
    have hz5 : x4.heap.size < (x4.alloc (.cells (arr8 a b c d e f g i) 325)).heap.size := (Array.getElem?_eq_some_iff.1 B5).1
    generalize x4.alloc _ = x5 at *
    generalize x4.heap.size = hb at *
    have c0 : x5.cell? ⟨H.SB, 0, none⟩ = some (.pointer (some ⟨H.D, 0, none⟩)) := cell_blk hp5.out.sh.hS 0
    have zS : H.SB < x5.heap.size := (Array.getElem?_eq_some_iff.1 hp5.out.sh.hS).1
    have nS : ¬ O H.SB := hp5.out.far _ (.inl rfl)
    have q0 := fun p : OutOf O x5 => out_rd zS nS c0 p
    have hy5 : Byt x5 (.slice (some ⟨hb, 0, none⟩) 8 8) (headOf H.S H.Z) := by
      have := Byt.blk (l := headOf H.S H.Z) (w := x5) (g := hb) (t := 325) (fr := (0, 0)) (by rw [HHD.out]; exact BY.out) (by rw [headOf_len]; decide)
      rw [headOf_len] at this
      exact this
    obtain ⟨pe, N', hpe⟩ : ∃ pe N', N.prog (near k) (near 0) (headOf H.S H.Z) = (pe, N') := ⟨_, _, rfl⟩
    have hSS := prog_S0 N (near k) (near 0) (headOf H.S H.Z)
    have HSS := Lib.hid hSS
    have GP : ∀ W, (hW : Out O x5 W) → DevR O W N → Byt W (.slice (some ⟨hb, 0, none⟩) 8 8) (headOf H.S H.Z) → Hid (Calls Tryz.prog 208 #[.pointer (some ⟨H.D, 0, none⟩), cx (near k) (near 0), .slice (some ⟨hb, 0, none⟩) 8 8] W fun e w' => e = .returned (i64 pe) ∧ DevR O w' N' ∧ Out O W w') := fun W hW hdW hyW => by
      have := prog_any hdW h1 h2 hcm (near k) (near 0) (some ⟨hb, 0, none⟩) 8 8 (headOf H.S H.Z) hyW (headOf_lt _ _) (fun b off n c he hO => by injection he with he; injection he with he; injection he with he; subst he; exact hO5 hO) (by rw [headOf_len]; decide)
      rw [show ptrD N = .pointer (some ⟨H.D, 0, none⟩) by rw [hp5.out.D]] at this
      rw [hpe] at this
      exact Lib.hid this
    rw [hpe] at HSS
    have HPE := Lib.hid hpe
    clear hSS hpe hz5 o4 hp4 B5 hb5 c0
    go_wp2_with fail
    refine wp_region_po (fun w' => ∃ p : OutOf O x5, w' = p.v) 10 [7, 9] (by kernel_rfl) (by kernel_rfl) ⟨⟨_, Out.of_below (Base.dr (Below.refl _ _))⟩, rfl⟩ ?_
    simp only [List.take_succ_cons, List.take_zero, List.drop_succ_cons, List.drop_zero]
    have on0 := @on_rd0; have on1 := @on_rd1; have on2 := @on_rd2; have on3 := @on_new1; have on4 := @on_new2; have on5 := @gr_rd0
    repeat ((with_reducible refine seq_read ?_ ?_); (focus rfl); (intro K hK); (unfold readsAt); go_simp; first | ((with_reducible refine hK _ ?_); clear hK K) | (rw [if_neg (by intro h; cases h)]; (with_reducible refine hK _ ?_); clear hK K))
    refine seq_eff (by rfl) (by first | rfl | go_simp) ?_
    intro K hK
    unfold effAt2
    go_simp
    refine ⟨rfl, (P0 _).out.mono ?_⟩; rintro e6 x6 ⟨rfl, rfl⟩
    refine ⟨_, rfl, ⟨⟨_, Out.of_below (Base.dr (Below.refl _ _))⟩, rfl⟩, hK _ _ ?_⟩
    clear hK K
    repeat ((with_reducible refine seq_read ?_ ?_); (focus rfl); (intro K hK); (unfold readsAt); go_simp; first | ((with_reducible refine hK _ ?_); clear hK K) | (rw [if_neg (by intro h; cases h)]; (with_reducible refine hK _ ?_); clear hK K))
    refine seq_eff (by rfl) (by first | rfl | go_simp) ?_
    intro K hK
    unfold effAt2
    go_simp
    refine ⟨rfl, (GP _ (Out.of_below (Base.dr (Below.refl _ _))) hp5.out.dev.dr (Sl.below hy5 (Base.dr (Below.refl _ _)))).out.mono ?_⟩; rintro e6 x7 ⟨rfl, hd7, ho7⟩
    refine ⟨_, rfl, ⟨⟨_, (Out.of_below (Base.dr (Below.refl _ _))).trans ho7⟩, rfl⟩, hK _ _ ?_⟩
    clear hK K
    repeat ((with_reducible refine seq_read ?_ ?_); (focus rfl); (intro K hK); (unfold readsAt); go_simp; first | ((with_reducible refine hK _ ?_); clear hK K) | (rw [if_neg (by intro h; cases h)]; (with_reducible refine hK _ ?_); clear hK K))
    clear on0 on1 on2 on3 on4 on5
    with_reducible refine seq_nil ?_
    have ho7' : Out O x5 x7 := (Out.of_below (Base.dr (Below.refl _ _))).trans ho7
    have hp7 := Lib.hid (hp5.out.acted hd7 ho7' HSS.out.1 HSS.out.2.1 HSS.out.2.2)
    have o7 := Lib.hid (o5.out.trans (ho7'.wide (fun q hq => .inl hq)))
    have GF := Lib.hid (failed_any hp7.out.sh k pe hk)
    clear q0 GP ho7 ho7' hd7 hy5 BY hp5 o5 P0
    go_wp2_with fail
    refine GF.out.mono ?_; rintro e5 x8 ⟨rfl, hs8, ho8⟩
    have hp8 := Lib.hid (hp7.out.failed hs8 ho8)
    have o8 := Lib.hid (o7.out.trans (O := shO O H) (ho8.wide (fun q hq => .inr hq)))
    obtain ⟨y, hy⟩ : ∃ y, (({ H with op := (k : Int) } : ShV).failed k pe).il[k]? = some y := ⟨_, List.getElem?_eq_getElem (by rw [hs8.il]; exact hk)⟩
    have hyd : (({ H with op := (k : Int) } : ShV).failed k pe).il.getD k noInfo = y := by rw [List.getD_eq_getElem?_getD, hy]; rfl
    have HY := Lib.hid (And.intro hy hyd)
    clear hs8 ho8 hp7 o7 GF hy hyd
    have hkI : (k : Int) < (H.S : Int) := by omega
    have hS64' := hS64
    by_cases he0 : pe = 0
    · subst he0
      have hr : RES = (0, { ({ H with op := (k : Int) } : ShV).failed k 0 with il := (({ H with op := (k : Int) } : ShV).failed k 0).il.set k { y with cls := 1, age := 0, need := 0 }, el := (({ H with op := (k : Int) } : ShV).failed k 0).el.set k 8 }, N') := by
        rw [← HR.out]
        unfold opensP
        rw [HPK.out]
        simp only [HPE.out, if_true, HY.out.2]
      subst hr
      have hp9 := hp8.out
      have hkl := (List.getElem?_eq_some_iff.1 HY.out.1).1
      have s1 : ShD O (x8.setCell ⟨H.LB, k * 6, none⟩ (.int .i64 1)) N' _ := hp9.setI (x' := { y with cls := 1 }) HY.out.1 0 (by decide) (.int .i64 1) rfl
      have e1 : ((({ H with op := (k : Int) } : ShV).failed k 0).il.set k { y with cls := 1 })[k]? = some { y with cls := 1 } := List.getElem?_set_self hkl
      have s2 := s1.setI (x := { y with cls := 1 }) (x' := { y with cls := 1, age := 0 }) e1 3 (by decide) (.int .u64 0) rfl
      have e2 : (((({ H with op := (k : Int) } : ShV).failed k 0).il.set k { y with cls := 1 }).set k { y with cls := 1, age := 0 })[k]? = some { y with cls := 1, age := 0 } := List.getElem?_set_self (by rw [List.length_set]; exact hkl)
      have s3 := s2.setI (x := { y with cls := 1, age := 0 }) (x' := { y with cls := 1, age := 0, need := 0 }) e2 4 (by decide) (.int .i64 0) rfl
      have hset : ((((({ H with op := (k : Int) } : ShV).failed k 0).il.set k { y with cls := 1 }).set k { y with cls := 1, age := 0 }).set k { y with cls := 1, age := 0, need := 0 }) = (({ H with op := (k : Int) } : ShV).failed k 0).il.set k { y with cls := 1, age := 0, need := 0 } := by rw [List.set_set, List.set_set]
      have s3' : ShD O (((x8.setCell ⟨H.LB, k * 6, none⟩ (.int .i64 1)).setCell ⟨H.LB, k * 6 + 3, none⟩ (.int .u64 0)).setCell ⟨H.LB, k * 6 + 4, none⟩ (.int .i64 0)).drew N' { ({ H with op := (k : Int) } : ShV).failed k 0 with il := (({ H with op := (k : Int) } : ShV).failed k 0).il.set k { y with cls := 1, age := 0, need := 0 } } := by
        rw [← hset]
        exact s3.below (Base.dr (Below.refl _ _))
      have os : Out (shO O H) w (((x8.setCell ⟨H.LB, k * 6, none⟩ (.int .i64 1)).setCell ⟨H.LB, k * 6 + 3, none⟩ (.int .u64 0)).setCell ⟨H.LB, k * 6 + 4, none⟩ (.int .i64 0)).drew :=
        (((o8.out.set (.inr (.inr (.inl rfl))) _ _).set (.inr (.inr (.inl rfl))) _ _).set (.inr (.inr (.inl rfl))) _ _).then (Base.dr (Below.refl _ _))
      have c3 : x8.cell? ⟨H.SB, 3, none⟩ = some (.slice (some ⟨H.LB, 0, none⟩) H.S H.lc) := cell_blk hp8.out.sh.hS 3
      have zS : H.SB < x8.heap.size := (Array.getElem?_eq_some_iff.1 hp8.out.sh.hS).1
      have nSL : some H.SB ≠ some H.LB := fun e => hp8.out.sh.apart.1 (by injection e)
      have q3 := fun p : GrOf x8 (some H.LB) => (gr_rd0 p zS nSL).trans c3
      have ck : x8.cell? ⟨H.LB, k * 6, none⟩ = some (i64 y.cls) := hp9.sh.info HY.out.1 0 (by decide)
      have ck3 : x8.cell? ⟨H.LB, k * 6 + 3, none⟩ = some (.int .u64 y.age) := hp9.sh.info HY.out.1 3 (by decide)
      have ck4 : x8.cell? ⟨H.LB, k * 6 + 4, none⟩ = some (i64 y.need) := hp9.sh.info HY.out.1 4 (by decide)
      obtain ⟨jL, hL⟩ := hp9.sh.hL
      have fL : ∀ o, x8.frozen? ⟨H.LB, o, none⟩ = false := fun o => frozen_blk hL o
      have S3 := Lib.hid s3'
      have OS := Lib.hid os
      clear hL s1 s2 s3 s3' os hset e1 e2 hkl hp9
      go_wp2_with fail
      refine wp_region_po (fun w' => ∃ p : GrOf x8 (some H.LB), w' = p.v) 24 [17, 20, 23] (by kernel_rfl) (by kernel_rfl) ⟨⟨_, grown_dr (grown_same _ _)⟩, rfl⟩ ?_
      simp only [List.take_succ_cons, List.take_zero, List.drop_succ_cons, List.drop_zero]
      have on0 := @on_rd0; have on1 := @on_rd1; have on2 := @on_rd2; have on3 := @on_new1; have on4 := @on_new2; have on5 := @gr_rd0
      repeat ((with_reducible refine seq_read ?_ ?_); (focus rfl); (intro K hK); (unfold readsAt); go_simp; first | ((with_reducible refine hK _ ?_); clear hK K) | (rw [if_neg (by intro h; cases h)]; (with_reducible refine hK _ ?_); clear hK K))
      refine seq_eff (by rfl) (by first | rfl | go_simp) ?_
      intro K hK
      unfold effAt2
      go_simp
      refine ⟨⟨⟨_, grown_setCell (grown_dr (grown_same _ _)) _ _⟩, rfl⟩, hK _ _ ?_⟩
      clear hK K
      repeat ((with_reducible refine seq_read ?_ ?_); (focus rfl); (intro K hK); (unfold readsAt); go_simp; first | ((with_reducible refine hK _ ?_); clear hK K) | (rw [if_neg (by intro h; cases h)]; (with_reducible refine hK _ ?_); clear hK K))
      refine seq_eff (by rfl) (by first | rfl | go_simp) ?_
      intro K hK
      unfold effAt2
      go_simp
      refine ⟨⟨⟨_, grown_setCell (grown_setCell (grown_dr (grown_same _ _)) _ _) _ _⟩, rfl⟩, hK _ _ ?_⟩
      clear hK K
      repeat ((with_reducible refine seq_read ?_ ?_); (focus rfl); (intro K hK); (unfold readsAt); go_simp; first | ((with_reducible refine hK _ ?_); clear hK K) | (rw [if_neg (by intro h; cases h)]; (with_reducible refine hK _ ?_); clear hK K))
      refine seq_eff (by rfl) (by first | rfl | go_simp) ?_
      intro K hK
      unfold effAt2
      go_simp
      refine ⟨⟨⟨_, grown_setCell (grown_setCell (grown_setCell (grown_dr (grown_same _ _)) _ _) _ _) _ _⟩, rfl⟩, hK _ _ ?_⟩
      clear hK K
      clear on0 on1 on2 on3 on4 on5
      with_reducible refine seq_nil ?_
      generalize World.drew _ = x9 at *
      have c4 : x9.cell? ⟨H.SB, 4, none⟩ = some (.slice (some ⟨H.EB, 0, none⟩) H.S H.ec) := cell_blk S3.out.sh.hS 4
      obtain ⟨n9, hn9⟩ : ∃ n, (({ H with op := (k : Int) } : ShV).failed k 0).el[k]? = some n := ⟨_, List.getElem?_eq_getElem (by rw [S3.out.sh.el]; exact hk)⟩
      have cE : x9.cell? ⟨H.EB, k, none⟩ = some (i64 n9) := S3.out.sh.endAt hn9
      obtain ⟨jE, hE⟩ := S3.out.sh.hE
      have fE : ∀ o, x9.frozen? ⟨H.EB, o, none⟩ = false := fun o => frozen_blk hE o
      have S9 := Lib.hid (S3.out.setE k 8 hk)
      have O9 := Lib.hid (OS.out.set (g := H.EB) (.inr (.inr (.inr rfl))) k (i64 (8 : Nat)))
      clear hE hn9 q3 ck ck3 ck4 fL c3 S3 OS nSL zS
      go_wp2_with fail
      go_ret
      exact ⟨rfl, S9.out, O9.out⟩
    · have te : ((pe : Int) == 0) = false := by rw [beq_eq_false_iff_ne]; omega
      have te' : ((pe : Int) != 0) = true := by rw [bne_iff_ne]; omega
      by_cases he8 : pe = 8
      · subst he8
        have hr : RES = (8, ({ H with op := (k : Int) } : ShV).failed k 8, N') := by
          rw [← HR.out]
          unfold opensP
          rw [HPK.out]
          simp only [HPE.out]
          rfl
        subst hr
        go_wp2_with fail
        go_ret
        exact ⟨rfl, hp8.out, o8.out⟩
      · have te8 : ((pe : Int) == 8) = false := by rw [beq_eq_false_iff_ne]; omega
        have te8' : ((pe : Int) != 8) = true := by rw [bne_iff_ne]; omega
        have hr : RES = (pe, { ({ H with op := (k : Int) } : ShV).failed k pe with il := (({ H with op := (k : Int) } : ShV).failed k pe).il.set k { y with cls := 2 } }, N') := by
          rw [← HR.out]
          unfold opensP
          rw [HPK.out]
          simp only [HPE.out, if_neg he0, if_neg he8, HY.out.2]
        subst hr
        have s1 := Lib.hid (hp8.out.setI (x' := { y with cls := 2 }) HY.out.1 0 (by decide) (.int .i64 2) rfl)
        have os := Lib.hid (o8.out.set (g := H.LB) (.inr (.inr (.inl rfl))) (k * 6 + 0) (.int .i64 2))
        have c3 : x8.cell? ⟨H.SB, 3, none⟩ = some (.slice (some ⟨H.LB, 0, none⟩) H.S H.lc) := cell_blk hp8.out.sh.hS 3
        have ck : x8.cell? ⟨H.LB, k * 6, none⟩ = some (i64 y.cls) := hp8.out.sh.info HY.out.1 0 (by decide)
        obtain ⟨jL, hL⟩ := hp8.out.sh.hL
        have fL : ∀ o, x8.frozen? ⟨H.LB, o, none⟩ = false := fun o => frozen_blk hL o
        clear hL he0 he8
        go_wp2_with fail
        go_ret
        exact ⟨rfl, s1.out, os.out⟩
end Go.Proofs.YthiimpleljaimaaGreatDoor

/- Bytes are written on a shelf: what comes of it. -/
namespace Go.Proofs.YthiimpleljaimaaGreatDoor
open Go Go.RowKit Flo

/-- The open sector is one of the shelf's; no end is behind a sector's end. -/
structure ShOk (H : ShV) (a : Option Nat) : Prop where
  op : H.op = atV a
  lt : ∀ k, a = some k → k < H.S
  el : ∀ n ∈ H.el, n ≤ H.Z
theorem opens_ok {N : Nor} {H H' : ShV} {N' : Nor} (h : opensP N H = (0, H', N')) (hil : H.il.length = H.S) (hel : ∀ n ∈ H.el, n ≤ H.Z) (hZ : 8 ≤ H.Z) : ∃ k : Nat, H'.op = (k : Int) ∧ k < H.S ∧ H'.S = H.S ∧ H'.Z = H.Z ∧ H'.D = H.D ∧ H'.SB = H.SB ∧ H'.LB = H.LB ∧ H'.EB = H.EB ∧ (∀ n ∈ H'.el, n ≤ H.Z) := by
  unfold opensP at h
  cases hp : pickW (seenL H N H.S) with
  | none => rw [hp] at h; injection h with h1 h2; cases h1
  | some k =>
    have hk := (pickW_lt hp).1
    rw [seenL_len, hil] at hk
    rw [hp] at h
    simp only at h
    split at h
    · rename_i h0
      injection h with _ h2
      injection h2 with h2 h3
      subst h2
      refine ⟨k, ?_, hk, rfl, rfl, rfl, rfl, rfl, rfl, ?_⟩
      · show (if _ ∧ _ then _ else _) = _
        rw [h0, if_neg (by intro h; exact h.1 rfl)]
      · intro n hn
        rcases List.mem_or_eq_of_mem_set hn with h1 | h1
        · exact hel n h1
        · omega
    · rename_i h0
      split at h
      · injection h with h1 _; exact absurd h1 h0
      · injection h with h1 _; exact absurd h1 h0
/-- Bytes written into the open sector. -/
noncomputable def writeAt (N : Nor) (H : ShV) (k : Nat) (b : List Nat) (age : Int) : (Nat × Nat) × Nat × ShV × Nor :=
  let p := N.prog (near k) (near (H.el.getD k 0)) b
  let H1 := H.failed k p.1
  if p.1 = 0 then ((near k, near (H.el.getD k 0)), 0, { H1 with el := H1.el.set k (H.el.getD k 0 + b.length), il := H1.il.set k { H1.il.getD k noInfo with age := max (H1.il.getD k noInfo).age age } }, p.2)
  else ((0, 0), p.1, H1, p.2)
/-- What a write comes to: the place, the error's number, the shelf, the device. -/
noncomputable def writeP (N : Nor) (H : ShV) (a : Option Nat) (b : List Nat) (age : Int) : (Nat × Nat) × Nat × ShV × Nor :=
  if fitsB H.Z b.length then
    if needB H.Z a (H.el.getD (a.getD 0) 0) b.length then
      let q := opensP N { H with op := -1 }
      if q.1 = 0 then writeAt q.2.2 q.2.1 q.2.1.op.toNat b age else ((0, 0), q.1, q.2.1, q.2.2)
    else writeAt N H (a.getD 0) b age
  else ((0, 0), 4, H, N)
end Go.Proofs.YthiimpleljaimaaGreatDoor

/- (*shelf.Shelf).Write: the walk. -/
namespace Go.Proofs.YthiimpleljaimaaGreatDoor
open Go Go.RowKit Flo

set_option maxHeartbeats 16000000 in
set_option maxRecDepth 100000 in
theorem shWrite_any {O : Nat → Prop} {w : World} {N : Nor} {H : ShV} (h : ShD O w N H) (a0 : Option Nat) (hok : ShOk H a0) (h1 : N.acts ≤ 900000) (h2 : N.offs ≤ 900000) (hcm : ∀ c, N.cut = some c → c.1 ≤ 9223372036854775807)
    (A : Option Addr) (m cap : Nat) (b : List Nat) (age : Int) (hy : Byt w (.slice A m cap) b) (hb8 : ∀ x ∈ b, x < 256) (hfar : Far (shO O H) (.slice A m cap)) (hm : b.length ≤ 100000)
    (hbd : ∀ H' N', opensP N { H with op := -1 } = (0, H', N') → N'.acts ≤ 1000000 ∧ N'.offs ≤ 1000000 ∧ ∀ c, N'.cut = some c → c.1 ≤ 9223372036854775807) :
    Calls Tryz.prog 141 #[H.ptr, .slice A m cap, .int .u64 age] w fun e w' => e = .returned (.tuple #[cx (writeP N H a0 b age).1.1 (writeP N H a0 b age).1.2, i64 (writeP N H a0 b age).2.1]) ∧ ShD O w' (writeP N H a0 b age).2.2.2 (writeP N H a0 b age).2.2.1 ∧ Out (shO O H) w w' := by
  have hgeo := h.dev.geoI
  have hmb := hy.len
  rw [List.length_map] at hmb
  subst hmb
  have hpos : 0 < H.S := by rw [h.S]; omega
  have hZ8 : 8 ≤ H.Z := by rw [h.Z]; omega
  have hS64 := h.sh.S64
  have hZ4 := h.sh.Z4
  have GF := Lib.hid (fits_any h.sh (b.length : Int))
  have HH := Lib.hid h
  have HOK := Lib.hid hok
  have HY := Lib.hid hy
  have HFAR := Lib.hid hfar
  have HBD := Lib.hid hbd
  obtain ⟨RES, hR⟩ : ∃ RES, writeP N H a0 b age = RES := ⟨_, rfl⟩
  rw [hR]
  have HR := Lib.hid hR
  obtain ⟨fb, hfb⟩ : ∃ fb, fitsB H.Z b.length = fb := ⟨_, rfl⟩
  rw [hfb] at GF
  have HFB := Lib.hid hfb
  clear hR hfb hy hfar hbd h hok
  cases fb with
  | false =>
    have hr : RES = ((0, 0), 4, H, N) := by rw [← HR.out]; unfold writeP; rw [HFB.out]; rfl
    subst hr
    go_enter Tryz.func141, Tryz.ntmps141
    go_wp2_with fail
    refine GF.out.mono ?_; rintro e1 w1 ⟨rfl, rfl⟩
    go_wp2_with fail
    go_ret2
    exact ⟨rfl, HH.out, Out.refl _ _⟩
  | true =>
    have hfit := HFB.out
    unfold fitsB at hfit
    rw [Bool.and_eq_true, decide_eq_true_iff, decide_eq_true_iff] at hfit
    obtain ⟨hb1, hbZ⟩ := hfit
    obtain ⟨need, hneed⟩ : ∃ need, needB H.Z a0 (H.el.getD (a0.getD 0) 0) b.length = need := ⟨_, rfl⟩
    have HNE := Lib.hid hneed
    clear hneed
    go_enter Tryz.func141, Tryz.ntmps141
    go_wp2_with fail
    refine GF.out.mono ?_; rintro e1 w1 ⟨rfl, rfl⟩
    go_upto_region 5 with fail
    go_cut [42] (fun t wc => t = .bool need ∧ Hid (Below w1.heap.size w1 wc))
    case first =>
      have c5 : w1.cell? ⟨H.SB, 5, none⟩ = some (.int .i64 H.op) := cell_blk HH.out.sh.hS 5
      have c4 : w1.cell? ⟨H.SB, 4, none⟩ = some (.slice (some ⟨H.EB, 0, none⟩) H.S H.ec) := cell_blk HH.out.sh.hS 4
      have zS : H.SB < w1.heap.size := (Array.getElem?_eq_some_iff.1 HH.out.sh.hS).1
      have hop := HOK.out.op
      rw [hop] at c5
      clear hop
      cases a0 with
      | none =>
        have hne : need = true := by rw [← HNE.out]; rfl
        subst hne
        simp only [atV] at c5
        have q5 := fun p : OnOf w1 => on_cell zS c5 p
        go_wp2_with fail
        refine wp_region_quiet_on (by kernel_rfl) (by kernel_rfl) ?_
        repeat ((with_reducible refine wpQuiet_step (fun K hK => ?_)); go_simp; first | ((with_reducible refine hK _ ?_); clear hK K) | (rw [if_neg (by intro h; cases h)]; (with_reducible refine hK _ ?_); clear hK K) | (apply Exists.intro; refine ⟨fun _ => ?_, hK _ ?_⟩; (fail); clear hK K))
        with_reducible refine wpQuiet_nil ?_
        intro _ hw'
        obtain ⟨pq, hw''⟩ := hw'
        subst hw''
        go_wp2_with fail
        go_meet
        case rel => exact ⟨rfl, Lib.hid pq.h⟩
      | some k =>
        have hk := HOK.out.lt k rfl
        have hkI : (k : Int) < (H.S : Int) := by omega
        simp only [atV] at c5
        have tk : ((k : Int) == -1) = false := by rw [beq_eq_false_iff_ne]; omega
        obtain ⟨en, hen⟩ : ∃ en, H.el[k]? = some en := ⟨_, List.getElem?_eq_getElem (by rw [HH.out.sh.el]; exact hk)⟩
        have hend : H.el.getD k 0 = en := by rw [List.getD_eq_getElem?_getD, hen]; rfl
        have henZ := HOK.out.el en (List.mem_of_getElem? hen)
        have hne : need = decide ((H.Z : Int) - (en : Int) < (b.length : Int)) := by rw [← HNE.out, ← hend]; rfl
        subst hne
        have cE : w1.cell? ⟨H.EB, k, none⟩ = some (i64 en) := HH.out.sh.endAt hen
        obtain ⟨jE, hE⟩ := HH.out.sh.hE
        have zE : H.EB < w1.heap.size := (Array.getElem?_eq_some_iff.1 hE).1
        have q5 := fun p : OnOf w1 => on_cell zS c5 p
        have q4 := fun p : OnOf w1 => on_cell zS c4 p
        have qE := fun p : OnOf w1 => on_cell zE cE p
        have GR := fun p : OnOf w1 => Lib.hid (room_any (HH.out.sh.below p.h) (en : Int) (by omega) (by omega))
        clear hE hen hend
        go_wp2_with fail
        refine wp_region_quiet_on (by kernel_rfl) (by kernel_rfl) ?_
        repeat ((with_reducible refine wpQuiet_step (fun K hK => ?_)); go_simp; first | ((with_reducible refine hK _ ?_); clear hK K) | (rw [if_neg (by intro h; cases h)]; (with_reducible refine hK _ ?_); clear hK K) | (apply Exists.intro; refine ⟨fun _ => ?_, hK _ ?_⟩; (with_reducible exact on_of_same (GR _).out); clear hK K))
        with_reducible refine wpQuiet_nil ?_
        intro _ hw'
        obtain ⟨pq, hw''⟩ := hw'
        subst hw''
        go_wp2_with fail
        go_meet
        case rel => exact ⟨rfl, Lib.hid pq.h⟩
    case rest =>
      obtain ⟨rfl, hbc⟩ := hcut
      have hc := Lib.hid (HH.out.below hbc.out)
      have oc := Lib.hid (Out.of_below (O := shO O H) hbc.out)
      clear hbc GF
      go_upto_if 42 with fail
      go_cut [] (fun wd => ∃ (N2 : Nor) (H2 : ShV) (k : Nat), Hid (ShD O wd N2 H2 ∧ H2.op = (k : Int) ∧ k < H2.S ∧ H2.SB = H.SB ∧ H2.LB = H.LB ∧ H2.EB = H.EB ∧ H2.S = H.S ∧ H2.Z = H.Z ∧ (∀ n ∈ H2.el, n ≤ H.Z)) ∧ Hid (Out (shO O H) w1 wd) ∧ Hid (RES = writeAt N2 H2 k b age) ∧ Hid (N2.acts ≤ 1000000 ∧ N2.offs ≤ 1000000 ∧ ∀ c, N2.cut = some c → c.1 ≤ 9223372036854775807))
      case first =>
        cases need with
        | true =>
          have hr0 : RES = (if (opensP N { H with op := -1 }).1 = 0 then writeAt (opensP N { H with op := -1 }).2.2 (opensP N { H with op := -1 }).2.1 (opensP N { H with op := -1 }).2.1.op.toNat b age else ((0, 0), (opensP N { H with op := -1 }).1, (opensP N { H with op := -1 }).2.1, (opensP N { H with op := -1 }).2.2)) := by
            rw [← HR.out]; unfold writeP; rw [HFB.out, HNE.out]; rfl
          have s3 := Lib.hid (hc.out.setOp (-1))
          have o3 := Lib.hid (oc.out.set (g := H.SB) (.inr (.inl rfl)) 5 (.int .i64 (-1)))
          have c5 : wc.cell? ⟨H.SB, 5, none⟩ = some (.int .i64 H.op) := cell_blk hc.out.sh.hS 5
          have fS := fun o => frozen_blk hc.out.sh.hS o
          have HR0 := Lib.hid hr0
          clear hr0
          go_upto_region 7 with fail
          generalize wc.setCell _ _ = w3 at *
          clear c5 fS
          have GO := opens_any s3.out (by omega) (by omega) hcm
          have OK := fun H' N' hq => opens_ok (N := N) (H := { H with op := -1 }) (H' := H') (N' := N') hq HH.out.sh.il HOK.out.el hZ8
          obtain ⟨pe, H2, N2, hq⟩ : ∃ pe H2 N2, opensP N { H with op := -1 } = (pe, H2, N2) := ⟨_, _, _, rfl⟩
          rw [hq] at GO
          have HR1 := HR0.out
          rw [hq] at HR1
          have GO := Lib.hid GO
          have HR1 := Lib.hid HR1
          have HQ := Lib.hid hq
          clear hq HR0 HR
          go_wp2_with fail
          refine GO.out.mono ?_; rintro e4 w4 ⟨rfl, hs4, ho4⟩
          have o4 := o3.out.trans (O := shO O H) ho4
          by_cases he : pe = 0
          · subst he
            have OKK := OK H2 N2 HQ.out
            obtain ⟨k, k1, k2, k3, k4, k5, k6, k7, k8, k9⟩ := OKK
            have hrr : RES = writeAt N2 H2 k b age := by rw [HR1.out]; simp only [if_true]; rw [k1]; rfl
            have HB := HBD.out H2 N2 HQ.out
            have FIN := Lib.hid (And.intro hs4 (And.intro k1 (And.intro (show k < H2.S by rw [k3]; exact k2) (And.intro k6 (And.intro k7 (And.intro k8 (And.intro k3 (And.intro k4 k9))))))))
            have O4 := Lib.hid o4
            have HRR := Lib.hid hrr
            have HBB := Lib.hid HB
            clear k1 k2 k3 k4 k5 k6 k7 k8 k9 hrr HB OK hs4 ho4 o4
            go_wp2_with fail
            go_meet
            case rel => exact ⟨N2, H2, k, FIN, O4, HRR, HBB⟩
          · have te : ((pe : Int) == 0) = false := by rw [beq_eq_false_iff_ne]; omega
            have te' : ((pe : Int) != 0) = true := by rw [bne_iff_ne]; omega
            have hrr : RES = ((0, 0), pe, H2, N2) := by rw [HR1.out]; simp only [if_neg he]
            subst hrr
            clear HR1
            go_wp2_with fail
            go_ret2
            exact ⟨rfl, hs4, o4⟩
        | false =>
          obtain ⟨k, rfl⟩ : ∃ k, a0 = some k := by
            cases a0 with
            | none => have := HNE.out; cases this
            | some k => exact ⟨k, rfl⟩
          have hrr : RES = writeAt N H k b age := by rw [← HR.out]; unfold writeP; rw [HFB.out, HNE.out]; rfl
          have HRR := Lib.hid hrr
          have HBB := Lib.hid (And.intro (show N.acts ≤ 1000000 by omega) (And.intro (show N.offs ≤ 1000000 by omega) hcm))
          clear hrr
          go_wp2_with fail
          go_meet
          case rel => exact ⟨N, H, k, Lib.hid ⟨hc.out, HOK.out.op, HOK.out.lt k rfl, rfl, rfl, rfl, rfl, rfl, HOK.out.el⟩, oc, HRR, HBB⟩
      case rest =>
        clear hc oc
        obtain ⟨N2, H2, k, FIN, od, HRR, HBB⟩ := hcut
        obtain ⟨hs, hop, hkS, e1, e2, e3, e4, e5, hel⟩ := FIN.out
        obtain ⟨en, hen⟩ : ∃ en, H2.el[k]? = some en := ⟨_, List.getElem?_eq_getElem (by rw [hs.sh.el]; exact hkS)⟩
        have hend : H2.el.getD k 0 = en := by rw [List.getD_eq_getElem?_getD, hen]; rfl
        have henZ : en ≤ H.Z := hel en (List.mem_of_getElem? hen)
        have c5 : wc.cell? ⟨H.SB, 5, none⟩ = some (.int .i64 (k : Int)) := by rw [← e1, ← hop]; exact cell_blk hs.sh.hS 5
        have c4 : wc.cell? ⟨H.SB, 4, none⟩ = some (.slice (some ⟨H.EB, 0, none⟩) H.S H2.ec) := by rw [← e1, ← e3, ← e4]; exact cell_blk hs.sh.hS 4
        have c0 : wc.cell? ⟨H.SB, 0, none⟩ = some (.pointer (some ⟨H2.D, 0, none⟩)) := by rw [← e1]; exact cell_blk hs.sh.hS 0
        have cE : wc.cell? ⟨H.EB, k, none⟩ = some (i64 en) := by rw [← e3]; exact hs.sh.endAt hen
        have hkI : (k : Int) < (H.S : Int) := by omega
        have P0 : ∀ W, Hid (Gives 118 #[i64 k, i64 en] W (cx (near k) (near en))) := fun W => Lib.hid (of_in k en W (by omega) (by omega) (by omega) (by omega))
        obtain ⟨pe, N3, hpe⟩ : ∃ pe N3, N2.prog (near k) (near en) b = (pe, N3) := ⟨_, _, rfl⟩
        have GP := prog_any hs.dev HBB.out.1 HBB.out.2.1 HBB.out.2.2 (near k) (near en) A b.length cap b (Sl.out HY.out HFAR.out od.out) hb8 (HFAR.out.sub (fun q hq => .inl hq)) hm
        rw [show ptrD N2 = .pointer (some ⟨H2.D, 0, none⟩) by rw [hs.D], hpe] at GP
        have hSS := prog_S0 N2 (near k) (near en) b
        rw [hpe] at hSS
        have GP := Lib.hid GP
        have HEN := Lib.hid (And.intro hen hend)
        have HPE := Lib.hid (And.intro hpe hSS)
        have HK := Lib.hid (And.intro hkS (And.intro e1 (And.intro e2 (And.intro e3 (And.intro e4 e5)))))
        clear hs hop hkS e1 e2 e3 e4 e5 hel hen hend hpe hSS HBB
        go_wp2_with fail
        refine (P0 _).out.mono ?_; rintro e6 w6 ⟨rfl, rfl⟩
        go_wp2_with fail
        refine GP.out.mono ?_; rintro e7 w7 ⟨rfl, hd7, ho7⟩
        have s7 := Lib.hid (FIN.out.1.acted hd7 ho7 HPE.out.2.1 HPE.out.2.2.1 HPE.out.2.2.2)
        have o7 := Lib.hid (od.out.trans (O := shO O H) (ho7.wide (fun q hq => .inl hq)))
        have GF := failed_any s7.out.sh k pe HK.out.1
        rw [show H2.ptr = H.ptr by rw [ShV.ptr, HK.out.2.1]] at GF
        have GF := Lib.hid GF
        clear GP hd7 ho7 c5 c4 c0 cE P0 od FIN
        go_wp2_with fail
        refine GF.out.mono ?_; rintro e8 w8 ⟨rfl, hs8, ho8⟩
        have s8 := Lib.hid (s7.out.failed hs8 ho8)
        have o8 := Lib.hid (o7.out.trans (O := shO O H) (ho8.wide (fun q hq => .inr (by
          rcases hq with h | h | h
          · exact .inl (h.trans HK.out.2.1)
          · exact .inr (.inl (h.trans HK.out.2.2.1))
          · exact .inr (.inr (h.trans HK.out.2.2.2.1))))))
        clear GF s7 o7 hs8 ho8
        by_cases he : pe = 0
        · subst he
          obtain ⟨y, hy⟩ : ∃ y, (H2.failed k 0).il[k]? = some y := ⟨_, List.getElem?_eq_getElem (by rw [s8.out.sh.il]; exact HK.out.1)⟩
          have hyd : (H2.failed k 0).il.getD k noInfo = y := by rw [List.getD_eq_getElem?_getD, hy]; rfl
          have hrr : RES = ((near k, near en), 0, { H2.failed k 0 with el := (H2.failed k 0).el.set k (en + b.length), il := (H2.failed k 0).il.set k { y with age := max y.age age } }, N3) := by
            rw [HRR.out]; unfold writeAt; simp only [HEN.out.2, HPE.out.1, if_true, hyd]
          have s9a := s8.out.setE k (en + b.length) (show k < H2.S from HK.out.1)
          have s9 : ShD O (w8.setCell ⟨H.EB, k, none⟩ (i64 (en + b.length : Nat))) N3 { H2.failed k 0 with el := (H2.failed k 0).el.set k (en + b.length) } := by
            rw [← HK.out.2.2.2.1]; exact s9a
          clear s9a
          have o9 := o8.out.set (g := H.EB) (.inr (.inr (.inr rfl))) k (i64 (en + b.length : Nat))
          have hv : (i64 ((en + b.length : Nat) : Int)) = Value.int .i64 ((en : Int) + (b.length : Int)) := by push_cast; rfl
          rw [hv] at s9 o9
          have S9 := Lib.hid s9
          have O9 := Lib.hid o9
          have HY8 := Lib.hid hy
          have HRR2 := Lib.hid hrr
          have c4 : w8.cell? ⟨H.SB, 4, none⟩ = some (.slice (some ⟨H.EB, 0, none⟩) H.S H2.ec) := by rw [← HK.out.2.1, ← HK.out.2.2.2.1, ← HK.out.2.2.2.2.1]; exact cell_blk s8.out.sh.hS 4
          have cE : w8.cell? ⟨H.EB, k, none⟩ = some (i64 en) := by rw [← HK.out.2.2.2.1]; exact s8.out.sh.endAt HEN.out.1
          obtain ⟨jE, hE⟩ := s8.out.sh.hE
          have fE : ∀ o, w8.frozen? ⟨H.EB, o, none⟩ = false := fun o => by rw [← HK.out.2.2.2.1]; exact frozen_blk hE o
          have kwe : IntKind.i64.wrap ((en : Int) + (b.length : Int)) = ((en + b.length : Nat) : Int) := by rw [IntKind.wrap_i64]; omega
          clear hE hy hyd hrr s9 o9 s8 o8 hv
          go_upto_region 16 with fail
          generalize w8.setCell _ _ = w9 at *
          clear c4 cE fE
          have c3 : w9.cell? ⟨H.SB, 3, none⟩ = some (.slice (some ⟨H.LB, 0, none⟩) H.S H2.lc) := by rw [← HK.out.2.1, ← HK.out.2.2.1, ← HK.out.2.2.2.2.1]; exact cell_blk S9.out.sh.hS 3
          have cI : w9.cell? ⟨H.LB, k * 6 + 3, none⟩ = some (.int .u64 y.age) := by rw [← HK.out.2.2.1]; exact S9.out.sh.info HY8.out 3 (by decide)
          obtain ⟨jL, hL⟩ := S9.out.sh.hL
          have hL' : w9.heap[H.LB]? = some (.cells ((H2.failed k 0).il.flatMap Info.row ++ jL).toArray 182 (0, 0)) := by rw [← HK.out.2.2.1]; exact hL
          have fL := fun o => frozen_blk hL' o
          have zS : H.SB < w9.heap.size := by rw [← HK.out.2.1]; exact (Array.getElem?_eq_some_iff.1 S9.out.sh.hS).1
          have zL : H.LB < w9.heap.size := (Array.getElem?_eq_some_iff.1 hL').1
          have q3 := fun p : OnOf w9 => on_cell zS c3 p
          have qI := fun p : OnOf w9 => on_cell zL cI p
          have hmx : (if y.age < age then age else y.age) = max y.age age := by rw [Int.max_def]; split <;> split <;> omega
          have s10a := (S9.out.below (Base.dr (Below.refl _ w9))).setI (i := k) (x := y) (x' := { y with age := max y.age age }) HY8.out 3 (by decide) (.int .u64 (if y.age < age then age else y.age)) (by rw [hmx]; rfl)
          have s10 : ShD O (w9.drew.setCell ⟨H.LB, k * 6 + 3, none⟩ (.int .u64 (if y.age < age then age else y.age))) N3 { H2.failed k 0 with el := (H2.failed k 0).el.set k (en + b.length), il := (H2.failed k 0).il.set k { y with age := max y.age age } } := by
            rw [← HK.out.2.2.1]; exact s10a
          have o10 := (O9.out.then (Base.dr (Below.refl _ w9))).set (g := H.LB) (.inr (.inr (.inl rfl))) (k * 6 + 3) (.int .u64 (if y.age < age then age else y.age))
          have S10 := Lib.hid s10
          have O10 := Lib.hid o10
          clear hL hL' s10a s10 o10 hmx S9 O9
          go_wp2_with fail
          refine wp_region_po (fun w' => ∃ p : OnOf w9, w' = p.v) 17 [] (by kernel_rfl) (by kernel_rfl) ⟨⟨_, Base.dr (Below.refl _ _)⟩, rfl⟩ ?_
          simp only [List.take_succ_cons, List.take_zero, List.drop_succ_cons, List.drop_zero]
          have on0 := @on_rd0; have on1 := @on_rd1; have on2 := @on_rd2; have on3 := @on_new1; have on4 := @on_new2; have on5 := @gr_rd0
          repeat ((with_reducible refine seq_read ?_ ?_); (focus rfl); (intro K hK); (unfold readsAt); go_simp; first | ((with_reducible refine hK _ ?_); clear hK K) | (rw [if_neg (by intro h; cases h)]; (with_reducible refine hK _ ?_); clear hK K))
          clear on0 on1 on2 on3 on4 on5
          with_reducible refine seq_nil ?_
          clear q3 qI
          go_wp2_with fail
          · rename_i hag
            have ev : (if y.age < age then age else y.age) = age := by split <;> omega
            have s11 := S10.out
            have o11 := O10.out
            rw [ev] at s11 o11
            go_ret2
            have HRR3 := HRR2.out
            subst HRR3
            exact ⟨rfl, s11, o11⟩
          · rename_i hag
            have ev : (if y.age < age then age else y.age) = y.age := by split <;> omega
            have s11 := S10.out
            have o11 := O10.out
            rw [ev] at s11 o11
            go_ret2
            have HRR3 := HRR2.out
            subst HRR3
            exact ⟨rfl, s11, o11⟩
        · have te : ((pe : Int) == 0) = false := by rw [beq_eq_false_iff_ne]; omega
          have te' : ((pe : Int) != 0) = true := by rw [bne_iff_ne]; omega
          have hrr : RES = ((0, 0), pe, H2.failed k pe, N3) := by
            rw [HRR.out]; unfold writeAt; simp only [HEN.out.2, HPE.out.1, if_neg he]
          subst hrr
          go_wp2_with fail
          go_ret2
          exact ⟨rfl, s8.out, o8.out⟩
end Go.Proofs.YthiimpleljaimaaGreatDoor

