/- (*shelf.Shelf).opens: the walk. -/
import Derived.Test.YtnmeaminfoopmaaGreatDoorMg21
namespace Go.Proofs.YtnmeaminfoopmaaGreatDoor
open Go Go.RowKit Flo

set_option maxHeartbeats 16000000 in
set_option maxRecDepth 100000 in
theorem opens_any {O : Nat → Prop} {w : World} {N : Nor} {H : ShV} (h : ShD O w N H) (h1 : N.acts ≤ 1000000) (h2 : N.offs ≤ 1000000) (hcm : ∀ c, N.cut = some c → c.1 ≤ 9223372036854775807) :
    Calls Tryz.prog 127 #[H.ptr] w fun e w' => e = .returned (i64 (opensP N H).1) ∧ ShD O w' (opensP N H).2.2 (opensP N H).2.1 ∧ Out (shO O H) w w' := by
  have hgeo := h.dev.geoI
  have hgB := h.dev.geo
  have hpos : 0 < H.S := by rw [h.S]; omega
  have G1 := Lib.hid (infos_any h.dev h.sh h.D hpos)
  have HH := Lib.hid h
  have hS64 := h.sh.S64
  have hZ4 := h.sh.Z4
  have hlen : (seenL H N H.S).length = H.S := by rw [seenL_len, h.sh.il]
  have GW := fun W A m c (hy : Infos W (.slice A m c) (seenL H N H.S)) => Lib.hid (Write_any A m c (seenL H N H.S) W hy (by rw [hlen]; omega))
  have HLN := Lib.hid hlen
  obtain ⟨RES, hR⟩ : ∃ RES, opensP N H = RES := ⟨_, rfl⟩
  rw [hR]
  have HR := Lib.hid hR
  obtain ⟨pk, hpk⟩ : ∃ pk, pickW (seenL H N H.S) = pk := ⟨_, rfl⟩
  have HPK := Lib.hid hpk
  clear hpk hlen h hR
  cases pk with
  | none =>
    have hr : RES = (9, H, N) := by rw [← HR.out]; unfold opensP; rw [HPK.out]
    subst hr
    have hno := pickW_no HPK.out
    rw [hno] at GW
    clear hno
    go_enter Tryz.func127, Tryz.ntmps127
    go_wp2_with fail
    refine G1.out.mono ?_; rintro e x1 ⟨v, rfl, hown, hb1⟩
    obtain ⟨A1, n1, c1, rfl⟩ : ∃ A n c, v = .slice A n c := by
      rcases hown.2 with ⟨h1, _⟩ | ⟨g', c', _, h1, _⟩
      · exact ⟨_, _, _, h1⟩
      · exact ⟨_, _, _, h1⟩
    have G2 := GW x1 A1 n1 c1 (infos_own (by rw [HLN.out]; exact hown))
    clear GW hown
    go_wp2_with fail
    refine G2.out.mono ?_; rintro e x2 ⟨rfl, hb2⟩
    go_wp2_with fail
    go_ret
    exact ⟨rfl, HH.out.below (Base.tr hb1 hb2), Out.of_below (Base.tr hb1 hb2)⟩
  | some k =>
    obtain ⟨hk, hlk, hsk⟩ := pickW_lt HPK.out
    rw [hlk, hsk] at GW
    rw [HLN.out] at hk
    clear hlk hsk
    obtain ⟨a, b, c, d, e, f, g, i, hhd⟩ := eight (headOf_len H.S H.Z)
    have GO : ∀ W, Hid (Makes 162 #[geo H.S H.Z] W (.agg (arr8 a b c d e f g i))) := fun W => Lib.hid (headOf_any H.S H.Z W (by rw [HH.out.S, HH.out.Z]; exact hgB) a b c d e f g i hhd)
    have P0 : ∀ W, Hid (Gives 56 #[i64 k, i64 0] W (cx (near k) (near 0))) := fun W => Lib.hid (of_in k 0 W (by omega) (by omega) (by omega) (by omega))
    have HHD := Lib.hid hhd
    clear hhd
    go_enter Tryz.func127, Tryz.ntmps127
    go_wp2_with fail
    refine G1.out.mono ?_; rintro e9 x1 ⟨v, rfl, hown, hb1⟩
    obtain ⟨A1, n1, c1, rfl⟩ : ∃ A n c, v = .slice A n c := by
      rcases hown.2 with ⟨h1, _⟩ | ⟨g', c', _, h1, _⟩
      · exact ⟨_, _, _, h1⟩
      · exact ⟨_, _, _, h1⟩
    have G2 := GW x1 A1 n1 c1 (infos_own (by rw [HLN.out]; exact hown))
    clear GW hown
    go_wp2_with fail
    refine G2.out.mono ?_; rintro e8 x2 ⟨rfl, hb2⟩
    have h2' := HH.out.below (Base.tr hb1 hb2)
    have B2 := Lib.hid (Base.tr hb1 hb2)
    have c5 : x2.cell? ⟨H.SB, 5, none⟩ = some (.int .i64 H.op) := cell_blk h2'.sh.hS 5
    have fS := fun o => frozen_blk h2'.sh.hS o
    have HD2 := Lib.hid h2'
    clear h2' hb1 hb2 G1 G2
    have hp3 := Lib.hid (HD2.out.setOp (k : Int))
    have o3 := Lib.hid ((Out.of_below (O := shO O H) B2.out).set (.inr (.inl rfl)) 5 (.int .i64 (k : Int)))
    go_upto_region 5 with fail
    generalize x2.setCell _ _ = x3 at *
    clear c5 fS HD2 B2
    have g1 : x3.cell? ⟨H.SB, 1, none⟩ = some (i64 H.S) := cell_blk hp3.out.sh.hS 1
    have g2 : x3.cell? ⟨H.SB, 2, none⟩ = some (i64 H.Z) := cell_blk hp3.out.sh.hS 2
    go_wp2_with fail
    refine (GO _).out.mono ?_; rintro e7 x4 ⟨rfl, hb4⟩
    have hp4 := Lib.hid (hp3.out.below hb4)
    have o4 := Lib.hid (o3.out.then hb4)
    clear g1 g2 hb4 GO hp3 o3
    go_upto_region 6 with fail
    have B5 := blk_new x4 (.cells (arr8 a b c d e f g i) 218)
    have hb5 := Base.al (Below.refl _ x4) (.cells (arr8 a b c d e f g i) 218)
    have hp5 := Lib.hid (hp4.out.below hb5)
    have o5 := Lib.hid (o4.out.then hb5)
    have hO5 : ¬ O x4.heap.size := fun hO => by have := hp4.out.dev.lim _ hO; omega
    have BY := Lib.hid B5
    have hz5 : x4.heap.size < (x4.alloc (.cells (arr8 a b c d e f g i) 218)).heap.size := (Array.getElem?_eq_some_iff.1 B5).1
    generalize x4.alloc _ = x5 at *
    generalize x4.heap.size = hb at *
    have c0 : x5.cell? ⟨H.SB, 0, none⟩ = some (.pointer (some ⟨H.D, 0, none⟩)) := cell_blk hp5.out.sh.hS 0
    have zS : H.SB < x5.heap.size := (Array.getElem?_eq_some_iff.1 hp5.out.sh.hS).1
    have nS : ¬ O H.SB := hp5.out.far _ (.inl rfl)
    have q0 := fun p : OutOf O x5 => out_rd zS nS c0 p
    have hy5 : Byt x5 (.slice (some ⟨hb, 0, none⟩) 8 8) (headOf H.S H.Z) := by
      have := Byt.blk (l := headOf H.S H.Z) (w := x5) (g := hb) (t := 218) (fr := (0, 0)) (by rw [HHD.out]; exact BY.out) (by rw [headOf_len]; decide)
      rw [headOf_len] at this
      exact this
    obtain ⟨pe, N', hpe⟩ : ∃ pe N', N.prog (near k) (near 0) (headOf H.S H.Z) = (pe, N') := ⟨_, _, rfl⟩
    have hSS := prog_S0 N (near k) (near 0) (headOf H.S H.Z)
    have HSS := Lib.hid hSS
    have GP : ∀ W, (hW : Out O x5 W) → DevR O W N → Byt W (.slice (some ⟨hb, 0, none⟩) 8 8) (headOf H.S H.Z) → Hid (Calls Tryz.prog 129 #[.pointer (some ⟨H.D, 0, none⟩), cx (near k) (near 0), .slice (some ⟨hb, 0, none⟩) 8 8] W fun e w' => e = .returned (i64 pe) ∧ DevR O w' N' ∧ Out O W w') := fun W hW hdW hyW => by
      have := prog_any hdW h1 h2 hcm (near k) (near 0) (some ⟨hb, 0, none⟩) 8 8 (headOf H.S H.Z) hyW (headOf_lt _ _) (fun b off n c he hO => by injection he with he; injection he with he; injection he with he; subst he; exact hO5 hO) (by rw [headOf_len]; decide)
      rw [show ptrD N = .pointer (some ⟨H.D, 0, none⟩) by rw [hp5.out.D]] at this
      rw [hpe] at this
      exact Lib.hid this
    rw [hpe] at HSS
    have HPE := Lib.hid hpe
    clear hSS hpe hz5 o4 hp4 B5 hb5 c0
    go_wp2_with fail
    refine wp_region_po (fun w' => ∃ p : OutOf O x5, w' = p.v) 10 [7, 9] (by kernel_rfl) (by kernel_rfl) ⟨⟨_, Out.of_below (Base.dr (Below.refl _ _))⟩, rfl⟩ ?_
    simp only [List.take_succ_cons, List.take_zero, List.drop_succ_cons, List.drop_zero]
    have on0 := @on_rd0; have on1 := @on_rd1; have on2 := @on_rd2; have on3 := @on_new1; have on4 := @on_new2; have on5 := @gr_rd0
    repeat ((with_reducible refine seq_read ?_ ?_); (focus rfl); (intro K hK); (unfold readsAt); go_simp; first | ((with_reducible refine hK _ ?_); clear hK K) | (rw [if_neg (by intro h; cases h)]; (with_reducible refine hK _ ?_); clear hK K))
    refine seq_eff (by rfl) (by first | rfl | go_simp) ?_
    intro K hK
    unfold effAt2
    go_simp
    refine ⟨rfl, (P0 _).out.mono ?_⟩; rintro e6 x6 ⟨rfl, rfl⟩
    refine ⟨_, rfl, ⟨⟨_, Out.of_below (Base.dr (Below.refl _ _))⟩, rfl⟩, hK _ _ ?_⟩
    clear hK K
    repeat ((with_reducible refine seq_read ?_ ?_); (focus rfl); (intro K hK); (unfold readsAt); go_simp; first | ((with_reducible refine hK _ ?_); clear hK K) | (rw [if_neg (by intro h; cases h)]; (with_reducible refine hK _ ?_); clear hK K))
    refine seq_eff (by rfl) (by first | rfl | go_simp) ?_
    intro K hK
    unfold effAt2
    go_simp
    refine ⟨rfl, (GP _ (Out.of_below (Base.dr (Below.refl _ _))) hp5.out.dev.dr (Sl.below hy5 (Base.dr (Below.refl _ _)))).out.mono ?_⟩; rintro e6 x7 ⟨rfl, hd7, ho7⟩
    refine ⟨_, rfl, ⟨⟨_, (Out.of_below (Base.dr (Below.refl _ _))).trans ho7⟩, rfl⟩, hK _ _ ?_⟩
    clear hK K
    repeat ((with_reducible refine seq_read ?_ ?_); (focus rfl); (intro K hK); (unfold readsAt); go_simp; first | ((with_reducible refine hK _ ?_); clear hK K) | (rw [if_neg (by intro h; cases h)]; (with_reducible refine hK _ ?_); clear hK K))
    clear on0 on1 on2 on3 on4 on5
    with_reducible refine seq_nil ?_
    have ho7' : Out O x5 x7 := (Out.of_below (Base.dr (Below.refl _ _))).trans ho7
    have hp7 := Lib.hid (hp5.out.acted hd7 ho7' HSS.out.1 HSS.out.2.1 HSS.out.2.2)
    have o7 := Lib.hid (o5.out.trans (ho7'.wide (fun q hq => .inl hq)))
    have GF := Lib.hid (failed_any hp7.out.sh k pe hk)
    clear q0 GP ho7 ho7' hd7 hy5 BY hp5 o5 P0
    go_wp2_with fail
    refine GF.out.mono ?_; rintro e5 x8 ⟨rfl, hs8, ho8⟩
    have hp8 := Lib.hid (hp7.out.failed hs8 ho8)
    have o8 := Lib.hid (o7.out.trans (O := shO O H) (ho8.wide (fun q hq => .inr hq)))
    obtain ⟨y, hy⟩ : ∃ y, (({ H with op := (k : Int) } : ShV).failed k pe).il[k]? = some y := ⟨_, List.getElem?_eq_getElem (by rw [hs8.il]; exact hk)⟩
    have hyd : (({ H with op := (k : Int) } : ShV).failed k pe).il.getD k noInfo = y := by rw [List.getD_eq_getElem?_getD, hy]; rfl
    have HY := Lib.hid (And.intro hy hyd)
    clear hs8 ho8 hp7 o7 GF hy hyd
    have hkI : (k : Int) < (H.S : Int) := by omega
    have hS64' := hS64
    by_cases he0 : pe = 0
    · subst he0
      have hr : RES = (0, { ({ H with op := (k : Int) } : ShV).failed k 0 with il := (({ H with op := (k : Int) } : ShV).failed k 0).il.set k { y with cls := 1, age := 0, need := 0 }, el := (({ H with op := (k : Int) } : ShV).failed k 0).el.set k 8 }, N') := by
        rw [← HR.out]
        unfold opensP
        rw [HPK.out]
        simp only [HPE.out, if_true, HY.out.2]
      subst hr
      have hp9 := hp8.out
      have hkl := (List.getElem?_eq_some_iff.1 HY.out.1).1
      have s1 : ShD O (x8.setCell ⟨H.LB, k * 6, none⟩ (.int .i64 1)) N' _ := hp9.setI (x' := { y with cls := 1 }) HY.out.1 0 (by decide) (.int .i64 1) rfl
      have e1 : ((({ H with op := (k : Int) } : ShV).failed k 0).il.set k { y with cls := 1 })[k]? = some { y with cls := 1 } := List.getElem?_set_self hkl
      have s2 := s1.setI (x := { y with cls := 1 }) (x' := { y with cls := 1, age := 0 }) e1 3 (by decide) (.int .u64 0) rfl
      have e2 : (((({ H with op := (k : Int) } : ShV).failed k 0).il.set k { y with cls := 1 }).set k { y with cls := 1, age := 0 })[k]? = some { y with cls := 1, age := 0 } := List.getElem?_set_self (by rw [List.length_set]; exact hkl)
      have s3 := s2.setI (x := { y with cls := 1, age := 0 }) (x' := { y with cls := 1, age := 0, need := 0 }) e2 4 (by decide) (.int .i64 0) rfl
      have hset : ((((({ H with op := (k : Int) } : ShV).failed k 0).il.set k { y with cls := 1 }).set k { y with cls := 1, age := 0 }).set k { y with cls := 1, age := 0, need := 0 }) = (({ H with op := (k : Int) } : ShV).failed k 0).il.set k { y with cls := 1, age := 0, need := 0 } := by rw [List.set_set, List.set_set]
      have s3' : ShD O (((x8.setCell ⟨H.LB, k * 6, none⟩ (.int .i64 1)).setCell ⟨H.LB, k * 6 + 3, none⟩ (.int .u64 0)).setCell ⟨H.LB, k * 6 + 4, none⟩ (.int .i64 0)).drew N' { ({ H with op := (k : Int) } : ShV).failed k 0 with il := (({ H with op := (k : Int) } : ShV).failed k 0).il.set k { y with cls := 1, age := 0, need := 0 } } := by
        rw [← hset]
        exact s3.below (Base.dr (Below.refl _ _))
      have os : Out (shO O H) w (((x8.setCell ⟨H.LB, k * 6, none⟩ (.int .i64 1)).setCell ⟨H.LB, k * 6 + 3, none⟩ (.int .u64 0)).setCell ⟨H.LB, k * 6 + 4, none⟩ (.int .i64 0)).drew :=
        (((o8.out.set (.inr (.inr (.inl rfl))) _ _).set (.inr (.inr (.inl rfl))) _ _).set (.inr (.inr (.inl rfl))) _ _).then (Base.dr (Below.refl _ _))
      have c3 : x8.cell? ⟨H.SB, 3, none⟩ = some (.slice (some ⟨H.LB, 0, none⟩) H.S H.lc) := cell_blk hp8.out.sh.hS 3
      have zS : H.SB < x8.heap.size := (Array.getElem?_eq_some_iff.1 hp8.out.sh.hS).1
      have nSL : some H.SB ≠ some H.LB := fun e => hp8.out.sh.apart.1 (by injection e)
      have q3 := fun p : GrOf x8 (some H.LB) => (gr_rd0 p zS nSL).trans c3
      have ck : x8.cell? ⟨H.LB, k * 6, none⟩ = some (i64 y.cls) := hp9.sh.info HY.out.1 0 (by decide)
      have ck3 : x8.cell? ⟨H.LB, k * 6 + 3, none⟩ = some (.int .u64 y.age) := hp9.sh.info HY.out.1 3 (by decide)
      have ck4 : x8.cell? ⟨H.LB, k * 6 + 4, none⟩ = some (i64 y.need) := hp9.sh.info HY.out.1 4 (by decide)
      obtain ⟨jL, hL⟩ := hp9.sh.hL
      have fL : ∀ o, x8.frozen? ⟨H.LB, o, none⟩ = false := fun o => frozen_blk hL o
      have S3 := Lib.hid s3'
      have OS := Lib.hid os
      clear hL s1 s2 s3 s3' os hset e1 e2 hkl hp9
      go_wp2_with fail
      refine wp_region_po (fun w' => ∃ p : GrOf x8 (some H.LB), w' = p.v) 24 [17, 20, 23] (by kernel_rfl) (by kernel_rfl) ⟨⟨_, grown_dr (grown_same _ _)⟩, rfl⟩ ?_
      simp only [List.take_succ_cons, List.take_zero, List.drop_succ_cons, List.drop_zero]
      have on0 := @on_rd0; have on1 := @on_rd1; have on2 := @on_rd2; have on3 := @on_new1; have on4 := @on_new2; have on5 := @gr_rd0
      repeat ((with_reducible refine seq_read ?_ ?_); (focus rfl); (intro K hK); (unfold readsAt); go_simp; first | ((with_reducible refine hK _ ?_); clear hK K) | (rw [if_neg (by intro h; cases h)]; (with_reducible refine hK _ ?_); clear hK K))
      refine seq_eff (by rfl) (by first | rfl | go_simp) ?_
      intro K hK
      unfold effAt2
      go_simp
      refine ⟨⟨⟨_, grown_setCell (grown_dr (grown_same _ _)) _ _⟩, rfl⟩, hK _ _ ?_⟩
      clear hK K
      repeat ((with_reducible refine seq_read ?_ ?_); (focus rfl); (intro K hK); (unfold readsAt); go_simp; first | ((with_reducible refine hK _ ?_); clear hK K) | (rw [if_neg (by intro h; cases h)]; (with_reducible refine hK _ ?_); clear hK K))
      refine seq_eff (by rfl) (by first | rfl | go_simp) ?_
      intro K hK
      unfold effAt2
      go_simp
      refine ⟨⟨⟨_, grown_setCell (grown_setCell (grown_dr (grown_same _ _)) _ _) _ _⟩, rfl⟩, hK _ _ ?_⟩
      clear hK K
      repeat ((with_reducible refine seq_read ?_ ?_); (focus rfl); (intro K hK); (unfold readsAt); go_simp; first | ((with_reducible refine hK _ ?_); clear hK K) | (rw [if_neg (by intro h; cases h)]; (with_reducible refine hK _ ?_); clear hK K))
      refine seq_eff (by rfl) (by first | rfl | go_simp) ?_
      intro K hK
      unfold effAt2
      go_simp
      refine ⟨⟨⟨_, grown_setCell (grown_setCell (grown_setCell (grown_dr (grown_same _ _)) _ _) _ _) _ _⟩, rfl⟩, hK _ _ ?_⟩
      clear hK K
      clear on0 on1 on2 on3 on4 on5
      with_reducible refine seq_nil ?_
      generalize World.drew _ = x9 at *
      have c4 : x9.cell? ⟨H.SB, 4, none⟩ = some (.slice (some ⟨H.EB, 0, none⟩) H.S H.ec) := cell_blk S3.out.sh.hS 4
      obtain ⟨n9, hn9⟩ : ∃ n, (({ H with op := (k : Int) } : ShV).failed k 0).el[k]? = some n := ⟨_, List.getElem?_eq_getElem (by rw [S3.out.sh.el]; exact hk)⟩
      have cE : x9.cell? ⟨H.EB, k, none⟩ = some (i64 n9) := S3.out.sh.endAt hn9
      obtain ⟨jE, hE⟩ := S3.out.sh.hE
      have fE : ∀ o, x9.frozen? ⟨H.EB, o, none⟩ = false := fun o => frozen_blk hE o
      have S9 := Lib.hid (S3.out.setE k 8 hk)
      have O9 := Lib.hid (OS.out.set (g := H.EB) (.inr (.inr (.inr rfl))) k (i64 (8 : Nat)))
      clear hE hn9 q3 ck ck3 ck4 fL c3 S3 OS nSL zS
      go_wp2_with fail
      go_ret
      exact ⟨rfl, S9.out, O9.out⟩
    · have te : ((pe : Int) == 0) = false := by rw [beq_eq_false_iff_ne]; omega
      have te' : ((pe : Int) != 0) = true := by rw [bne_iff_ne]; omega
      by_cases he8 : pe = 8
      · subst he8
        have hr : RES = (8, ({ H with op := (k : Int) } : ShV).failed k 8, N') := by
          rw [← HR.out]
          unfold opensP
          rw [HPK.out]
          simp only [HPE.out]
          rfl
        subst hr
        go_wp2_with fail
        go_ret
        exact ⟨rfl, hp8.out, o8.out⟩
      · have te8 : ((pe : Int) == 8) = false := by rw [beq_eq_false_iff_ne]; omega
        have te8' : ((pe : Int) != 8) = true := by rw [bne_iff_ne]; omega
        have hr : RES = (pe, { ({ H with op := (k : Int) } : ShV).failed k pe with il := (({ H with op := (k : Int) } : ShV).failed k pe).il.set k { y with cls := 2 } }, N') := by
          rw [← HR.out]
          unfold opensP
          rw [HPK.out]
          simp only [HPE.out, if_neg he0, if_neg he8, HY.out.2]
        subst hr
        have s1 := Lib.hid (hp8.out.setI (x' := { y with cls := 2 }) HY.out.1 0 (by decide) (.int .i64 2) rfl)
        have os := Lib.hid (o8.out.set (g := H.LB) (.inr (.inr (.inl rfl))) (k * 6 + 0) (.int .i64 2))
        have c3 : x8.cell? ⟨H.SB, 3, none⟩ = some (.slice (some ⟨H.LB, 0, none⟩) H.S H.lc) := cell_blk hp8.out.sh.hS 3
        have ck : x8.cell? ⟨H.LB, k * 6, none⟩ = some (i64 y.cls) := hp8.out.sh.info HY.out.1 0 (by decide)
        obtain ⟨jL, hL⟩ := hp8.out.sh.hL
        have fL : ∀ o, x8.frozen? ⟨H.LB, o, none⟩ = false := fun o => frozen_blk hL o
        clear hL he0 he8
        go_wp2_with fail
        go_ret
        exact ⟨rfl, s1.out, os.out⟩
end Go.Proofs.YtnmeaminfoopmaaGreatDoor

/- Bytes are written on a shelf: what comes of it. -/
namespace Go.Proofs.YtnmeaminfoopmaaGreatDoor
open Go Go.RowKit Flo

/-- The open sector is one of the shelf's; no end is behind a sector's end. -/
structure ShOk (H : ShV) (a : Option Nat) : Prop where
  op : H.op = atV a
  lt : ∀ k, a = some k → k < H.S
  el : ∀ n ∈ H.el, n ≤ H.Z
theorem opens_ok {N : Nor} {H H' : ShV} {N' : Nor} (h : opensP N H = (0, H', N')) (hil : H.il.length = H.S) (hel : ∀ n ∈ H.el, n ≤ H.Z) (hZ : 8 ≤ H.Z) : ∃ k : Nat, H'.op = (k : Int) ∧ k < H.S ∧ H'.S = H.S ∧ H'.Z = H.Z ∧ H'.D = H.D ∧ H'.SB = H.SB ∧ H'.LB = H.LB ∧ H'.EB = H.EB ∧ (∀ n ∈ H'.el, n ≤ H.Z) := by
  unfold opensP at h
  cases hp : pickW (seenL H N H.S) with
  | none => rw [hp] at h; injection h with h1 h2; cases h1
  | some k =>
    have hk := (pickW_lt hp).1
    rw [seenL_len, hil] at hk
    rw [hp] at h
    simp only at h
    split at h
    · rename_i h0
      injection h with _ h2
      injection h2 with h2 h3
      subst h2
      refine ⟨k, ?_, hk, rfl, rfl, rfl, rfl, rfl, rfl, ?_⟩
      · show (if _ ∧ _ then _ else _) = _
        rw [h0, if_neg (by intro h; exact h.1 rfl)]
      · intro n hn
        rcases List.mem_or_eq_of_mem_set hn with h1 | h1
        · exact hel n h1
        · omega
    · rename_i h0
      split at h
      · injection h with h1 _; exact absurd h1 h0
      · injection h with h1 _; exact absurd h1 h0
/-- Bytes written into the open sector. -/
noncomputable def writeAt (N : Nor) (H : ShV) (k : Nat) (b : List Nat) (age : Int) : (Nat × Nat) × Nat × ShV × Nor :=
  let p := N.prog (near k) (near (H.el.getD k 0)) b
  let H1 := H.failed k p.1
  if p.1 = 0 then ((near k, near (H.el.getD k 0)), 0, { H1 with el := H1.el.set k (H.el.getD k 0 + b.length), il := H1.il.set k { H1.il.getD k noInfo with age := max (H1.il.getD k noInfo).age age } }, p.2)
  else ((0, 0), p.1, H1, p.2)
/-- What a write comes to: the place, the error's number, the shelf, the device. -/
noncomputable def writeP (N : Nor) (H : ShV) (a : Option Nat) (b : List Nat) (age : Int) : (Nat × Nat) × Nat × ShV × Nor :=
  if fitsB H.Z b.length then
    if needB H.Z a (H.el.getD (a.getD 0) 0) b.length then
      let q := opensP N { H with op := -1 }
      if q.1 = 0 then writeAt q.2.2 q.2.1 q.2.1.op.toNat b age else ((0, 0), q.1, q.2.1, q.2.2)
    else writeAt N H (a.getD 0) b age
  else ((0, 0), 4, H, N)
end Go.Proofs.YtnmeaminfoopmaaGreatDoor

