/- shelf.New: the walk. -/
import Derived.Test.YthiimpleljaimaaGreatDoorMg18
namespace Go.Proofs.YthiimpleljaimaaGreatDoor
open Go Go.RowKit Flo
attribute [local go_sem] run_store_complex

set_option maxHeartbeats 4000000 in
set_option maxRecDepth 100000 in
theorem shelfNew_nil (w : World) : Makes 54 #[nilD] w (.tuple #[.pointer none, .slice none 0 0, i64 7]) := by
  have G := fun W => Lib.hid (scanAll_nil W)
  go_enter Tryz.func54, Tryz.ntmps54
  go_wp2_with fail
  refine (G _).out.mono ?_; rintro e x1 ⟨rfl, hb1⟩
  go_wp2_with fail
  go_ret3
  exact ⟨rfl, hb1⟩

set_option maxHeartbeats 16000000 in
set_option maxRecDepth 100000 in
theorem shelfNew_any {O : Nat → Prop} {w : World} {N : Nor} (hd : DevR O w N) (hon : N.off = false) : Calls Tryz.prog 54 #[ptrD N] w (ShPost w N) := by
  have hgeo := geoB_yes hd.geo
  obtain ⟨iF, f0, f1, f2, f3⟩ := info_parts info_Found
  obtain ⟨iI, g0, g1, g2, g3⟩ := info_parts info_infoE
  obtain ⟨iZ, z0, z1, z2, z3⟩ := info_parts info_intS
  have G1 := Lib.hid (scanAll_any hd hon)
  have G2 := fun W (hW : DevR O W N) => Lib.hid (geom_any hW)
  have HD := Lib.hid hd
  clear hd
  go_enter Tryz.func54, Tryz.ntmps54
  go_wp2_with fail
  unfold AllPost at G1
  refine G1.out.mono ?_; rintro e x1 ⟨v, xs, rfl, hsec, hxl⟩
  obtain ⟨A9, c9, rfl⟩ : ∃ A c, v = .slice A N.S c := by
    rcases hsec.own.2 with ⟨h1, h2⟩ | ⟨g', c', _, h1, _⟩
    · omega
    · exact ⟨_, _, by rw [h1, hxl]⟩
  have hsl : Sl x1 4 (.slice A9 N.S c9) (xs.map secRow) := Sl.own _ (by intro y hy; obtain ⟨q, _, rfl⟩ := List.mem_map.1 hy; rfl) (by rw [List.length_map, ← List.flatMap_def]; exact hsec.own)
  have HSEC := Lib.hid hsec
  have HSL := Lib.hid hsl
  have HXL := Lib.hid hxl
  have hd1 := HD.out.below hsec.below
  clear hsl hxl hsec G1
  go_wp2_with fail
  refine (G2 _ hd1).out.mono ?_; rintro e x2 ⟨rfl, hb2⟩
  have hb3 := Base.al hb2 (.cells #[ptrD N, i64 N.S, i64 N.Z, .slice none 0 0, .slice none 0 0, i64 (-1)] 178)
  have B3 := blk_new x2 (.cells #[ptrD N, i64 N.S, i64 N.Z, .slice none 0 0, .slice none 0 0, i64 (-1)] 178)
  have hz2 := hb2.size
  have ST0 : Hid (ShNew x1 N x2.heap.size (x2.alloc (.cells #[ptrD N, i64 N.S, i64 N.Z, .slice none 0 0, .slice none 0 0, i64 (-1)] 178)) (.slice none 0 0) (shFound N 0) (.slice none 0 0) (shInfos N 0) (.slice none 0 0) (shEnds N 0)) :=
    Lib.hid ⟨B3, ⟨rfl, .inl ⟨rfl, rfl⟩⟩, ⟨rfl, .inl ⟨rfl, rfl⟩⟩, ⟨rfl, .inl ⟨rfl, rfl⟩⟩, hb3, hz2⟩
  clear G2 hd1 hb2 hb3 B3
  go_wp2_with fail
  generalize x2.alloc _ = x3 at *
  generalize x2.heap.size = SB at *
  go_loopw [8, 29] (fun fv iv wr => ∃ (j : Nat) (lv ev : Value), j ≤ N.S ∧ iv = .int .i64 j ∧ Hid (ShNew x1 N SB wr fv (shFound N j) lv (shInfos N j) ev (shEnds N j))) (fun _ iv _ => N.S - (intOf iv).toNat)
  case atStart => exact ⟨0, _, _, Nat.zero_le _, rfl, ST0⟩
  case round =>
    clear ST0
    obtain ⟨j, lv, ev, hj, rfl, st⟩ := hrel
    have kwj : IntKind.i64.wrap ((j : Int) + 1) = (j : Int) + 1 := by rw [IntKind.wrap_i64]; omega
    by_cases hlt : j < N.S
    · obtain ⟨y, hy⟩ : ∃ y, xs[j]? = some y := ⟨_, List.getElem?_eq_getElem (by rw [HXL.out]; exact hlt)⟩
      obtain ⟨S0, gv⟩ := y
      obtain ⟨hS0, hown⟩ := HSEC.out.sec j _ hy
      simp only [] at hS0 hown
      have hF := founds_of hown
      obtain ⟨A7, c7, rfl, hA7⟩ : ∃ A c, gv = .slice A S0.found.length c ∧ ((A = none ∧ c = 0 ∧ S0.found.length = 0) ∨ ∃ g, A = some ⟨g, 0, none⟩) := by
        rcases hown.2 with ⟨h1, h2⟩ | ⟨g', c', _, h1, _⟩
        · exact ⟨none, 0, by rw [h1, h2], .inl ⟨rfl, rfl, h2⟩⟩
        · exact ⟨_, _, h1, .inr ⟨_, rfl⟩⟩
      have hfm : S0.found.length ≤ 4097 := by rw [hS0]; exact secAt_len HD.out j
      have hfs := shFound_len (secAt_len HD.out) j
      obtain ⟨b, off, rfl, hbs, hc⟩ := Sl.at (Sl.below HSL.out st.out.below) (by omega)
      have hrow := (hc j (secRow (S0, .slice A7 S0.found.length c7)) (by rw [List.getElem?_map, hy]; rfl)).2
      have c0 := hrow 0 _ rfl
      have c1 := hrow 1 _ rfl
      have c2 := hrow 2 _ rfl
      have c3 := hrow 3 _ rfl
      rw [Nat.add_zero] at c0
      have HF := Lib.hid hF
      have HOW := Lib.hid hown
      have HS0 := Lib.hid hS0
      have HLT := Lib.hid hlt
      have HA7 := Lib.hid hA7
      clear hc hrow hy hF hown hS0 hA7
      go_wp2_with fail
      have hb0 := Base.al (Below.refl _ wr) (.cells #[i64 S0.cls, i64 S0.stop, .bool S0.full, .slice A7 S0.found.length c7] 180)
      have B0 := blk_new wr (.cells #[i64 S0.cls, i64 S0.stop, .bool S0.full, .slice A7 S0.found.length c7] 180)
      have ST0 := Lib.hid (st.out.on hb0)
      have BX0 := Lib.hid B0
      have hX0 : SB < wr.heap.size := (Array.getElem?_eq_some_iff.1 st.out.box).1
      have HX0 := Lib.hid hX0
      clear hb0 B0 c0 c1 c2 c3 hbs hX0 st
      generalize wr.alloc _ = x0 at *
      generalize wr.heap.size = X0 at *
      go_loopw [11, 36] (fun ag iv wr2 => ∃ k : Nat, ag = .int .u64 (seqMax (S0.found.take k)) ∧ iv = .int .i64 k ∧ k ≤ S0.found.length ∧ Hid (Below x0.heap.size x0 wr2)) (fun _ iv _ => S0.found.length - (intOf iv).toNat)
      case atStart => exact ⟨0, rfl, rfl, Nat.zero_le _, Lib.hid (Below.refl _ _)⟩
      case round =>
        obtain ⟨k, rfl, rfl, hk, hb⟩ := hrel
        have kwk : IntKind.i64.wrap ((k : Int) + 1) = (k : Int) + 1 := by rw [IntKind.wrap_i64]; omega
        by_cases hlk : k < S0.found.length
        · obtain ⟨f, hf⟩ : ∃ f, S0.found[k]? = some f := ⟨_, List.getElem?_eq_getElem hlk⟩
          obtain ⟨b7, off7, rfl, hbs7, hc7⟩ := Sl.at (Sl.below HF.out (Base.tr ST0.out.below hb.out)) (by omega)
          have hrow := (hc7 k f.row (by rw [List.getElem?_map, hf]; rfl)).2
          have d0 := hrow 0 _ rfl
          have d1 := hrow 1 _ rfl
          have d2 := hrow 2 _ rfl
          have d3 := hrow 3 _ rfl
          have d4 := hrow 4 _ rfl
          have d5 := hrow 5 _ rfl
          have d6 := hrow 6 _ rfl
          have d7 := hrow 7 _ rfl
          have d8 := hrow 8 _ rfl
          have d9 := hrow 9 _ rfl
          have d10 := hrow 10 _ rfl
          rw [Nat.add_zero] at d0
          have htk : seqMax (S0.found.take (k + 1)) = max (seqMax (S0.found.take k)) f.item.seq := by
            rw [List.take_succ_eq_append_getElem hlk, seqMax_snoc]
            congr 2
            rw [List.getElem?_eq_getElem hlk] at hf
            injection hf with hf
            rw [hf]
          have HTK := Lib.hid htk
          have HLK := Lib.hid hlk
          clear hrow hc7 hf htk hk
          generalize seqMax (S0.found.take k) = ag at *
          go_wp2_with fail
          have hmx : (if ag < f.item.seq then f.item.seq else ag) = seqMax (S0.found.take (k + 1)) := by rw [HTK.out, Int.max_def]; split <;> split <;> omega
          have := HLK.out
          exact ⟨⟨k + 1, by rw [hmx], by go_num, HLK.out, Lib.hid (Base.al hb.out _)⟩, by simp [intOf]; omega⟩
        · obtain rfl : k = S0.found.length := by omega
          rw [List.take_length]
          have bx := Lib.hid (blk_below BX0.out hb.out)
          have st := Lib.hid (ST0.out.on hb.out)
          have d0 : wr.cell? ⟨X0, 3, none⟩ = some (.slice A7 S0.found.length c7) := cell_blk bx.out 3
          clear hk hb ST0 BX0 kwk hlk
          go_upto_region 15 with fail
          go_cut [8] (fun fv wc => Hid (ShNew x1 N SB wc fv (shFound N (j + 1)) lv (shInfos N j) ev (shEnds N j)) ∧ Hid (wc.heap[X0]? = some (.cells #[i64 S0.cls, i64 S0.stop, .bool S0.full, .slice A7 S0.found.length c7] 180 (0, 0))))
          case first =>
            have HFF : Hid (shFound N (j + 1) = shFound N j ++ S0.found) := Lib.hid (by rw [shFound_succ, HS0.out])
            rcases HA7.out with ⟨rfl, rfl, h0⟩ | ⟨g7, rfl⟩
            · rw [h0] at d0
              have hnil : S0.found = [] := List.eq_nil_of_length_eq_zero h0
              have HST : Hid (ShNew x1 N SB wr _ (shFound N (j + 1)) lv (shInfos N j) ev (shEnds N j)) := Lib.hid (by rw [HFF.out, hnil, List.append_nil]; exact st.out)
              clear hnil h0 HFF
              go_wp2_with (at_builtin; refine wpList_append_own_none rfl _ _ 117 rfl (SB + 1) 131 iF 11 Tryz.underlying117 f0 _ _ _ rfl st.out.ownF rfl ?_)
              go_wp2_with fail
              go_meet
              case rel => exact ⟨HST, bx⟩
            · have hcl := (own_below HOW.out (Base.tr (Below.refl _ _) st.out.below)).cells (g := g7) rfl
              have HCL := Lib.hid hcl
              have hfl : (S0.found.flatMap Found.row).length = S0.found.length * 11 := flat_len Found.row 11 (fun _ => rfl) S0.found
              have hSBw : SB < wr.heap.size := (Array.getElem?_eq_some_iff.1 st.out.box).1
              clear hcl
              go_wp2_with (at_builtin; refine wpList_append_own _ rfl _ _ 117 rfl (SB + 1) 131 iF _ 11 120 Tryz.underlying117 f0 f1 f2 f3 rfl (by decide) _ _ _ rfl st.out.ownF ⟨g7, 0, none⟩ S0.found.length c7 (S0.found.flatMap Found.row) rfl ?c0 ?c1 ?c2 ?c3 ?c4 ?c5 ?_)
              case c0 => exact hfl
              case c1 => exact HCL.out
              case c2 => intro u hu; obtain ⟨x, _, hx⟩ := List.mem_flatMap.1 hu; simp at hx; rcases hx with rfl | rfl | rfl | rfl | rfl | rfl | rfl | rfl | rfl | rfl | rfl <;> rfl
              case c3 => unfold maxLen; omega
              case c4 => omega
              case c5 => exact hSBw
              intro v2 w2 own2 gr2 _
              have HST : Hid (ShNew x1 N SB w2 v2 (shFound N (j + 1)) lv (shInfos N j) ev (shEnds N j)) := Lib.hid (by rw [HFF.out]; exact st.out.addF gr2 own2)
              have BX2 := Lib.hid (keepN st.out.ownF gr2 bx.out (by decide))
              clear own2 gr2
              go_wp2_with fail
              go_meet
              case rel => exact ⟨HST, BX2⟩
          case rest =>
            obtain ⟨st2, bx2⟩ := hcut
            clear st bx d0
            obtain ⟨Al, cl, rfl⟩ : ∃ A c, lv = .slice A j c := by
              rcases st2.out.ownL.2 with ⟨h1, h2⟩ | ⟨g', c', _, h1, _⟩
              · rw [shInfos_len] at h2; exact ⟨none, 0, by rw [h1, h2]⟩
              · exact ⟨_, _, by rw [h1, shInfos_len]⟩
            obtain ⟨Ae, ce, rfl⟩ : ∃ A c, ev = .slice A j c := by
              rcases st2.out.ownE.2 with ⟨h1, h2⟩ | ⟨g', c', _, h1, _⟩
              · rw [shEnds_len] at h2; exact ⟨none, 0, by rw [h1, h2]⟩
              · exact ⟨_, _, by rw [h1, shEnds_len]⟩
            have hSB : SB < wc.heap.size := (Array.getElem?_eq_some_iff.1 st2.out.box).1
            have hXB : X0 < wc.heap.size := (Array.getElem?_eq_some_iff.1 bx2.out).1
            have nS : some SB ≠ (Value.slice Al j cl).ownBlock := fun e => by have := (st2.out.ownL.lt SB e.symm).1; omega
            have nX : some X0 ≠ (Value.slice Al j cl).ownBlock := fun e => by
              rcases st2.out.ownL.2 with ⟨h1, _⟩ | ⟨g', c', cur', h1, _, hgg, _⟩
              · rw [h1] at e; cases e
              · rw [h1] at e
                injection e with e
                subst e
                exact ne_type bx2.out hgg (by decide) rfl
            have cl3 : wc.cell? ⟨SB, 3, none⟩ = some (.slice Al j cl) := cell_blk st2.out.box 3
            have cx0 : wc.cell? ⟨X0, 0, none⟩ = some (i64 S0.cls) := cell_blk bx2.out 0
            have k3 := fun p : GrOf wc (Value.slice Al j cl).ownBlock => (gr_rd0 p hSB nS).trans cl3
            have k0 := fun p : GrOf wc (Value.slice Al j cl).ownBlock => (gr_rd0 p hXB nX).trans cx0
            go_wp2_with fail
            refine wp_region_po (fun w' => ∃ p : GrOf wc (Value.slice Al j cl).ownBlock, w' = p.v) 13 [9, 10] (by kernel_rfl) (by kernel_rfl) ⟨⟨_, grown_dr (grown_same _ _)⟩, rfl⟩ ?_
            simp only [List.take_succ_cons, List.take_zero, List.drop_succ_cons, List.drop_zero]
            have on0 := @on_rd0; have on1 := @on_rd1; have on2 := @on_rd2; have on3 := @on_new1; have on4 := @on_new2; have on5 := @gr_rd0
            repeat ((with_reducible refine seq_read ?_ ?_); (focus rfl); (intro K hK); (unfold readsAt); go_simp; first | ((with_reducible refine hK _ ?_); clear hK K) | (rw [if_neg (by intro h; cases h)]; (with_reducible refine hK _ ?_); clear hK K))
            refine seq_eff (by rfl) (by first | rfl | go_simp) ?_
            intro K hK
            unfold effAt2
            go_simp
            refine ⟨⟨⟨_, grown_dr (grown_al (grown_same _ _) _)⟩, rfl⟩, hK _ _ ?_⟩
            clear hK K
            have hm6 := news_of wc [i64 S0.cls, .bool false, .int .i64 0, .int .u64 (seqMax S0.found), .int .i64 0, .bool false] 182
            have own6 := own_below st2.out.ownL (Base.al (Below.refl _ wc) (.cells #[i64 S0.cls, .bool false, .int .i64 0, .int .u64 (seqMax S0.found), .int .i64 0, .bool false] 182))
            have hgr6 : wc.grownBy ((wc.alloc (.cells #[i64 S0.cls, .bool false, .int .i64 0, .int .u64 (seqMax S0.found), .int .i64 0, .bool false] 182)).drew) (Value.slice Al j cl).ownBlock := grown_dr (grown_al (grown_same _ _) _)
            refine seq_eff (by rfl) (by first | rfl | go_simp) ?_
            intro K hK
            refine eff_append _ _ _ 176 rfl (SB + 1) 182 iI _ 6 48 Tryz.underlying176 g0 g1 g2 g3 rfl (by decide) (.slice Al j cl) (shInfos N j).length _ rfl (own_below own6 (Base.dr (Below.refl _ _))) ⟨wc.heap.size, 0, none⟩ 1 1 [i64 S0.cls, .bool false, .int .i64 0, .int .u64 (seqMax S0.found), .int .i64 0, .bool false] rfl rfl hm6 (by simp [Value.oneCell']) (by rw [shInfos_len]; unfold maxLen; omega) (by rw [shInfos_len]; omega) (by simp; omega) ?_
            intro v' x7 hown7 hgr7 halt7
            obtain ⟨A', n', c', rfl⟩ : ∃ A n c, v' = .slice A n c := by
              rcases hown7.2 with ⟨h1, _⟩ | ⟨g', c', _, h1, _⟩
              · exact ⟨_, _, _, h1⟩
              · exact ⟨_, _, _, h1⟩
            refine ⟨⟨⟨_, grown_trans hgr6 hgr7⟩, rfl⟩, hK _ _ ?_⟩
            clear hK K halt7
            repeat ((with_reducible refine seq_read ?_ ?_); (focus rfl); (intro K hK); (unfold readsAt); go_simp; first | ((with_reducible refine hK _ ?_); clear hK K) | (rw [if_neg (by intro h; cases h)]; (with_reducible refine hK _ ?_); clear hK K))
            clear on0 on1 on2 on3 on4 on5
            with_reducible refine seq_nil ?_
            have hgr := grown_trans hgr6 hgr7
            have st3 := Lib.hid (st2.out.addL (x := infoAt N j) hgr (by
              have hx : (infoAt N j).row = [i64 S0.cls, .bool false, .int .i64 0, .int .u64 (seqMax S0.found), .int .i64 0, .bool false] := by unfold infoAt; rw [← HS0.out]
              rw [hx]; exact hown7))
            have hSB7 := (hgr.block SB hSB nS).trans st2.out.box
            have hX7 := (hgr.block X0 hXB nX).trans bx2.out
            have c7' : x7.cell? ⟨SB, 3, none⟩ = some (.slice Al j cl) := cell_blk hSB7 3
            have f7 := fun o => frozen_blk hSB7 o
            have hXS : X0 ≠ SB := by have := HX0.out; omega
            have bx3 := Lib.hid (blk_set hX7 3 (.slice A' n' c') hXS)
            clear hgr6 hgr7 hown7 own6 hm6 hgr hSB7 hX7 st2 bx2 k3 k0 cl3 cx0 nS nX hSB hXB hXS
            go_upto_region 17 with fail
            generalize x7.setCell _ _ = x8 at *
            clear c7' f7
            have hSB : SB < x8.heap.size := (Array.getElem?_eq_some_iff.1 st3.out.box).1
            have hXB : X0 < x8.heap.size := (Array.getElem?_eq_some_iff.1 bx3.out).1
            have nS : some SB ≠ (Value.slice Ae j ce).ownBlock := fun e => by have := (st3.out.ownE.lt SB e.symm).1; omega
            have nX : some X0 ≠ (Value.slice Ae j ce).ownBlock := fun e => by
              rcases st3.out.ownE.2 with ⟨h1, _⟩ | ⟨g', c', cur', h1, _, hgg, _⟩
              · rw [h1] at e; cases e
              · rw [h1] at e
                injection e with e
                subst e
                exact ne_type bx3.out hgg (by decide) rfl
            have ce4 : x8.cell? ⟨SB, 4, none⟩ = some (.slice Ae j ce) := cell_blk st3.out.box 4
            have cx1 : x8.cell? ⟨X0, 1, none⟩ = some (i64 S0.stop) := cell_blk bx3.out 1
            have k4 := fun p : GrOf x8 (Value.slice Ae j ce).ownBlock => (gr_rd0 p hSB nS).trans ce4
            have k1 := fun p : GrOf x8 (Value.slice Ae j ce).ownBlock => (gr_rd0 p hXB nX).trans cx1
            go_wp2_with fail
            refine wp_region_po (fun w' => ∃ p : GrOf x8 (Value.slice Ae j ce).ownBlock, w' = p.v) 11 [7, 8] (by kernel_rfl) (by kernel_rfl) ⟨⟨_, grown_dr (grown_same _ _)⟩, rfl⟩ ?_
            simp only [List.take_succ_cons, List.take_zero, List.drop_succ_cons, List.drop_zero]
            have on0 := @on_rd0; have on1 := @on_rd1; have on2 := @on_rd2; have on3 := @on_new1; have on4 := @on_new2; have on5 := @gr_rd0
            repeat ((with_reducible refine seq_read ?_ ?_); (focus rfl); (intro K hK); (unfold readsAt); go_simp; first | ((with_reducible refine hK _ ?_); clear hK K) | (rw [if_neg (by intro h; cases h)]; (with_reducible refine hK _ ?_); clear hK K))
            refine seq_eff (by rfl) (by first | rfl | go_simp) ?_
            intro K hK
            unfold effAt2
            go_simp
            refine ⟨⟨⟨_, grown_dr (grown_al (grown_same _ _) _)⟩, rfl⟩, hK _ _ ?_⟩
            clear hK K
            have hm6 := news_of x8 [i64 S0.stop] 3
            have own6 := own_below st3.out.ownE (Base.al (Below.refl _ x8) (.cells #[i64 S0.stop] 3))
            have hgr6 : x8.grownBy ((x8.alloc (.cells #[i64 S0.stop] 3)).drew) (Value.slice Ae j ce).ownBlock := grown_dr (grown_al (grown_same _ _) _)
            refine seq_eff (by rfl) (by first | rfl | go_simp) ?_
            intro K hK
            refine eff_append _ _ _ 85 rfl (SB + 1) 3 iZ _ 1 8 Tryz.underlying85 z0 z1 z2 z3 rfl (by decide) (.slice Ae j ce) (shEnds N j).length _ rfl (own_below own6 (Base.dr (Below.refl _ _))) ⟨x8.heap.size, 0, none⟩ 1 1 [i64 S0.stop] rfl rfl hm6 (by simp [Value.oneCell']) (by rw [shEnds_len]; unfold maxLen; omega) (by rw [shEnds_len]; omega) (by simp; omega) ?_
            intro v9 x9 hown9 hgr9 halt9
            obtain ⟨A2, n2, c2, rfl⟩ : ∃ A n c, v9 = .slice A n c := by
              rcases hown9.2 with ⟨h1, _⟩ | ⟨g', c', _, h1, _⟩
              · exact ⟨_, _, _, h1⟩
              · exact ⟨_, _, _, h1⟩
            refine ⟨⟨⟨_, grown_trans hgr6 hgr9⟩, rfl⟩, hK _ _ ?_⟩
            clear hK K halt9
            repeat ((with_reducible refine seq_read ?_ ?_); (focus rfl); (intro K hK); (unfold readsAt); go_simp; first | ((with_reducible refine hK _ ?_); clear hK K) | (rw [if_neg (by intro h; cases h)]; (with_reducible refine hK _ ?_); clear hK K))
            clear on0 on1 on2 on3 on4 on5
            with_reducible refine seq_nil ?_
            have hgr := grown_trans hgr6 hgr9
            have st4 := Lib.hid (st3.out.addE (x := S0.stop) hgr hown9)
            have hSB9 := (hgr.block SB hSB nS).trans st3.out.box
            have c9' : x9.cell? ⟨SB, 4, none⟩ = some (.slice Ae j ce) := cell_blk hSB9 4
            have f9 := fun o => frozen_blk hSB9 o
            have HE : Hid (shInfos N (j + 1) = shInfos N j ++ [infoAt N j] ∧ shEnds N (j + 1) = shEnds N j ++ [S0.stop]) := Lib.hid ⟨shInfos_succ N j, by rw [shEnds_succ, HS0.out]⟩
            clear hgr6 hgr9 hown9 own6 hm6 hgr hSB9 st3 bx3 k4 k1 ce4 cx1 nS nX hSB hXB
            go_wp2_with fail
            have := HLT.out
            exact ⟨⟨j + 1, _, _, by omega, by go_num, Lib.hid (by rw [HE.out.1, HE.out.2]; exact st4.out)⟩, by simp [intOf]; omega⟩
    · obtain rfl : j = N.S := by omega
      go_wp2_with fail
      go_ret3
      exact ⟨_, _, _, _, _, rfl, st.out, HSEC.out.below⟩
end Go.Proofs.YthiimpleljaimaaGreatDoor
