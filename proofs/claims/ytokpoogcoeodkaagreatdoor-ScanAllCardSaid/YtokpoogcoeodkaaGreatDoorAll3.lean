/- ScanAll: the walk. -/
import Derived.Test.YtokpoogcoeodkaaGreatDoorMg17
import Derived.Deep.DeepCutAuto
import Derived.Deep.CutBlock
namespace Go.Proofs.YtokpoogcoeodkaaGreatDoor
open Go Go.RowKit Flo

theorem geo_ex : geoB 6 512 = true := by decide
/-- The package's example stands. -/
structure ExIn (w : World) : Prop where
  g0 : w.cell? ⟨0, 0, none⟩ = some (i64 6)
  g1 : w.cell? ⟨0, 1, none⟩ = some (i64 512)
  hz : 0 < w.heap.size
theorem ExIn.below {w W : World} (h : ExIn w) (hb : Below w.heap.size w W) : ExIn W :=
  ⟨(hb.cell (p := ⟨0, 0, none⟩) h.hz).trans h.g0, (hb.cell (p := ⟨0, 1, none⟩) h.hz).trans h.g1, Nat.lt_of_lt_of_le h.hz hb.size⟩

set_option maxHeartbeats 16000000 in
set_option maxRecDepth 100000 in
theorem scanAll_law (A : Option Addr) (n cap : Nat) (hd : Bool) (l : List (OpV × List Nat)) (w : World) (hx : ExIn w) (h : Ops w (.slice A n cap) (l.map Prod.fst)) (hop : ∀ x ∈ l, OpIn w x.1 x.2) : Makes 3 #[.slice A n cap, .bool hd] w (.bool true) := by
  have hn := h.len
  rw [List.length_map, List.length_map] at hn
  subst hn
  have G3 : ∀ W, Hid (Calls Tryz.prog 4 #[geo 6 512] W fun e w' => ∃ (N : Nor) (O : Nat → Prop), e = .returned (.tuple #[.pointer (some ⟨N.D, 0, none⟩), i64 0]) ∧ DevR O w' N ∧ (∀ k, O k → W.heap.size ≤ k) ∧ Fresh N 6 512 ∧ Below W.heap.size W w') := fun W => Lib.hid (new_any 6 512 W geo_ex)
  have G4 : ∀ W, Hid (Calls Tryz.prog 5 #[geo 6 512] W fun e w' => ∃ (vd vw vb : Value) (rows : List Value) (Zc : Array Value), e = .returned (.agg #[i64 6, i64 512, vd, vw, vb, .bool false, i64 0, i64 0, .bool false, i64 0, i64 0, .int .u8 0]) ∧ RNew W 6 512 Zc w' 6 6 6 vd vw vb rows) := fun W => Lib.hid (rnew_any 6 512 W geo_ex)
  have HX := Lib.hid hx
  have HH := Lib.hid h
  have HOP := Lib.hid hop
  have g0 := hx.g0
  have g1 := hx.g1
  clear hx h hop
  go_enter Tryz.func3, Tryz.ntmps3
  go_wp2_with fail
  refine (G3 _).out.mono ?_; rintro e x1 ⟨N, O, rfl, hd1, hO1, hf, hb1⟩
  have HX1 := HX.out.below hb1
  clear g0 g1
  have g0 := HX1.g0
  have g1 := HX1.g1
  go_wp2_with fail
  refine (G4 _).out.mono ?_; rintro e x2 ⟨vd, vw, vb, rows, Zc, rfl, hn6⟩
  obtain ⟨R, hRv, hr6, hRm, hRl⟩ := hn6.ref geo_ex hd1.lim hf
  injection hRv with hRv
  have HRV := Lib.hid hRv
  obtain ⟨A1, k1, rfl⟩ := own_val hn6.o1
  obtain ⟨A2, k2, rfl⟩ := own_val hn6.o2
  obtain ⟨A3, k3, rfl⟩ := own_val hn6.o3
  have b6 := Base.tr hb1 hn6.below
  have hd6 := hd1.below hn6.below
  have hge : ∀ k, O k → w.heap.size ≤ k := hO1
  have st0 : Hid (PlaySt w 6 512 N.D x2.heap.size (x2.alloc (.cells #[i64 6, i64 512, .slice A1 6 k1, .slice A2 6 k2, .slice A3 6 k3, .bool false, i64 0, i64 0, .bool false, i64 0, i64 0, .int .u8 0] 33)) 0 N R O) := by
    refine Lib.hid ⟨hd6.al _, (hr6.wider (by rintro k (hk | rfl); exact .inl hk; exact .inr (Nat.le_refl _))).below (Base.al (Below.refl _ _) _), ?_, fun hq => Nat.lt_irrefl _ (hd6.lim _ hq), hge, b6.size, bd_fresh hf, hf.S, hf.Z, rfl, by rw [hRm]; decide, by rw [hRl]; decide, Base.al b6 _⟩
    rw [← hRv]
    exact blk_new _ _
  clear hRv hr6 hn6 hd6 hd1 hRm hRl b6 hb1 hf hO1 hge HX1 g0 g1 G3 G4
  have HE5 : ∀ W, Hid (Makes 8 #[geo 6 512] W (.string (toB (headOf 6 512)))) := fun W => Lib.hid (rOf_any 6 512 W geo_ex)
  go_upto_if 31 with fail
  generalize x2.alloc _ = x3 at *
  generalize x2.heap.size = gm at *
  generalize N.D = D0 at *
  go_cut [] (fun wc => ∃ (j : Nat) (N : Nor) (R : RV) (O : Nat → Prop), j ≤ 6 ∧ Hid (PlaySt w 6 512 D0 gm wc j N R O))
  case first =>
    cases hd
    · go_wp2_with fail
      go_meet
      case rel => exact ⟨0, _, _, _, by omega, st0⟩
    · have HX2 := HX.out.below st0.out.below
      have g0 := HX2.g0
      have g1 := HX2.g1
      clear HX2
      go_wp2_with fail
      go_loopw [34] (fun iv wr => ∃ (k j : Nat) (N : Nor) (R : RV) (O : Nat → Prop), iv = .int .i64 k ∧ k ≤ 6 ∧ j ≤ k ∧ Hid (PlaySt w 6 512 D0 gm wr j N R O)) (fun iv _ => 6 - (intOf iv).toNat)
      case atStart => exact ⟨0, 0, _, _, _, rfl, by omega, Nat.le_refl _, st0⟩
      case round =>
        clear st0
        obtain ⟨k, j, N, R, O, rfl, hk, hjk, st⟩ := hrel
        clear g0 g1
        by_cases hlt : k < 6
        · have HXr := HX.out.below st.out.below
          have hz := HXr.hz
          have e0 := HXr.g0
          have e1 := HXr.g1
          have q0 := fun q => on_cell (w := wr) hz e0 q
          have q1 := fun q => on_cell (w := wr) hz e1 q
          have P0 : ∀ W, Hid (Gives 7 #[i64 k, i64 0] W (cx (near k) (near 0))) := fun W => Lib.hid (of_in k 0 W (by omega) (by omega) (by omega) (by omega))
          have P1 : ∀ W, Hid (Gives 10 #[i64 k, i64 0] W (cx (near k) (near 0))) := fun W => Lib.hid (rof_in k 0 W (by omega) (by omega) (by omega) (by omega))
          have HK := Lib.hid hlt
          clear hlt
          have t6 : decide ((k : Int) < 6) = true := decide_eq_true (by have := HK.out; omega)
          have kwk : IntKind.i64.wrap ((k : Int) + 1) = (k : Int) + 1 := by rw [IntKind.wrap_i64]; omega
          go_wp2_with fail
          refine wp_region_po (fun w' => ∃ p : OnOf wr, w' = p.v) 6 [2, 4, 5] (by kernel_rfl) (by kernel_rfl) ⟨⟨_, Base.dr (Below.refl _ _)⟩, rfl⟩ ?_
          simp only [List.take_succ_cons, List.take_zero, List.drop_succ_cons, List.drop_zero]
          have on0 := @on_rd0; have on1 := @on_rd1; have on2 := @on_rd2; have on3 := @on_new1; have on4 := @on_new2; have on5 := @gr_rd0
          repeat ((with_reducible refine seq_read ?_ ?_); (focus rfl); (intro K hK); (unfold readsAt); go_simp; first | ((with_reducible refine hK _ ?_); clear hK K) | (rw [if_neg (by intro h; cases h)]; (with_reducible refine hK _ ?_); clear hK K))
          refine seq_eff (by rfl) (by first | rfl | go_simp) ?_
          intro K hK
          unfold effAt2
          go_simp
          refine ⟨rfl, (P0 _).out.mono ?_⟩; rintro e x5 ⟨rfl, rfl⟩
          refine ⟨_, rfl, ⟨⟨_, Base.dr (Below.refl _ _)⟩, rfl⟩, hK _ _ ?_⟩
          clear hK K
          repeat ((with_reducible refine seq_read ?_ ?_); (focus rfl); (intro K hK); (unfold readsAt); go_simp; first | ((with_reducible refine hK _ ?_); clear hK K) | (rw [if_neg (by intro h; cases h)]; (with_reducible refine hK _ ?_); clear hK K))
          refine seq_eff (by rfl) (by first | rfl | go_simp) ?_
          intro K hK
          unfold effAt2
          go_simp
          refine ⟨rfl, (HE5 _).out.mono ?_⟩; rintro e x6 ⟨rfl, hb6⟩
          refine ⟨_, rfl, ⟨⟨_, Base.tr (Base.dr (Below.refl _ _)) hb6⟩, rfl⟩, hK _ _ ?_⟩
          clear hK K
          repeat ((with_reducible refine seq_read ?_ ?_); (focus rfl); (intro K hK); (unfold readsAt); go_simp; first | ((with_reducible refine hK _ ?_); clear hK K) | (rw [if_neg (by intro h; cases h)]; (with_reducible refine hK _ ?_); clear hK K))
          obtain ⟨c7, x7, hcv, hy7, hb7⟩ := conv_bytes8 (headOf 6 512) (headOf_lt 6 512) (by rw [headOf_len]; decide) x6
          rw [headOf_len] at hcv hy7
          refine seq_eff (by rfl) (by first | rfl | go_simp) ?_
          intro K hK
          unfold effAt2
          go_simp
          refine ⟨⟨⟨_, Base.tr (Base.tr (Base.dr (Below.refl _ _)) hb6) hb7⟩, rfl⟩, hK _ _ ?_⟩
          clear hK K
          repeat ((with_reducible refine seq_read ?_ ?_); (focus rfl); (intro K hK); (unfold readsAt); go_simp; first | ((with_reducible refine hK _ ?_); clear hK K) | (rw [if_neg (by intro h; cases h)]; (with_reducible refine hK _ ?_); clear hK K))
          clear on0 on1 on2 on3 on4 on5
          with_reducible refine seq_nil ?_
          have B7 := Base.tr (Base.tr (Base.dr (Below.refl wr.heap.size wr)) hb6) hb7
          have hlim : ¬ O x6.heap.size := fun hO => by
            have h1 := st.out.dev.lim _ hO
            have h2 := (Base.tr (Base.dr (Below.refl wr.heap.size wr)) hb6).size
            omega
          have DP := Lib.hid (dev_prog (st.out.on B7) (by omega) k (by omega) (g := x6.heap.size) (.inr hlim) hy7 (headOf_lt 6 512) (by rw [headOf_len]; decide))
          clear q0 q1 e0 e1 hz hcv hy7 hb7 hb6 B7 hlim HXr st P0
          go_wp2_with fail
          refine DP.out.mono ?_; rintro e x8 ⟨rfl, duo0, -⟩
          have duo := Lib.hid duo0
          clear DP duo0
          have HXr := HX.out.below duo.out.below
          have hz := HXr.hz
          have e0 := HXr.g0
          have e1 := HXr.g1
          have q0 := fun q => on_cell (w := x8) hz e0 q
          have q1 := fun q => on_cell (w := x8) hz e1 q
          have hbx := duo.out.box
          unfold RV.cells at hbx
          have zg : gm < x8.heap.size := (Array.getElem?_eq_some_iff.1 hbx).1
          have fd := cell_blk hbx
          have f0 : x8.cell? ⟨gm, 0, none⟩ = some (i64 N.S) := fd 0
          have f1 : x8.cell? ⟨gm, 1, none⟩ = some (i64 N.Z) := fd 1
          have f2 : x8.cell? ⟨gm, 2, none⟩ = some (.slice R.dA N.S R.dc) := fd 2
          have f3 : x8.cell? ⟨gm, 3, none⟩ = some (.slice R.wA N.S R.wc) := fd 3
          have f4 : x8.cell? ⟨gm, 4, none⟩ = some (.slice R.bA N.S R.bc) := fd 4
          have f5 : x8.cell? ⟨gm, 5, none⟩ = some (.bool N.off) := fd 5
          have f6 : x8.cell? ⟨gm, 6, none⟩ = some (i64 N.offs) := fd 6
          have f7 : x8.cell? ⟨gm, 7, none⟩ = some (i64 N.acts) := fd 7
          have f8 : x8.cell? ⟨gm, 8, none⟩ = some (.bool N.cut.isSome) := fd 8
          have f9 : x8.cell? ⟨gm, 9, none⟩ = some (i64 R.left) := fd 9
          have f10 : x8.cell? ⟨gm, 10, none⟩ = some (i64 R.whole) := fd 10
          have f11 : x8.cell? ⟨gm, 11, none⟩ = some (.int .u8 R.mask) := fd 11
          clear fd
          have qf0 := fun q => on_cell (w := x8) zg f0 q
          have qf1 := fun q => on_cell (w := x8) zg f1 q
          have qf2 := fun q => on_cell (w := x8) zg f2 q
          have qf3 := fun q => on_cell (w := x8) zg f3 q
          have qf4 := fun q => on_cell (w := x8) zg f4 q
          have qf5 := fun q => on_cell (w := x8) zg f5 q
          have qf6 := fun q => on_cell (w := x8) zg f6 q
          have qf7 := fun q => on_cell (w := x8) zg f7 q
          have qf8 := fun q => on_cell (w := x8) zg f8 q
          have qf9 := fun q => on_cell (w := x8) zg f9 q
          have qf10 := fun q => on_cell (w := x8) zg f10 q
          have qf11 := fun q => on_cell (w := x8) zg f11 q
          clear f0 f1 f2 f3 f4 f5 f6 f7 f8 f9 f10 f11 hbx
          go_wp2_with fail
          refine wp_region_po (fun w' => ∃ p : OnOf x8, w' = p.v) 10 [2, 4, 5, 6] (by kernel_rfl) (by kernel_rfl) ⟨⟨_, Base.dr (Below.refl _ _)⟩, rfl⟩ ?_
          simp only [List.take_succ_cons, List.take_zero, List.drop_succ_cons, List.drop_zero]
          have on0 := @on_rd0; have on1 := @on_rd1; have on2 := @on_rd2; have on3 := @on_new1; have on4 := @on_new2; have on5 := @gr_rd0
          repeat ((with_reducible refine seq_read ?_ ?_); (focus rfl); (intro K hK); (unfold readsAt); go_simp; first | ((with_reducible refine hK _ ?_); clear hK K) | (rw [if_neg (by intro h; cases h)]; (with_reducible refine hK _ ?_); clear hK K))
          refine seq_eff (by rfl) (by first | rfl | go_simp) ?_
          intro K hK
          unfold effAt2
          go_simp
          refine ⟨rfl, (P1 _).out.mono ?_⟩; rintro e x9 ⟨rfl, rfl⟩
          refine ⟨_, rfl, ⟨⟨_, Base.dr (Below.refl _ _)⟩, rfl⟩, hK _ _ ?_⟩
          clear hK K
          repeat ((with_reducible refine seq_read ?_ ?_); (focus rfl); (intro K hK); (unfold readsAt); go_simp; first | ((with_reducible refine hK _ ?_); clear hK K) | (rw [if_neg (by intro h; cases h)]; (with_reducible refine hK _ ?_); clear hK K))
          refine seq_eff (by rfl) (by first | rfl | go_simp) ?_
          intro K hK
          unfold effAt2
          go_simp
          refine ⟨rfl, (HE5 _).out.mono ?_⟩; rintro e xa ⟨rfl, hba⟩
          refine ⟨_, rfl, ⟨⟨_, Base.tr (Base.dr (Below.refl _ _)) hba⟩, rfl⟩, hK _ _ ?_⟩
          clear hK K
          repeat ((with_reducible refine seq_read ?_ ?_); (focus rfl); (intro K hK); (unfold readsAt); go_simp; first | ((with_reducible refine hK _ ?_); clear hK K) | (rw [if_neg (by intro h; cases h)]; (with_reducible refine hK _ ?_); clear hK K))
          obtain ⟨cb, xb, hcv, hyb, hbb⟩ := conv_bytes8 (headOf 6 512) (headOf_lt 6 512) (by rw [headOf_len]; decide) xa
          rw [headOf_len] at hcv hyb
          refine seq_eff (by rfl) (by first | rfl | go_simp) ?_
          intro K hK
          unfold effAt2
          go_simp
          refine ⟨⟨⟨_, Base.tr (Base.tr (Base.dr (Below.refl _ _)) hba) hbb⟩, rfl⟩, hK _ _ ?_⟩
          clear hK K
          repeat ((with_reducible refine seq_read ?_ ?_); (focus rfl); (intro K hK); (unfold readsAt); go_simp; first | ((with_reducible refine hK _ ?_); clear hK K) | (rw [if_neg (by intro h; cases h)]; (with_reducible refine hK _ ?_); clear hK K))
          have Bb := Base.tr (Base.tr (Base.dr (Below.refl x8.heap.size x8)) hba) hbb
          have RP := ref_prog (duo.out.on Bb) (by omega) hyb (headOf_lt 6 512)
          unfold RV.cells at RP
          have RP := Lib.hid RP
          refine seq_eff (by rfl) (by first | rfl | go_simp) ?_
          intro K hK
          unfold effAt2
          go_simp
          refine ⟨rfl, RP.out.mono ?_⟩; rintro e xc ⟨R', u, rfl, hbxc, hbc, hst9⟩
          refine ⟨_, rfl, ⟨⟨_, Base.tr Bb hbc⟩, rfl⟩, hK _ _ ?_⟩
          clear hK K
          repeat ((with_reducible refine seq_read ?_ ?_); (focus rfl); (intro K hK); (unfold readsAt); go_simp; first | ((with_reducible refine hK _ ?_); clear hK K) | (rw [if_neg (by intro h; cases h)]; (with_reducible refine hK _ ?_); clear hK K))
          clear on0 on1 on2 on3 on4 on5
          with_reducible refine seq_nil ?_
          have HST := Lib.hid hst9
          have zy := fun i => frozen_blk hbxc i
          have zg9 : gm < xc.heap.size := (Array.getElem?_eq_some_iff.1 hbxc).1
          have fd := cell_blk hbxc
          have y0 : xc.cell? ⟨gm, 0, none⟩ = some (i64 N.S) := fd 0
          have y1 : xc.cell? ⟨gm, 1, none⟩ = some (i64 N.Z) := fd 1
          have y2 : xc.cell? ⟨gm, 2, none⟩ = some (.slice R.dA N.S R.dc) := fd 2
          have y3 : xc.cell? ⟨gm, 3, none⟩ = some (.slice R.wA N.S R.wc) := fd 3
          have y4 : xc.cell? ⟨gm, 4, none⟩ = some (.slice R.bA N.S R.bc) := fd 4
          have y5 : xc.cell? ⟨gm, 5, none⟩ = some (.bool N.off) := fd 5
          have y6 : xc.cell? ⟨gm, 6, none⟩ = some (i64 N.offs) := fd 6
          have y7 : xc.cell? ⟨gm, 7, none⟩ = some (i64 N.acts) := fd 7
          have y8 : xc.cell? ⟨gm, 8, none⟩ = some (.bool N.cut.isSome) := fd 8
          have y9 : xc.cell? ⟨gm, 9, none⟩ = some (i64 R.left) := fd 9
          have y10 : xc.cell? ⟨gm, 10, none⟩ = some (i64 R.whole) := fd 10
          have y11 : xc.cell? ⟨gm, 11, none⟩ = some (.int .u8 R.mask) := fd 11
          clear fd hst9 RP hbxc hbc Bb hbb hyb hcv hba duo qf0 qf1 qf2 qf3 qf4 qf5 qf6 qf7 qf8 qf9 qf10 qf11 q0 q1 e0 e1 hz HXr P1
          go_wp2_with fail
          have := HK.out
          exact ⟨⟨k + 1, j + 1, _, R', O, by go_num, by omega, by omega, HST⟩, by simp [intOf]; omega⟩
        · have t6 : decide ((k : Int) < 6) = false := decide_eq_false (by omega)
          go_wp2_with fail
          go_meet
          case rel => exact ⟨j, _, _, _, by omega, st⟩
  case rest =>
    obtain ⟨j0, N, R, O, hj, st⟩ := hcut
    clear st0
    have hlen : l.length ≤ 9223372036854775807 := by
      have := HH.out.max
      rw [List.length_map, List.length_map] at this
      unfold maxLen at this
      omega
    go_upto_block 2 with fail
    go_cut [] (fun wd => ∃ (j : Nat) (N : Nor) (R : RV) (O : Nat → Prop), j ≤ 40 ∧ Hid (PlaySt w 6 512 D0 gm wd j N R O))
    case first =>
      go_wp2_with fail
      go_loopw [57] (fun iv wr => ∃ (i : Nat) (N : Nor) (R : RV) (O : Nat → Prop), iv = .int .i64 i ∧ i ≤ l.length ∧ i ≤ 31 ∧ Hid (PlaySt w 6 512 D0 gm wr (j0 + i) N R O)) (fun iv _ => 31 - (intOf iv).toNat)
      case atStart => exact ⟨0, _, _, _, rfl, Nat.zero_le _, by omega, st⟩
      case round =>
        clear st
        obtain ⟨i, N, R, O, rfl, hil, hi31, st⟩ := hrel
        have kwi : IntKind.i64.wrap ((i : Int) + 1) = (i : Int) + 1 := by rw [IntKind.wrap_i64]; omega
        by_cases hlt : i < l.length
        · obtain ⟨x, hx⟩ : ∃ x, l[i]? = some x := ⟨_, List.getElem?_eq_getElem hlt⟩
          obtain ⟨o, lb⟩ := x
          have hoi := HOP.out _ (List.mem_of_getElem? hx)
          simp only [] at hoi
          have hln := hoi.len
          obtain ⟨b, off, rfl, hbs, hc⟩ := Ops.at (Sl.below HH.out st.out.below) (by rw [List.length_map]; omega)
          have hlo : (l.map Prod.fst)[i]? = some o := by rw [List.getElem?_map, hx]; rfl
          have c0 := hc i o hlo 0 _ rfl
          have c1 := hc i o hlo 1 _ rfl
          have c2 := hc i o hlo 2 _ rfl
          have c3 := hc i o hlo 3 _ rfl
          have c4 := hc i o hlo 4 _ rfl
          have c5 := hc i o hlo 5 _ rfl
          have c6 := hc i o hlo 6 _ rfl
          rw [Nat.add_zero] at c0
          have HO := Lib.hid (And.intro hoi hln)
          have HI := Lib.hid (And.intro hlt hi31)
          clear hc hx hlo hln hoi hi31 hil
          by_cases h31 : i = 31
          · have t30 : decide ((30 : Int) < (i : Int)) = true := decide_eq_true (by omega)
            clear h31
            go_wp2_with fail
            go_meet
            case rel => exact ⟨j0 + i, _, _, _, by have := HI.out.2; omega, Lib.hid (st.out.on (Base.al (Below.refl _ _) _))⟩
          · have t30 : decide ((30 : Int) < (i : Int)) = false := decide_eq_false (by have := HI.out.2; omega)
            have HI2 := Lib.hid h31
            clear h31
            by_cases h6 : 600 < lb.length
            · have t600 : decide ((600 : Int) < (o.bn : Int)) = true := decide_eq_true (by have := HO.out.2; omega)
              clear h6
              go_wp2_with fail
              go_meet
              case rel => exact ⟨j0 + i, _, _, _, by have := HI.out.2; omega, Lib.hid (st.out.on (Base.al (Below.refl _ _) _))⟩
            · have t600 : decide ((600 : Int) < (o.bn : Int)) = false := decide_eq_false (by have := HO.out.2; omega)
              have HD := do_next st.out (by have := HI.out.2; omega) HO.out.1 (by omega)
              unfold RV.cells at HD
              have HD := Lib.hid HD
              have hbx := st.out.box
              unfold RV.cells at hbx
              have zg := st.out.lt
              have fd := cell_blk hbx
              have f0 : wr.cell? ⟨gm, 0, none⟩ = some (i64 N.S) := fd 0
              have f1 : wr.cell? ⟨gm, 1, none⟩ = some (i64 N.Z) := fd 1
              have f2 : wr.cell? ⟨gm, 2, none⟩ = some (.slice R.dA N.S R.dc) := fd 2
              have f3 : wr.cell? ⟨gm, 3, none⟩ = some (.slice R.wA N.S R.wc) := fd 3
              have f4 : wr.cell? ⟨gm, 4, none⟩ = some (.slice R.bA N.S R.bc) := fd 4
              have f5 : wr.cell? ⟨gm, 5, none⟩ = some (.bool N.off) := fd 5
              have f6 : wr.cell? ⟨gm, 6, none⟩ = some (i64 N.offs) := fd 6
              have f7 : wr.cell? ⟨gm, 7, none⟩ = some (i64 N.acts) := fd 7
              have f8 : wr.cell? ⟨gm, 8, none⟩ = some (.bool N.cut.isSome) := fd 8
              have f9 : wr.cell? ⟨gm, 9, none⟩ = some (i64 R.left) := fd 9
              have f10 : wr.cell? ⟨gm, 10, none⟩ = some (i64 R.whole) := fd 10
              have f11 : wr.cell? ⟨gm, 11, none⟩ = some (.int .u8 R.mask) := fd 11
              clear fd hbx h6 st
              go_wp2_with fail
              with_reducible refine HD.out.mono ?_
              rintro e x9 ⟨R', N', O', rfl, hbx9, hst9⟩
              have HST := Lib.hid hst9
              have zy := fun i => frozen_blk hbx9 i
              have zg9 : gm < x9.heap.size := (Array.getElem?_eq_some_iff.1 hbx9).1
              clear hst9 HD f0 f1 f2 f3 f4 f5 f6 f7 f8 f9 f10 f11 c0 c1 c2 c3 c4 c5 c6 zg
              have fd := cell_blk hbx9
              have y0 : x9.cell? ⟨gm, 0, none⟩ = some (i64 N.S) := fd 0
              have y1 : x9.cell? ⟨gm, 1, none⟩ = some (i64 N.Z) := fd 1
              have y2 : x9.cell? ⟨gm, 2, none⟩ = some (.slice R.dA N.S R.dc) := fd 2
              have y3 : x9.cell? ⟨gm, 3, none⟩ = some (.slice R.wA N.S R.wc) := fd 3
              have y4 : x9.cell? ⟨gm, 4, none⟩ = some (.slice R.bA N.S R.bc) := fd 4
              have y5 : x9.cell? ⟨gm, 5, none⟩ = some (.bool N.off) := fd 5
              have y6 : x9.cell? ⟨gm, 6, none⟩ = some (i64 N.offs) := fd 6
              have y7 : x9.cell? ⟨gm, 7, none⟩ = some (i64 N.acts) := fd 7
              have y8 : x9.cell? ⟨gm, 8, none⟩ = some (.bool N.cut.isSome) := fd 8
              have y9 : x9.cell? ⟨gm, 9, none⟩ = some (i64 R.left) := fd 9
              have y10 : x9.cell? ⟨gm, 10, none⟩ = some (i64 R.whole) := fd 10
              have y11 : x9.cell? ⟨gm, 11, none⟩ = some (.int .u8 R.mask) := fd 11
              clear fd hbx9
              go_wp2_with fail
              have := HI.out
              have := HI2.out
              exact ⟨⟨i + 1, N', R', O', by go_num, by omega, by omega, HST⟩, by simp [intOf]; omega⟩
        · have hie : i = l.length := by omega
          have HI := Lib.hid hi31
          subst hie
          clear hi31
          go_wp2_with fail
          go_meet
          case rel => exact ⟨j0 + l.length, _, _, _, by have := HI.out; omega, st⟩
    case rest =>
      clear st
      obtain ⟨j1, N, R, O, hj1, st⟩ := hcut
      have HXd := HX.out.below st.out.below
      have HFX := fun W hb => Lib.hid (fixed8 W (HX.out.below (W := W) hb).g0 (HX.out.below hb).g1 (HX.out.below hb).hz)
      have hbx := st.out.box
      unfold RV.cells at hbx
      have BX := Lib.hid hbx
      have hDe := st.out.D
      cases hoff : N.off with
      | true =>
        have G := scanAll_off st.out.dev hoff
        rw [show ptrD N = .pointer (some ⟨D0, 0, none⟩) by rw [← hDe]] at G
        have G := Lib.hid G
        have SB := Lib.hid st.out.below
        rw [hoff] at hbx
        have BX := Lib.hid hbx
        clear hbx hDe HXd hoff st
        go_wp2_with fail
        refine G.out.mono ?_; rintro e x1 ⟨rfl, hb1⟩
        have bx1 := blk_below BX.out hb1
        have f5 : x1.cell? ⟨gm, 5, none⟩ = some (.bool true) := cell_blk bx1 5
        have B1 := Lib.hid (Base.tr SB.out hb1)
        clear bx1 hb1 G
        go_wp2_with fail
        refine (HFX _ B1.out).out.mono ?_; rintro e x2 ⟨rfl, hb2⟩
        go_wp2_with fail
        go_ret
        exact ⟨rfl, Base.tr B1.out hb2⟩
      | false =>
        have G := scanAll_any st.out.dev hoff
        rw [show ptrD N = .pointer (some ⟨D0, 0, none⟩) by rw [← hDe]] at G
        have G := Lib.hid G
        rw [hoff] at hbx
        have BX := Lib.hid hbx
        have hS : N.S = 6 := st.out.S
        have ST := Lib.hid st
        have HS := Lib.hid hS
        clear hbx hDe HXd hoff st hS
        go_wp2_with fail
        unfold AllPost at G
        refine G.out.mono ?_; rintro e x1 ⟨v, xs, rfl, hsec, hxl⟩
        obtain ⟨A9, n9, c9, rfl⟩ : ∃ A n c, v = .slice A n c := by
          rcases hsec.own.2 with ⟨h1, _⟩ | ⟨g', c', _, h1, _⟩
          · exact ⟨_, _, _, h1⟩
          · exact ⟨_, _, _, h1⟩
        have hsl : Sl x1 4 (.slice A9 n9 c9) (xs.map secRow) := Sl.own _ (by intro y hy; obtain ⟨q, _, rfl⟩ := List.mem_map.1 hy; rfl) (by rw [List.length_map, ← List.flatMap_def]; exact hsec.own)
        have hn9 := hsl.len
        rw [List.length_map, hxl, HS.out] at hn9
        subst hn9
        have B1 := Lib.hid (Base.tr ST.out.below hsec.below)
        have HX1 := HX.out.below B1.out
        have g0 := HX1.g0
        have RF := Lib.hid (ST.out.ref.below hsec.below)
        have BX1 := Lib.hid (blk_below BX.out hsec.below)
        have f5 : x1.cell? ⟨gm, 5, none⟩ = some (.bool false) := cell_blk BX1.out 5
        have HSEC := Lib.hid hsec
        have HSL := Lib.hid hsl
        have HXL := Lib.hid (hxl.trans HS.out)
        clear HX1 hsec hsl hxl G
        go_wp2_with fail
        clear g0 f5
        go_loopw [106] (fun iv wr => ∃ i : Nat, iv = .int .i64 i ∧ i ≤ 6 ∧ Below x1.heap.size x1 wr) (fun iv _ => 6 - (intOf iv).toNat)
        case atStart => exact ⟨0, rfl, by omega, Below.refl _ _⟩
        case round =>
          obtain ⟨i, rfl, hi, hb⟩ := hrel
          have kwi : IntKind.i64.wrap ((i : Int) + 1) = (i : Int) + 1 := by rw [IntKind.wrap_i64]; omega
          have HXr := HX.out.below (Base.tr B1.out hb)
          by_cases hlt : i < 6
          · obtain ⟨y, hy⟩ : ∃ y, xs[i]? = some y := ⟨_, List.getElem?_eq_getElem (by rw [HXL.out]; exact hlt)⟩
            obtain ⟨S0, fv⟩ := y
            obtain ⟨hS0, hown⟩ := HSEC.out.sec i _ hy
            simp only [] at hS0 hown
            obtain ⟨A7, n7, c7, rfl⟩ : ∃ A n c, fv = .slice A n c := by
              rcases hown.2 with ⟨h1, _⟩ | ⟨g', c', _, h1, _⟩
              · exact ⟨_, _, _, h1⟩
              · exact ⟨_, _, _, h1⟩
            have hF := Sl.below (founds_of hown) hb
            obtain ⟨b, off, rfl, hbs, hc⟩ := Sl.at (Sl.below HSL.out hb) (by decide)
            have hrow := (hc i (secRow (S0, .slice A7 n7 c7)) (by rw [List.getElem?_map, hy]; rfl)).2
            have c0 := hrow 0 _ rfl
            have c1 := hrow 1 _ rfl
            have c2 := hrow 2 _ rfl
            have c3 := hrow 3 _ rfl
            rw [Nat.add_zero] at c0
            have RFr := RF.out.below hb
            have hdl : N.data.length = 6 := by rw [RFr.dl]; exact HS.out
            obtain ⟨lr, hlr⟩ : ∃ lr, N.data[i]? = some lr := ⟨_, List.getElem?_eq_getElem (by omega)⟩
            obtain ⟨r, hr⟩ : ∃ r, R.rows[i]? = some r := ⟨_, List.getElem?_eq_getElem (by rw [RFr.len, HS.out]; exact hlt)⟩
            obtain ⟨hyr, -, ad, nr, cr, rfl⟩ := RFr.row i r lr hr hlr
            have hall := RFr.all lr (List.mem_of_getElem? hlr)
            obtain ⟨b2, off2, hA2, hbs2, hc2⟩ := Sl.at RFr.data (by rw [HS.out]; decide)
            have d0 := (hc2 i [.slice (some ad) nr cr] (by rw [List.getElem?_map, hr]; rfl)).2 0 _ rfl
            rw [Nat.add_zero, Nat.mul_one] at d0
            have bxr := blk_below BX1.out hb
            rw [hA2, HS.out] at bxr
            have f2 : wr.cell? ⟨gm, 2, none⟩ = some (.slice (some ⟨b2, off2, none⟩) 6 R.dc) := cell_blk bxr 2
            have zg : gm < wr.heap.size := (Array.getElem?_eq_some_iff.1 bxr).1
            have hsecv : secAt N i = scanB 6 512 i lr := by unfold secAt; rw [List.getD_eq_getElem?_getD, hlr, HS.out, ST.out.Z]; rfl
            have hz8 : lr.length ≤ 50000 := by rw [hall.1, ST.out.Z]; decide
            rw [hsecv] at hS0
            have hself := scanB_self 6 512 (k := i) (l := lr) (by omega) (by omega)
            have hflen := scanB_len 6 512 i lr
            rw [← hS0] at hself hflen
            have HR : ∀ W, Below wr.heap.size wr W → Hid (Calls Tryz.prog 16 #[geo 6 512, i64 i, .slice (some ad) nr cr] W (ScanPost W S0)) := fun W hW => Lib.hid (by rw [hS0]; exact rscanOf_any 6 512 i (some ad) nr cr lr W (Sl.below hyr hW) hall.2 (by omega) (by omega))
            have HSE := Lib.hid (And.intro hself (show S0.found.length ≤ 60000 by omega))
            have HF := Lib.hid hF
            have e0 := HXr.g0
            have e1 := HXr.g1
            have ze := HXr.hz
            have HLT := Lib.hid hlt
            clear hself hflen hS0 hsecv hz8 hall hyr hr hlr hdl RFr hc hc2 hrow hy hown hF bxr hA2 HXr hi
            go_wp2_with fail
            have hb0 := Base.al (Below.refl _ wr) (.cells #[i64 S0.cls, i64 S0.stop, .bool S0.full, .slice A7 n7 c7] 52)
            have B0 := blk_new wr (.cells #[i64 S0.cls, i64 S0.stop, .bool S0.full, .slice A7 n7 c7] 52)
            have z0 := (Array.getElem?_eq_some_iff.1 B0).1
            have k0 := cell_blk B0 0
            have k1 := cell_blk B0 1
            have k2 := cell_blk B0 2
            have k3 := cell_blk B0 3
            have g0 := (hb0.cell (p := ⟨0, 0, none⟩) ze).trans e0
            have g1 := (hb0.cell (p := ⟨0, 1, none⟩) ze).trans e1
            have f2' := (hb0.cell (p := ⟨gm, 2, none⟩) zg).trans f2
            have d0' := (hb0.cell (p := ⟨b2, off2 + i, none⟩) hbs2).trans d0
            have zS := hb0.size
            have ze' := Nat.lt_of_lt_of_le ze zS
            have zg' := Nat.lt_of_lt_of_le zg zS
            have zb' := Nat.lt_of_lt_of_le hbs2 zS
            have HB0 := Lib.hid hb0
            clear e0 e1 f2 d0 ze zg hbs2 c0 c1 c2 c3 hbs zS hb0 B0
            generalize wr.alloc _ = x0 at *
            have q0 := fun p : OnOf x0 => on_cell z0 k0 p
            have q1 := fun p : OnOf x0 => on_cell z0 k1 p
            have q2 := fun p : OnOf x0 => on_cell z0 k2 p
            have q3 := fun p : OnOf x0 => on_cell z0 k3 p
            have q4 := fun p : OnOf x0 => on_cell ze' g0 p
            have q5 := fun p : OnOf x0 => on_cell ze' g1 p
            have q6 := fun p : OnOf x0 => on_cell zg' f2' p
            have q7 := fun p : OnOf x0 => on_cell zb' d0' p
            have hiI : (i : Int) < 6 := by have := HLT.out; omega
            refine wp_region_po (fun w' => ∃ p : OnOf x0, w' = p.v) 12 [1, 9, 10] (by kernel_rfl) (by kernel_rfl) ⟨⟨_, Base.dr (Below.refl _ _)⟩, rfl⟩ ?_
            simp only [List.take_succ_cons, List.take_zero, List.drop_succ_cons, List.drop_zero]
            have on0 := @on_rd0; have on1 := @on_rd1; have on2 := @on_rd2; have on3 := @on_new1; have on4 := @on_new2; have on5 := @gr_rd0
            repeat ((with_reducible refine seq_read ?_ ?_); (focus rfl); (intro K hK); (unfold readsAt); go_simp; first | ((with_reducible refine hK _ ?_); clear hK K) | (rw [if_neg (by intro h; cases h)]; (with_reducible refine hK _ ?_); clear hK K))
            refine seq_eff (by rfl) (by first | rfl | go_simp) ?_
            intro K hK
            unfold effAt2
            go_simp
            refine ⟨rfl, (lawOf_any S0 A7 n7 c7 _).mono ?_⟩; rintro e x3 ⟨rfl, hb3⟩
            have hc3 := Base.tr (Base.dr (Below.refl x0.heap.size x0)) hb3
            refine ⟨_, rfl, ⟨⟨_, hc3⟩, rfl⟩, hK _ _ ?_⟩
            clear hK K
            repeat ((with_reducible refine seq_read ?_ ?_); (focus rfl); (intro K hK); (unfold readsAt); go_simp; first | ((with_reducible refine hK _ ?_); clear hK K) | (rw [if_neg (by intro h; cases h)]; (with_reducible refine hK _ ?_); clear hK K))
            refine seq_eff (by rfl) (by first | rfl | go_simp) ?_
            intro K hK
            unfold effAt2
            go_simp
            refine ⟨rfl, (HR _ (Base.tr HB0.out hc3)).out.mono ?_⟩; rintro e x4 ⟨v4, rfl, hown4, hb4⟩
            obtain ⟨A4, m4, rfl⟩ := own_valn hown4
            have hF4 := founds_of hown4
            have hc4 := Base.tr hc3 hb4
            refine ⟨_, rfl, ⟨⟨_, hc4⟩, rfl⟩, hK _ _ ?_⟩
            clear hK K
            repeat ((with_reducible refine seq_read ?_ ?_); (focus rfl); (intro K hK); (unfold readsAt); go_simp; first | ((with_reducible refine hK _ ?_); clear hK K) | (rw [if_neg (by intro h; cases h)]; (with_reducible refine hK _ ?_); clear hK K))
            refine seq_eff (by rfl) (by first | rfl | go_simp) ?_
            intro K hK
            unfold effAt2
            go_simp
            refine ⟨rfl, (sameSector_any S0 A7 A4 _ _ c7 m4 _ (Sl.below HF.out (Base.tr HB0.out hc4)) hF4 HSE.out.1 HSE.out.2).mono ?_⟩; rintro e x5 ⟨rfl, hb5⟩
            have hc5 := Base.tr hc4 hb5
            refine ⟨_, rfl, ⟨⟨_, hc5⟩, rfl⟩, hK _ _ ?_⟩
            clear hK K
            repeat ((with_reducible refine seq_read ?_ ?_); (focus rfl); (intro K hK); (unfold readsAt); go_simp; first | ((with_reducible refine hK _ ?_); clear hK K) | (rw [if_neg (by intro h; cases h)]; (with_reducible refine hK _ ?_); clear hK K))
            clear on0 on1 on2 on3 on4 on5
            with_reducible refine seq_nil ?_
            have hfin := Base.tr hb (Base.tr HB0.out hc5)
            clear q0 q1 q2 q3 q4 q5 q6 q7 k0 k1 k2 k3 g0 g1 f2' d0' hF4 hown4
            go_wp2_with fail
            have := HLT.out
            exact ⟨⟨i + 1, by go_num, by omega, hfin⟩, by simp [intOf]; omega⟩
          · have hie : i = 6 := by omega
            subst hie
            have N0 := fun W => Lib.hid (scanAll_nil W)
            go_wp2_with fail
            refine (N0 _).out.mono ?_; rintro e x2 ⟨rfl, hb2⟩
            have B2 := Base.tr (Base.tr B1.out hb) hb2
            go_wp2_with fail
            refine (HFX _ B2).out.mono ?_; rintro e x3 ⟨rfl, hb3⟩
            go_wp2_with fail
            go_ret
            exact ⟨rfl, Base.tr B2 hb3⟩
end Go.Proofs.YtokpoogcoeodkaaGreatDoor
