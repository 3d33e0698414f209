/- The walk of NorPlays. -/
import Derived.Test.YteieaelinkdahaaNorGI
namespace Go.Proofs.Yteieaelinkdahaa
open Go.RowKit Flo

theorem PlaySt.on {w : World} {s z D0 gm : Nat} {W W' : World} {j : Nat} {N : Nor} {R : RV} {O : Nat → Prop} (h : PlaySt w s z D0 gm W j N R O) (hb : Below W.heap.size W W') : PlaySt w s z D0 gm W' j N R O :=
  { h with dev := h.dev.below hb, ref := h.ref.below hb, box := blk_below h.box hb, below := Base.tr h.below hb }
theorem bd_fresh {N : Nor} {s z : Nat} (hf : Fresh N s z) : Bd N 0 := ⟨by rw [hf.acts]; exact Nat.le_refl _, by rw [hf.offs]; exact Nat.le_refl _, fun n hn => by rw [hf.wear] at hn; rw [(List.mem_replicate.1 hn).2]; exact Nat.le_refl _, fun c hc => by rw [hf.cut] at hc; cases hc⟩

set_option maxHeartbeats 4000000 in
set_option maxRecDepth 100000 in
theorem norPlays_no (s z : Int) (A : Option Addr) (n cap : Nat) (w : World) (hg : smallB s z = false) : Makes 7 #[geo s z, .slice A n cap] w (.bool true) := by
  have G0 := fun W => Lib.hid (fixed4_any W)
  have G1 := fun W => Lib.hid (rMay_any s z W)
  have G2 := fun W => Lib.hid (small_any s z W)
  rw [hg] at G2
  have B0 := blk_new w (.cells #[i64 s, i64 z] 41)
  have b0 : Below w.heap.size w (w.alloc (.cells #[i64 s, i64 z] 41)) := Base.al (Below.refl _ _) _
  have e0 := cell_blk B0 0
  have e1 := cell_blk B0 1
  have z0 := (Array.getElem?_eq_some_iff.1 B0).1
  cases hm : geoB s z
  · have G3 := fun W => Lib.hid (new_no s z W hm)
    rw [hm] at G1
    clear hm hg
    go_enter Try.func7, Try.ntmps7
    go_wp2_with fail
    refine (G1 _).out.mono ?_; rintro e x1 ⟨rfl, hb1⟩
    have B1 := blk_below B0 hb1
    have b1 := Base.tr b0 hb1
    clear e0 e1 z0
    have e0 : x1.cell? ⟨w.heap.size, 0, none⟩ = some (i64 s) := cell_blk B1 0
    have e1 : x1.cell? ⟨w.heap.size, 1, none⟩ = some (i64 z) := cell_blk B1 1
    have z0 : w.heap.size < x1.heap.size := (Array.getElem?_eq_some_iff.1 B1).1
    go_wp2_with fail
    refine (G3 _).out.mono ?_; rintro e x2 ⟨rfl, hb2⟩
    have B2 := blk_below B1 hb2
    have b2 := Base.tr b1 hb2
    clear e0 e1 z0
    have e0 : x2.cell? ⟨w.heap.size, 0, none⟩ = some (i64 s) := cell_blk B2 0
    have e1 : x2.cell? ⟨w.heap.size, 1, none⟩ = some (i64 z) := cell_blk B2 1
    have z0 : w.heap.size < x2.heap.size := (Array.getElem?_eq_some_iff.1 B2).1
    go_wp2_with fail
    refine (G1 _).out.mono ?_; rintro e x3 ⟨rfl, hb3⟩
    have B3 := blk_below B2 hb3
    have b3 := Base.tr b2 hb3
    clear e0 e1 z0
    have e0 : x3.cell? ⟨w.heap.size, 0, none⟩ = some (i64 s) := cell_blk B3 0
    have e1 : x3.cell? ⟨w.heap.size, 1, none⟩ = some (i64 z) := cell_blk B3 1
    have z0 : w.heap.size < x3.heap.size := (Array.getElem?_eq_some_iff.1 B3).1
    go_wp2_with fail
    refine (G0 _).out.mono ?_; rintro e x4 ⟨rfl, hb4⟩
    have B4 := blk_below B3 hb4
    have b4 := Base.tr b3 hb4
    clear e0 e1 z0
    have e0 : x4.cell? ⟨w.heap.size, 0, none⟩ = some (i64 s) := cell_blk B4 0
    have e1 : x4.cell? ⟨w.heap.size, 1, none⟩ = some (i64 z) := cell_blk B4 1
    have z0 : w.heap.size < x4.heap.size := (Array.getElem?_eq_some_iff.1 B4).1
    go_wp2_with fail
    go_ret
    exact ⟨rfl, b4⟩
  · rw [hm] at G1
    clear hm hg
    go_enter Try.func7, Try.ntmps7
    go_wp2_with fail
    refine (G1 _).out.mono ?_; rintro e x1 ⟨rfl, hb1⟩
    have B1 := blk_below B0 hb1
    have b1 := Base.tr b0 hb1
    clear e0 e1 z0
    have e0 : x1.cell? ⟨w.heap.size, 0, none⟩ = some (i64 s) := cell_blk B1 0
    have e1 : x1.cell? ⟨w.heap.size, 1, none⟩ = some (i64 z) := cell_blk B1 1
    have z0 : w.heap.size < x1.heap.size := (Array.getElem?_eq_some_iff.1 B1).1
    go_wp2_with fail
    refine (G2 _).out.mono ?_; rintro e x2 ⟨rfl, hb2⟩
    have B2 := blk_below B1 hb2
    have b2 := Base.tr b1 hb2
    clear e0 e1 z0
    have e0 : x2.cell? ⟨w.heap.size, 0, none⟩ = some (i64 s) := cell_blk B2 0
    have e1 : x2.cell? ⟨w.heap.size, 1, none⟩ = some (i64 z) := cell_blk B2 1
    have z0 : w.heap.size < x2.heap.size := (Array.getElem?_eq_some_iff.1 B2).1
    go_wp2_with fail
    refine (G0 _).out.mono ?_; rintro e x3 ⟨rfl, hb3⟩
    have B3 := blk_below B2 hb3
    have b3 := Base.tr b2 hb3
    clear e0 e1 z0
    have e0 : x3.cell? ⟨w.heap.size, 0, none⟩ = some (i64 s) := cell_blk B3 0
    have e1 : x3.cell? ⟨w.heap.size, 1, none⟩ = some (i64 z) := cell_blk B3 1
    have z0 : w.heap.size < x3.heap.size := (Array.getElem?_eq_some_iff.1 B3).1
    go_wp2_with fail
    go_ret
    exact ⟨rfl, b3⟩

set_option maxHeartbeats 4000000 in
set_option maxRecDepth 100000 in
theorem norPlays_yes (s z : Nat) (A : Option Addr) (n cap : Nat) (l : List (OpV × List Nat)) (w : World) (hsm : smallB s z = true) (h : Ops w (.slice A n cap) (l.map Prod.fst)) (hop : ∀ x ∈ l, OpIn w x.1 x.2) : Makes 7 #[geo s z, .slice A n cap] w (.bool true) := by
  have hg : geoB s z = true := by unfold smallB at hsm; rw [Bool.and_eq_true] at hsm; exact hsm.1
  have G0 := fun W => Lib.hid (fixed4_any W)
  have G1 := fun W => Lib.hid (rMay_any s z W)
  have G2 := fun W => Lib.hid (small_any s z W)
  have G3 : ∀ W, Hid (Calls Try.prog 34 #[geo s z] W fun e w' => ∃ (N : Nor) (O : Nat → Prop), e = .returned (.tuple #[.pointer (some ⟨N.D, 0, none⟩), i64 0]) ∧ DevR O w' N ∧ (∀ k, O k → W.heap.size ≤ k) ∧ Fresh N s z ∧ Below W.heap.size W w') := fun W => Lib.hid (new_any s z W hg)
  have G4 := fun W => Lib.hid (rnew_any s z W hg)
  rw [hsm] at G2
  rw [hg] at G1
  have HG := Lib.hid hg
  obtain ⟨q1, q2, q3, q4⟩ := geoB_yes hg
  have B0 := blk_new w (.cells #[i64 s, i64 z] 41)
  have b0 : Below w.heap.size w (w.alloc (.cells #[i64 s, i64 z] 41)) := Base.al (Below.refl _ _) _
  have e0 := cell_blk B0 0
  have e1 := cell_blk B0 1
  have z0 := (Array.getElem?_eq_some_iff.1 B0).1
  clear hg hsm
  go_enter Try.func7, Try.ntmps7
  go_wp2_with fail
  refine (G1 _).out.mono ?_; rintro e x1 ⟨rfl, hb1⟩
  have B1 := blk_below B0 hb1
  have b1 := Base.tr b0 hb1
  clear e0 e1 z0
  have e0 : x1.cell? ⟨w.heap.size, 0, none⟩ = some (i64 s) := cell_blk B1 0
  have e1 : x1.cell? ⟨w.heap.size, 1, none⟩ = some (i64 z) := cell_blk B1 1
  have z0 : w.heap.size < x1.heap.size := (Array.getElem?_eq_some_iff.1 B1).1
  go_wp2_with fail
  refine (G2 _).out.mono ?_; rintro e x2 ⟨rfl, hb2⟩
  have B2 := blk_below B1 hb2
  have b2 := Base.tr b1 hb2
  clear e0 e1 z0
  have e0 : x2.cell? ⟨w.heap.size, 0, none⟩ = some (i64 s) := cell_blk B2 0
  have e1 : x2.cell? ⟨w.heap.size, 1, none⟩ = some (i64 z) := cell_blk B2 1
  have z0 : w.heap.size < x2.heap.size := (Array.getElem?_eq_some_iff.1 B2).1
  go_wp2_with fail
  refine (G3 _).out.mono ?_; rintro e x3 ⟨N, O, rfl, hd3, hO3, hf, hb3⟩
  have B3 := blk_below B2 hb3
  have b3 := Base.tr b2 hb3
  clear e0 e1 z0
  have e0 : x3.cell? ⟨w.heap.size, 0, none⟩ = some (i64 s) := cell_blk B3 0
  have e1 : x3.cell? ⟨w.heap.size, 1, none⟩ = some (i64 z) := cell_blk B3 1
  have z0 : w.heap.size < x3.heap.size := (Array.getElem?_eq_some_iff.1 B3).1
  go_wp2_with fail
  refine (G1 _).out.mono ?_; rintro e x4 ⟨rfl, hb4⟩
  have B4 := blk_below B3 hb4
  have b4 := Base.tr b3 hb4
  clear e0 e1 z0
  have e0 : x4.cell? ⟨w.heap.size, 0, none⟩ = some (i64 s) := cell_blk B4 0
  have e1 : x4.cell? ⟨w.heap.size, 1, none⟩ = some (i64 z) := cell_blk B4 1
  have z0 : w.heap.size < x4.heap.size := (Array.getElem?_eq_some_iff.1 B4).1
  go_wp2_with fail
  refine (G0 _).out.mono ?_; rintro e x5 ⟨rfl, hb5⟩
  have B5 := blk_below B4 hb5
  have b5 := Base.tr b4 hb5
  clear e0 e1 z0
  have e0 : x5.cell? ⟨w.heap.size, 0, none⟩ = some (i64 s) := cell_blk B5 0
  have e1 : x5.cell? ⟨w.heap.size, 1, none⟩ = some (i64 z) := cell_blk B5 1
  have z0 : w.heap.size < x5.heap.size := (Array.getElem?_eq_some_iff.1 B5).1
  go_wp2_with fail
  have hd5 := (hd3.below hb4).below hb5
  have HF := Lib.hid hf
  have hge : ∀ k, O k → w.heap.size ≤ k := fun k hk => Nat.le_trans b2.size (hO3 k hk)
  refine (G4 _).out.mono ?_; rintro e x6 ⟨vd, vw, vb, rows, Zc, rfl, hn6⟩
  obtain ⟨R, hRv, hr6, hRm, hRl⟩ := hn6.ref HG.out hd5.lim hf
  injection hRv with hRv
  have HRV := Lib.hid hRv
  obtain ⟨A1, k1, rfl⟩ := own_val hn6.o1
  obtain ⟨A2, k2, rfl⟩ := own_val hn6.o2
  obtain ⟨A3, k3, rfl⟩ := own_val hn6.o3
  have b6 := Base.tr b5 hn6.below
  have hd6 := hd5.below hn6.below
  have st0 : Hid (PlaySt w s z N.D x6.heap.size (x6.alloc (.cells #[i64 s, i64 z, .slice A1 s k1, .slice A2 s k2, .slice A3 s k3, .bool false, i64 0, i64 0, .bool false, i64 0, i64 0, .int .u8 0] 71)) 0 N R O) := by
    refine Lib.hid ⟨hd6.al _, (hr6.wider (by rintro k (hk | rfl); exact .inl hk; exact .inr (Nat.le_refl _))).below (Base.al (Below.refl _ _) _), ?_, fun hq => Nat.lt_irrefl _ (hd6.lim _ hq), hge, b6.size, bd_fresh hf, hf.S, hf.Z, rfl, by rw [hRm]; decide, by rw [hRl]; decide, Base.al b6 _⟩
    rw [← hRv]
    exact blk_new _ _
  clear hRv hr6 hn6 hd6 hd5 hd3 hRm hRl b6 b5 b4 b3 b2 b1 b0 B5 B4 B3 B2 B1 B0 hb5 hb4 hb3 hb2 hb1 e0 e1 z0 hf hO3 hge
  go_wp2_with fail
  generalize x6.alloc _ = x7 at *
  generalize x6.heap.size = gm at *
  generalize N.D = D0 at *
  have G5 := Lib.hid (cut_law A n cap (l.map Prod.fst) x7 (Sl.below h st0.out.below) (by
    intro o ho
    obtain ⟨x, hx, rfl⟩ := List.mem_map.1 ho
    have h1 := (hop x hx).bytes.max
    have h2 := (hop x hx).len
    rw [List.length_map] at h1
    unfold maxLen at h1
    omega))
  refine G5.out.mono ?_; rintro e x8 ⟨rfl, hb8⟩
  have st8 := Lib.hid (st0.out.on hb8)
  have hsm := fun j hj => Lib.hid (cutGo_small ((l.map Prod.fst).map OpV.bn) 0 0 j hj)
  have h60 := cutGo_60 ((l.map Prod.fst).map OpV.bn) 0 0 (Nat.zero_le _)
  have hle := cutGo_le ((l.map Prod.fst).map OpV.bn) 0 0
  rw [List.length_map, List.length_map, Nat.zero_add] at hle
  obtain ⟨cn, hcn⟩ : ∃ cn, cutGo 0 0 ((l.map Prod.fst).map OpV.bn) = cn := ⟨_, rfl⟩
  rw [hcn] at hsm h60 hle ⊢
  clear hcn G5 hb8 st0 G0 G1 G2 G3 G4
  go_wp2_with fail
  go_loopw [51] (fun i wr => ∃ (j : Nat) (N : Nor) (R : RV) (O : Nat → Prop), j ≤ cn ∧ i = .int .i64 j ∧ Hid (PlaySt w s z D0 gm wr j N R O)) (fun i _ => cn - (intOf i).toNat)
  case atStart => exact ⟨0, _, _, _, Nat.zero_le _, rfl, st8⟩
  case round =>
    clear st8
    obtain ⟨j, N, R, O, hj, rfl, st⟩ := hrel
    have hbx := st.out.box
    unfold RV.cells at hbx
    have zg := st.out.lt
    have fd := cell_blk hbx
    have f0 : wr.cell? ⟨gm, 0, none⟩ = some (i64 N.S) := fd 0
    have f1 : wr.cell? ⟨gm, 1, none⟩ = some (i64 N.Z) := fd 1
    have f2 : wr.cell? ⟨gm, 2, none⟩ = some (.slice R.dA N.S R.dc) := fd 2
    have f3 : wr.cell? ⟨gm, 3, none⟩ = some (.slice R.wA N.S R.wc) := fd 3
    have f4 : wr.cell? ⟨gm, 4, none⟩ = some (.slice R.bA N.S R.bc) := fd 4
    have f5 : wr.cell? ⟨gm, 5, none⟩ = some (.bool N.off) := fd 5
    have f6 : wr.cell? ⟨gm, 6, none⟩ = some (i64 N.offs) := fd 6
    have f7 : wr.cell? ⟨gm, 7, none⟩ = some (i64 N.acts) := fd 7
    have f8 : wr.cell? ⟨gm, 8, none⟩ = some (.bool N.cut.isSome) := fd 8
    have f9 : wr.cell? ⟨gm, 9, none⟩ = some (i64 R.left) := fd 9
    have f10 : wr.cell? ⟨gm, 10, none⟩ = some (i64 R.whole) := fd 10
    have f11 : wr.cell? ⟨gm, 11, none⟩ = some (.int .u8 R.mask) := fd 11
    clear fd
    by_cases hlt : j < cn
    · have hjl : j < l.length := by omega
      obtain ⟨x, hx⟩ : ∃ x, l[j]? = some x := ⟨_, List.getElem?_eq_getElem hjl⟩
      obtain ⟨o, lb⟩ := x
      have hoi := hop _ (List.mem_of_getElem? hx)
      simp only [] at hoi
      obtain ⟨x0, hx0, hx6⟩ := (hsm j (by omega)).out
      rw [List.getElem?_map, List.getElem?_map, hx] at hx0
      have hx0' : o.bn = x0 := by injection hx0
      have hln := hoi.len
      obtain ⟨b, off, rfl, hbs, hc⟩ := Ops.at (Sl.below h st.out.below) (by rw [List.length_map]; omega)
      have hlo : (l.map Prod.fst)[j]? = some o := by rw [List.getElem?_map, hx]; rfl
      have c0 := hc j o hlo 0 _ rfl
      have c1 := hc j o hlo 1 _ rfl
      have c2 := hc j o hlo 2 _ rfl
      have c3 := hc j o hlo 3 _ rfl
      have c4 := hc j o hlo 4 _ rfl
      have c5 := hc j o hlo 5 _ rfl
      have c6 := hc j o hlo 6 _ rfl
      rw [Nat.add_zero] at c0
      have HD := do_next st.out (by omega) hoi (by omega)
      unfold RV.cells at HD
      have HD := Lib.hid HD
      clear hbx hc hx hlo hsm hx0 hx0' hln hoi st
      go_wp2_with fail
      with_reducible refine HD.out.mono ?_
      rintro e x9 ⟨R', N', O', rfl, hbx9, hst9⟩
      have HST := Lib.hid hst9
      have zy := fun i => frozen_blk hbx9 i
      have zg9 : gm < x9.heap.size := (Array.getElem?_eq_some_iff.1 hbx9).1
      clear hst9 HD f0 f1 f2 f3 f4 f5 f6 f7 f8 f9 f10 f11 c0 c1 c2 c3 c4 c5 c6 zg
      have fd := cell_blk hbx9
      have y0 : x9.cell? ⟨gm, 0, none⟩ = some (i64 N.S) := fd 0
      have y1 : x9.cell? ⟨gm, 1, none⟩ = some (i64 N.Z) := fd 1
      have y2 : x9.cell? ⟨gm, 2, none⟩ = some (.slice R.dA N.S R.dc) := fd 2
      have y3 : x9.cell? ⟨gm, 3, none⟩ = some (.slice R.wA N.S R.wc) := fd 3
      have y4 : x9.cell? ⟨gm, 4, none⟩ = some (.slice R.bA N.S R.bc) := fd 4
      have y5 : x9.cell? ⟨gm, 5, none⟩ = some (.bool N.off) := fd 5
      have y6 : x9.cell? ⟨gm, 6, none⟩ = some (i64 N.offs) := fd 6
      have y7 : x9.cell? ⟨gm, 7, none⟩ = some (i64 N.acts) := fd 7
      have y8 : x9.cell? ⟨gm, 8, none⟩ = some (.bool N.cut.isSome) := fd 8
      have y9 : x9.cell? ⟨gm, 9, none⟩ = some (i64 R.left) := fd 9
      have y10 : x9.cell? ⟨gm, 10, none⟩ = some (i64 R.whole) := fd 10
      have y11 : x9.cell? ⟨gm, 11, none⟩ = some (.int .u8 R.mask) := fd 11
      clear fd
      clear hbx9
      go_wp2_with fail
      exact ⟨⟨j + 1, N', R', O', by omega, by go_num, HST⟩, by simp [intOf]; omega⟩
    · obtain rfl : j = cn := by omega
      have hD := st.out.D
      have HS := same_any st.out.dev (st.out.ref.sub (Q := O) (fun k hk => .inl hk))
      rw [show ptrD N = .pointer (some ⟨D0, 0, none⟩) by rw [← hD]] at HS
      simp only [RV.val, RV.cells] at HS
      have HS := Lib.hid HS
      clear hbx hD
      go_wp2_with fail
      with_reducible refine HS.out.mono ?_
      rintro e x9 ⟨rfl, ho9⟩
      go_wp2_with fail
      go_ret
      exact ⟨rfl, st.out.below.trans (ho9.base st.out.ge st.out.below.size)⟩
theorem norPlays_makes (s z : Int) (A : Option Addr) (n cap : Nat) (l : List (OpV × List Nat)) (w : World) (h : Ops w (.slice A n cap) (l.map Prod.fst)) (hop : ∀ x ∈ l, OpIn w x.1 x.2) : Makes 7 #[geo s z, .slice A n cap] w (.bool true) := by
  cases hs : smallB s z
  · exact norPlays_no s z A n cap w hs
  · have hg : geoB s z = true := by unfold smallB at hs; rw [Bool.and_eq_true] at hs; exact hs.1
    obtain ⟨q1, q2, q3, q4⟩ := geoB_yes hg
    obtain ⟨s', rfl⟩ : ∃ s' : Nat, s = s' := ⟨s.toNat, by omega⟩
    obtain ⟨z', rfl⟩ : ∃ z' : Nat, z = z' := ⟨z.toNat, by omega⟩
    exact norPlays_yes s' z' A n cap l w hs h hop
end Go.Proofs.Yteieaelinkdahaa
