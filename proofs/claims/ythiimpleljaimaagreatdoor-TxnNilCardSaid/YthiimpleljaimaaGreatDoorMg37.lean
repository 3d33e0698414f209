/- The first commit's Put. -/
import Derived.Test.YthiimpleljaimaaGreatDoorMg36
namespace Go.Proofs.YthiimpleljaimaaGreatDoor
open Go Go.RowKit Flo

/-- A store of the example: nothing put yet. -/
structure XSt (T : StV) : Prop where
  dev : XDev T.N
  acts : T.N.acts ≤ 2
  sh : XSh T.H ilA 0 (-1)
  nts : T.nts = []
  nm : T.nm = []
  t : T.t = .nil
  seq : T.seq = 1
  offs : T.offs = 0
theorem wstep_of {P R : WSt} {b : List Nat} {seq : Int} (w : writeP P.N P.H P.a b seq = ((P.qa, P.qb), 0, R.H, R.N)) (ok : ShOk P.H P.a) (hd : XDev P.N) (ha : P.N.acts ≤ 8) (pa : part? P.qa = some P.sec) (pb : part? P.qb = some P.off) : WStep P R b seq :=
  { w := w, ok := ok, acts := by omega, offs := by rw [hd.offs]; decide, cut := (fun c hc => by rw [hd.cut] at hc; cases hc), bd := fun H' N' ho => by
      obtain ⟨a1, a2, a3⟩ := opens_acts ho hd.cut
      have := hd.offs
      exact ⟨by omega, by omega, fun c hc => by rw [a3] at hc; cases hc⟩
    pa := pa
    pb := pb }
theorem mayC : ∀ k, k < lC.length → mayB (mayIt (lC.getD k default)) = true
  | 0, _ => by
    rw [mayB_rest]
    show (placeOk 0 0 && _) = true
    rw [place_okX part0 part0 (by decide) (by decide), Bool.true_and, restB_iff]
    exact ⟨⟨(by decide : (1 : Int) ≤ 1), (by decide : (1 : Int) ≤ 255), (by decide : (0 : Int) ≤ 0), (by decide : (0 : Int) < 1)⟩, kEa_ne, by show (kEa.size : Int) ≤ 48; rw [kEa_size]; decide, by show (vEa.size : Int) ≤ 64; rw [vEa_size]; decide, .inl rfl⟩
  | 1, _ => by
    rw [mayB_rest]
    show (placeOk 0 0 && _) = true
    rw [place_okX part0 part0 (by decide) (by decide), Bool.true_and, restB_iff]
    exact ⟨⟨(by decide : (1 : Int) ≤ 1), (by decide : (1 : Int) ≤ 255), (by decide : (0 : Int) ≤ 0), (by decide : (0 : Int) < 1)⟩, kI2_ne, by show (kI2.size : Int) ≤ 48; rw [kI2_size]; decide, by show (vI2.size : Int) ≤ 64; rw [vI2_size]; decide, .inl rfl⟩
theorem shOk_X {H : ShV} {il : List Info} {e0 : Nat} {op : Int} (h : XSh H il e0 op) {a : Option Nat} (ho : op = atV a) (ha : ∀ k, a = some k → k < 16) (he : e0 ≤ 1024) : ShOk H a :=
  ⟨h.op.trans ho, fun k hk => by rw [h.S]; exact ha k hk, fun n hn => by
    rw [h.el] at hn
    rw [h.Z]
    rcases List.mem_cons.1 hn with rfl | hn
    · exact he
    · rw [(List.mem_replicate.1 hn).2]; omega⟩
theorem keyEI : kEa ≠ kI2 := fun e => by
  have := congrArg ByteArray.size e
  rw [kEa_size, kI2_size] at this
  cases this
theorem put_C {O : Nat → Prop} {B : Nat} {w : World} {T : StV} (h : StR O B w T) (hx : XSt T) (g c : Nat) (hg : T.TB < g) (hp : Pairs w (.slice (some ⟨g, 0, none⟩) lC.length c) lC) :
    Calls Tryz.prog 67 #[T.ptr, .slice (some ⟨g, 0, none⟩) lC.length c] w (PutPost O B T w) := by
  obtain ⟨H1, N1, hw1, hd1, ha1, hs1, hk1⟩ := x_first hx.dev (by have := hx.acts; omega) hx.sh (frameB (recC 0)) frame_0
  obtain ⟨H2, N2, hw2, hd2, ha2, hk2⟩ := x_second hd1 (by have := hx.acts; omega) hs1 (frameB (recC 1)) frame_1
  have hk12 := hk1.trans hk2
  obtain ⟨TB, MB, N, H, nv, nts, nm, trv, t, seq, offs⟩ := T
  obtain ⟨dev, acts, sh, e1, e2, e3, e4, e5⟩ := hx
  simp only at e1 e2 e3 e4 e5 dev acts sh hg hw1 hw2 hk1 hk12 ha1
  subst e1; subst e2; subst e3; subst e4; subst e5
  let st : Nat → WSt := fun k => match k with | 0 => ⟨N, H, none, near 0, near 8, 0, 8⟩ | 1 => ⟨N1, H1, some 0, near 0, near 50, 0, 50⟩ | _ => ⟨N2, H2, none, 0, 0, 0, 0⟩
  have hW : WNew ⟨TB, MB, N, H, nv, [], [], trv, .nil, 1, 0⟩ lC (List.replicate lC.length ((1 : Nat) : Int)) ((([(0, 8), (0, 50)], 1) : List (Nat × Nat) × Nat).1.map fun p => (near p.1, near p.2)) recC st := by
    refine { ok := ⟨by decide, rfl, rfl, ?_⟩, recs := ?_, st0N := rfl, st0H := rfl, step := ?_, keep := ?_, gone := ?_, new := fun _ _ => rfl, apart := ?_, few := by decide, seq := by show 1 < 1000000; decide, nts := Nat.zero_le _, size := Nat.zero_le _ }
    · intro k hk
      match k, hk with
      | 0, _ => exact may_0
      | 1, _ => exact may_1
    · intro k hk
      match k, hk with
      | 0, _ => exact ⟨1, 1, 0, 2, 0, 50, plain_0, rfl⟩
      | 1, _ => exact ⟨1, 1, 1, 2, 0, 8, plain_1, rfl⟩
    · intro k hk
      match k, hk with
      | 0, _ => exact wstep_of (P := st 0) (R := st 1) hw1 (shOk_X sh rfl (fun k hk => by cases hk) (by decide)) dev (by show N.acts ≤ 8; omega) nr0 nr8
      | 1, _ => exact wstep_of (P := st 1) (R := st 2) hw2 (shOk_X hs1 rfl (fun k hk => by injection hk with hk; omega) (by decide)) hd1 (by show N1.acts ≤ 8; omega) nr0 nr50
    · intro k hk
      match k, hk with
      | 0, _ => exact ⟨rfl, rfl, rfl, rfl, rfl, rfl⟩
      | 1, _ => exact ⟨hk1.D, hk1.S, hk1.Z, hk1.SB, hk1.LB, hk1.EB⟩
      | 2, _ => exact ⟨hk12.D, hk12.S, hk12.Z, hk12.SB, hk12.LB, hk12.EB⟩
    · intro k hk
      match k, hk with
      | 0, _ => rfl
      | 1, _ => rfl
    · intro i k hik hk
      have hk2 : k < 2 := hk
      obtain ⟨rfl, rfl⟩ : i = 0 ∧ k = 1 := by omega
      exact keyEI
  have hseen : seenL H N H.S = ilA := seenX_0 dev sh
  refine (put_new h dev.off (by show (0 : Nat) = N.offs; rw [dev.offs]) (some ⟨g, 0, none⟩) c lC hp (far_lt (n := TB + 1) (Nat.lt_succ_self _) hg) mayC none (shOk_X sh rfl (fun k hk => by cases hk) (by decide)) 0 (fun k hk => by cases hk) (fun _ => rfl) (Nat.zero_le _) ([(0, 8), (0, 50)], 1) ?_ ?_ recC st hW).mono ?_
  · show planGo H.Z (sizesL lC) (seenL H N H.S) none 0 0 [] = _
    rw [hseen, sh.Z, sizes_C]
    exact planX_0
  · show 1 + 2 ≤ (idx canBlank 0 (seenL H N H.S)).length
    rw [hseen, blankX_0]
    decide
  · rintro e w' ⟨rfl, bf, nv', trv', hst, _, ho⟩
    exact ⟨rfl, _, hst, rfl, ho, hd2.off, (by show (0 : Nat) = N2.offs; rw [hd2.offs]), fun k hk => (⟨hk12.D, hk12.S, hk12.Z, hk12.SB, hk12.LB, hk12.EB⟩ : WKeep N N2 H H2).own hk⟩
end Go.Proofs.YthiimpleljaimaaGreatDoor

/- flintlaw22: begin, fixed. -/
namespace Go.Proofs.YthiimpleljaimaaGreatDoor
open Go Go.RowKit Flo
attribute [local go_sem] run_store_complex

set_option maxHeartbeats 8000000 in
set_option maxRecDepth 100000 in
theorem begin22 (w : World) : Calls Tryz.prog 8 #[geo 16 1024] w fun e w' => ∃ (O : Nat → Prop) (B : Nat) (M : MgV), e = .returned (.tuple #[M.ptr, ptrD M.T.N]) ∧ MgR O w.heap.size B w' M ∧ M.cl = (fun _ => none) ∧ M.fresh = 2 ∧ M.g = 0 ∧ M.A = none ∧ M.n = 0 ∧ M.c = 0 ∧ XSt M.T ∧ Below w.heap.size w w' := by
  have hge : geoB 16 1024 = true := by kernel_rfl
  have GN := fun W => Lib.hid (new_any 16 1024 W hge)
  have GO := fun (O : Nat → Prop) W N (hd : DevR O W N) (hf : Fresh N 16 1024) (hB : w.heap.size ≤ W.heap.size) (hO : ∀ k, O k → w.heap.size ≤ k) => Lib.hid (txOpen_any hd hf.off (freshX_found hf) w.heap.size hB hO)
  clear hge
  go_enter Tryz.func8, Tryz.ntmps8
  go_wp2_with fail
  refine (GN _).out.mono ?_; rintro e w1 ⟨N, O, rfl, hd, hO, hfr, hb1⟩
  have hb0 := Base.al (Below.refl _ w) (.cells #[i64 16, i64 1024] 38)
  have hz0 := hb0.size
  have hb2 := Base.tr hb0 hb1
  have GO1 := GO O w1 N hd hfr hb2.size (fun k hk => Nat.le_trans hz0 (hO k hk))
  have HFR := Lib.hid hfr
  have HB2 := Lib.hid hb2
  clear GO hd hO hfr hb1 hb0 hz0 hb2 GN
  go_wp2_with fail
  refine GO1.out.mono ?_; rintro e w2 ⟨B, M, rfl, hM, m1, m2, m3, m4, m5, m6, hTN, hn1, hn2, hn3, hn4, hn5, hn6, hn7, hn8, hn9, hn10, hb3⟩
  have hx : XSt M.T := ⟨by rw [hTN]; exact HFR.out.xd, by rw [hTN, HFR.out.acts]; omega, ⟨hn6.trans HFR.out.S, hn7.trans HFR.out.Z, hn8.trans (freshX_infos HFR.out), hn9.trans (freshX_ends HFR.out), hn10⟩, hn1, hn2, hn3, hn4, hn5.trans HFR.out.offs⟩
  have HX := Lib.hid hx
  have HR := Lib.hid (And.intro hM (And.intro m1 (And.intro m2 (And.intro m3 (And.intro m4 (And.intro m5 m6))))))
  have HTN := Lib.hid hTN
  have HB3 := Lib.hid (Base.tr HB2.out hb3)
  clear hM m1 m2 m3 m4 m5 m6 hTN hn1 hn2 hn3 hn4 hn5 hn6 hn7 hn8 hn9 hn10 hb3 hx GO1
  go_wp2_with fail
  go_ret2
  obtain ⟨hM, m1, m2, m3, m4, m5, m6⟩ := HR.out
  exact ⟨O, B, M, by rw [HTN.out]; rfl, hM, m1, m2, m3, m4, m5, m6, HX.out, HB3.out⟩
/-! ### The steps of the example -/
def clA (D : DlV) (k : Nat) : Option DlV := if k = 0 then some D else none
def clB (D : DlV) (k : Nat) : Option DlV := if k = 1 then some D else none
def cl2 (D E : DlV) (k : Nat) : Option DlV := if k = 0 then some D else if k = 1 then some E else none
theorem upd_A (D : DlV) : updC (fun _ => none) 0 (some D) = clA D := by funext k; unfold updC clA; split <;> rfl
theorem upd_2 (D E : DlV) : updC (clA D) 1 (some E) = cl2 D E := by
  funext k
  unfold updC clA cl2
  split
  · rename_i h; subst h; rfl
  · rfl
theorem upd_20 (D E D' : DlV) : updC (cl2 D E) 0 (some D') = cl2 D' E := by
  funext k
  unfold updC cl2
  split
  · rename_i h; subst h; rfl
  · rfl
theorem upd_21 (D E E' : DlV) : updC (cl2 D E) 1 (some E') = cl2 D E' := by
  funext k
  unfold updC cl2
  split
  · rename_i h; subst h; rfl
  · rfl
theorem upd_B (D E : DlV) : updC (cl2 D E) 0 none = clB E := by
  funext k
  unfold updC cl2 clB
  split
  · rename_i h; subst h; rfl
  · rfl
theorem upd_N (E : DlV) : updC (clB E) 1 none = fun _ => none := by
  funext k
  unfold updC clB
  split <;> rfl
theorem old_B (E : DlV) (h : E.since = 0) : oldK (clB E) 1 8 = 0 := by
  show min 1 E.since = 0
  rw [h]
  rfl
theorem old_N : oldK (fun _ => none) 1 8 = 1 := rfl
/-- A client has begun; it has made the file "/a". -/
structure Begun (T : StV) (D : DlV) : Prop where
  V : ∃ vb, D.V = vwOf T vb
  since : D.since = 0
structure MadeA (T : StV) (n : Nat) (D : DlV) : Prop where
  V : ∃ vb rv wv sv, D.V = (vwOf T vb).made n rv wv sv
  since : D.since = 0
abbrev mgOf (mb hb : Nat) (T : StV) (cl : Nat → Option DlV) (f : Nat) : MgV := ⟨mb, hb, T, cl, f, 0, none, 0, 0⟩
section
variable {O : Nat → Prop} {B0 B mb hb : Nat} {T : StV} {w : World}
theorem ex_begin0 (h : MgR O B0 B w (mgOf mb hb T (fun _ => none) 2)) (hx : XSt T) (p : ByteArray) :
    Calls Tryz.prog 11 #[ptr0 mb, i64 0, opV 1 p] w fun e w' => e = .returned (resV 0) ∧ ∃ D, Begun T D ∧ MgR O B0 B w' (mgOf mb hb T (clA D) 2) ∧ Below B0 w w' ∧ KeepR B w.heap.size w w' := by
  refine (txDo_begin h hx.dev.off (by show T.offs = T.N.offs; rw [hx.offs, hx.dev.offs]) (i := 0) (by decide) rfl (by show 0 + 0 ≤ 1000000; decide) p).mono ?_
  rintro e w' ⟨rfl, b, db, vb, hM, hb, hk⟩
  refine ⟨rfl, ⟨b, db, vwOf T vb, 0, 0⟩, ⟨⟨vb, rfl⟩, rfl⟩, ?_, hb, hk⟩
  rw [← upd_A]
  exact hM
theorem ex_begin1 {D : DlV} (h : MgR O B0 B w (mgOf mb hb T (clA D) 2)) (hx : XSt T) (p : ByteArray) :
    Calls Tryz.prog 11 #[ptr0 mb, i64 1, opV 1 p] w fun e w' => e = .returned (resV 0) ∧ ∃ E, Begun T E ∧ MgR O B0 B w' (mgOf mb hb T (cl2 D E) 2) ∧ Below B0 w w' ∧ KeepR B w.heap.size w w' := by
  refine (txDo_begin h hx.dev.off (by show T.offs = T.N.offs; rw [hx.offs, hx.dev.offs]) (i := 1) (by decide) rfl (by show 0 + 0 ≤ 1000000; decide) p).mono ?_
  rintro e w' ⟨rfl, b, db, vb, hM, hb, hk⟩
  refine ⟨rfl, ⟨b, db, vwOf T vb, 0, 0⟩, ⟨⟨vb, rfl⟩, rfl⟩, ?_, hb, hk⟩
  rw [← upd_2]
  exact hM
theorem ex_create0 {D E : DlV} (h : MgR O B0 B w (mgOf mb hb T (cl2 D E) 2)) (hx : XSt T) (hD : Begun T D) :
    Calls Tryz.prog 11 #[ptr0 mb, i64 0, opV 4 pathA] w fun e w' => e = .returned (resV 0) ∧ ∃ D', MadeA T 2 D' ∧ MgR O B0 B w' (mgOf mb hb T (cl2 D' E) 3) ∧ Below B0 w w' ∧ KeepR B w.heap.size w w' := by
  obtain ⟨vb, hV⟩ := hD.V
  have ht := hx.t
  refine (txDo_create h hx.dev.off (by show T.offs = T.N.offs; rw [hx.offs, hx.dev.offs]) (i := 0) (D := D) (by decide) rfl (by show 2 < 1000000; decide) (by rw [hV, show (vwOf T vb).shown = T.t from rfl, ht]; rfl) (by rw [hV, show (vwOf T vb).shown = T.t from rfl, ht]; rfl) (by rw [hV]; exact Nat.zero_le _) (by rw [hV]; exact Nat.zero_le _) (by rw [hV, show (vwOf T vb).shown = T.t from rfl, ht]; exact Nat.zero_le _)).mono ?_
  rintro e w' ⟨rfl, rv, wv, sv, hM, hb, hk⟩
  refine ⟨rfl, { D with V := D.V.made 2 rv wv sv, f := 2 }, ⟨⟨vb, rv, wv, sv, by show D.V.made 2 rv wv sv = _; rw [hV]⟩, hD.since⟩, ?_, hb, hk⟩
  rw [← upd_20 D]
  exact hM
theorem ex_create1 {D E : DlV} (h : MgR O B0 B w (mgOf mb hb T (cl2 D E) 3)) (hx : XSt T) (hE : Begun T E) :
    Calls Tryz.prog 11 #[ptr0 mb, i64 1, opV 4 pathA] w fun e w' => e = .returned (resV 0) ∧ ∃ E', MadeA T 3 E' ∧ MgR O B0 B w' (mgOf mb hb T (cl2 D E') 4) ∧ Below B0 w w' ∧ KeepR B w.heap.size w w' := by
  obtain ⟨vb, hV⟩ := hE.V
  have ht := hx.t
  refine (txDo_create h hx.dev.off (by show T.offs = T.N.offs; rw [hx.offs, hx.dev.offs]) (i := 1) (D := E) (by decide) rfl (by show 3 < 1000000; decide) (by rw [hV, show (vwOf T vb).shown = T.t from rfl, ht]; rfl) (by rw [hV, show (vwOf T vb).shown = T.t from rfl, ht]; rfl) (by rw [hV]; exact Nat.zero_le _) (by rw [hV]; exact Nat.zero_le _) (by rw [hV, show (vwOf T vb).shown = T.t from rfl, ht]; exact Nat.zero_le _)).mono ?_
  rintro e w' ⟨rfl, rv, wv, sv, hM, hb, hk⟩
  refine ⟨rfl, { E with V := E.V.made 3 rv wv sv, f := 3 }, ⟨⟨vb, rv, wv, sv, by show E.V.made 3 rv wv sv = _; rw [hV]⟩, hE.since⟩, ?_, hb, hk⟩
  rw [← upd_21 D E]
  exact hM
theorem ex_commit0 {D E : DlV} (h : MgR O B0 B w (mgOf mb hb T (cl2 D E) 4)) (hx : XSt T) (hD : MadeA T 2 D) (hE : MadeA T 3 E) (p : ByteArray) :
    Calls Tryz.prog 11 #[ptr0 mb, i64 0, opV 2 p] w fun e w' => e = .returned (resV 0) ∧ ∃ T' lg lc wg n wc, MgR O B0 B w' ⟨mb, hb, T', clB E, 4, 0, some ⟨lg, 0, none⟩, 1, lc⟩ ∧ 1 ≤ lc ∧ HsL B w' lg wg n wc pEa ∧ 0 < n ∧ T'.N.off = false ∧ T'.offs = T'.N.offs ∧ Below B0 w w' := by
  obtain ⟨vb, rv, wv, sv, hV⟩ := hD.V
  have hw : inT D.V.writes = [⟨kEa, markB ++ vEa, false⟩, ⟨kI2, markB ++ vI2, false⟩] := by rw [hV]; exact writes_is _ _
  refine (txDo_commit h hx.dev.off (by show T.offs = T.N.offs; rw [hx.offs, hx.dev.offs]) (i := 0) (D := D) (by decide) rfl rfl rfl rfl rfl hD.since (by rw [← inT_len, hw]; decide) (fun q hq => ?_) (p := pEa) (ps := [pI2]) ?_ ?_ (by rw [upd_B]; exact old_B E hE.since) p).mono ?_
  · rw [hw] at hq
    rcases List.mem_cons.1 hq with rfl | hq
    · have e : (markB ++ vEa).size = 5 := by kernel_rfl
      exact ⟨by show 0 < (markB ++ vEa).size; rw [e]; decide, by show (markB ++ vEa).size ≤ 1000000; rw [e]; decide, rfl⟩
    · rcases List.mem_cons.1 hq with rfl | hq
      · have e : (markB ++ vI2).size = 14 := by kernel_rfl
        exact ⟨by show 0 < (markB ++ vI2).size; rw [e]; decide, by show (markB ++ vI2).size ≤ 1000000; rw [e]; decide, rfl⟩
      · cases hq
  · rw [hw]
    show [unmark _, unmark _] = [pEa, pI2]
    rw [unmark_E, unmark_I]
  · intro W g c hb hg hp
    exact put_C (h.st.below hb) hx g c (Nat.lt_of_lt_of_le h.st.lt hg) hp
  · rintro e w' ⟨rfl, T', lg, lc, wg, n, wc, hM, hlc, hL, hn, h1, h2, hb⟩
    refine ⟨rfl, T', lg, lc, wg, n, wc, ?_, hlc, hL, hn, h1, h2, hb⟩
    rw [← upd_B D E]
    exact hM
theorem ex_commit1 {E : DlV} {T' : StV} {lg lc wg n wc : Nat} (h : MgR O B0 B w ⟨mb, hb, T', clB E, 4, 0, some ⟨lg, 0, none⟩, 1, lc⟩) (hlc : 1 ≤ lc) (hL : HsL B w lg wg n wc pEa) (hn : 0 < n) (h1 : T'.N.off = false) (h2 : T'.offs = T'.N.offs) (hE : MadeA T 3 E) (p : ByteArray) :
    Calls Tryz.prog 11 #[ptr0 mb, i64 1, opV 2 p] w fun e w' => e = .returned (resV 24) ∧ Below B0 w w' := by
  obtain ⟨vb, rv, wv, sv, hV⟩ := hE.V
  have hr : inT E.V.reads = [⟨kEa, { data := #[] }, false⟩, ⟨keyI 1, { data := #[] }, false⟩] := by rw [hV]; exact reads_is _ _
  exact txDo_clash h h1 h2 (i := 1) (D := E) (by decide) rfl rfl rfl rfl hlc hL hn hE.since (by rw [hV]) (by rw [← inT_len, hr]; decide) _ _ hr (by rw [upd_N]; exact old_N) p
end
theorem begin22' (w : World) : Calls Tryz.prog 8 #[geo 16 1024] w fun e w' => ∃ (O : Nat → Prop) (B mb hb : Nat) (T : StV), e = .returned (.tuple #[ptr0 mb, ptrD T.N]) ∧ MgR O w.heap.size B w' (mgOf mb hb T (fun _ => none) 2) ∧ XSt T ∧ Below w.heap.size w w' := by
  refine (begin22 w).mono ?_
  rintro e w' ⟨O, B, M, rfl, hM, m1, m2, m3, m4, m5, m6, hx, hb1⟩
  obtain ⟨mb, hb, T, cl, fresh, g, A, n, c⟩ := M
  simp only at m1 m2 m3 m4 m5 m6
  subst m1; subst m2; subst m3; subst m4; subst m5; subst m6
  exact ⟨O, B, mb, hb, T, rfl, hM, hx, hb1⟩
end Go.Proofs.YthiimpleljaimaaGreatDoor

/- flintlaw22.fixed. -/
namespace Go.Proofs.YthiimpleljaimaaGreatDoor
open Go Go.RowKit Flo
attribute [local go_sem] run_store_complex

theorem field_res (e : Nat) (w : World) : (Instr.field 44 (resV e) 0).run Tryz.prog w = .ok (i64 e) w := by kernel_rfl
abbrev noS : ByteArray := { data := #[] }
/-- The loop's state behind k rounds. -/
def FixSt (O : Nat → Prop) (B0 B mb hb : Nat) (T : StV) (lb : Nat) (w wr : World) (k : Nat) : Prop :=
  (∃ f, wr.heap[lb]? = some (.cells (opL 1 noS ++ opL 4 pathA).toArray 24 f)) ∧ lb < wr.heap.size ∧ Below B0 w wr ∧
  match k with
  | 0 => MgR O B0 B wr (mgOf mb hb T (fun _ => none) 2)
  | 1 => ∃ D E, Begun T D ∧ Begun T E ∧ MgR O B0 B wr (mgOf mb hb T (cl2 D E) 2)
  | _ => ∃ D E, MadeA T 2 D ∧ MadeA T 3 E ∧ MgR O B0 B wr (mgOf mb hb T (cl2 D E) 4)
set_option maxHeartbeats 16000000 in
set_option maxRecDepth 100000 in
theorem fixed22 (w : World) (g0 : w.cell? ⟨0, 0, none⟩ = some (i64 16)) (g1 : w.cell? ⟨0, 1, none⟩ = some (i64 1024)) (_hg : 0 < w.heap.size) : Makes 6 #[] w (.bool true) := by
  have GB := fun W => Lib.hid (begin22' W)
  have fr0 := fun W => field_res 0 W
  have fr24 := fun W => field_res 24 W
  go_enter Tryz.func6, Tryz.ntmps6
  go_wp2_with fail
  refine (GB _).out.mono ?_; rintro e w1 ⟨O, B, mb, hb, T, rfl, hM, hx, hb1⟩
  obtain ⟨W1, hW1⟩ : ∃ W, W = w1.alloc (.cells (opL 1 noS ++ opL 4 pathA).toArray 24) := ⟨_, rfl⟩
  have hB1 := Base.al (Below.refl _ w1) (.cells (opL 1 noS ++ opL 4 pathA).toArray 24)
  have hL1 := blk_new w1 (.cells (opL 1 noS ++ opL 4 pathA).toArray 24)
  rw [← hW1] at hB1 hL1
  have HS0 : Hid (FixSt O w.heap.size B mb hb T w1.heap.size w W1 0) := Lib.hid ⟨⟨_, hL1⟩, (Array.getElem?_eq_some_iff.1 hL1).1, lowTr hb1 (Below.low hB1 hb1.size), hM.below hB1⟩
  have hBw : B ≤ w1.heap.size := hM.st.base
  have hwB : w.heap.size ≤ B := hM.le
  have HX := Lib.hid hx
  have HW := Lib.hid hW1
  clear g0 g1 GB hM hx hb1 hB1 hL1 hW1
  go_wp2_with fail
  rw [show (w1.alloc (.cells #[.int .u8 1, .string { data := #[] }, .string { data := #[] }, .int .i64 0, .int .i64 0, .int .i64 0, .slice none 0 0, .int .u8 4, .string { data := #[47, 97] }, .string { data := #[] }, .int .i64 0, .int .i64 0, .int .i64 0, .slice none 0 0] 24)) = W1 from HW.out.symm]
  clear HW
  generalize hlb : w1.heap.size = lb at *
  go_loopw [16] (fun iv wr => ∃ k : Nat, k ≤ 2 ∧ iv = .int .i64 (k : Int) ∧ Hid (FixSt O w.heap.size B mb hb T lb w wr k)) (fun iv _ => 2 - (intOf iv).toNat)
  case atStart => exact ⟨0, by omega, rfl, HS0⟩
  case round =>
    obtain ⟨k, hk, rfl, HS⟩ := hrel
    have hW1 := HS.out.2.1
    obtain ⟨f, hL⟩ := HS.out.1
    have kwk : IntKind.i64.wrap ((k : Int) + 1) = (k : Int) + 1 := by rw [IntKind.wrap_i64]; omega
    have hcase : k = 0 ∨ k = 1 ∨ k = 2 := by omega
    rcases hcase with rfl | rfl | rfl
    · skip
      have l0 := cell_blk hL 0
      have l1 := cell_blk hL 1
      have l2 := cell_blk hL 2
      have l3 := cell_blk hL 3
      have l4 := cell_blk hL 4
      have l5 := cell_blk hL 5
      have l6 := cell_blk hL 6
      simp at l0 l1 l2 l3 l4 l5 l6
      have HL := Lib.hid hL
      have hbr := HS.out.2.2.1
      have hb2 := Base.al (Below.refl _ wr) (.cells (opL 1 noS).toArray 24)
      have hO1 := blk_new wr (.cells (opL 1 noS).toArray 24)
      have hzr : MgR O w.heap.size B wr (mgOf mb hb T (fun _ => none) 2) := HS.out.2.2.2
      clear hL
      go_wp2_with fail
      refine (ex_begin0 (hzr.below hb2) HX.out noS).mono ?_; rintro e w2 ⟨rfl, D, hD, hM2, hb3, hk3⟩
      have hz2 := hb2.size
      have hL2 := hk3 lb _ _ _ hBw (Nat.lt_of_lt_of_le hW1 hz2) (by simp) (blk_old HL.out)
      have hO2 := hk3 wr.heap.size _ _ _ (by omega) (Array.getElem?_eq_some_iff.1 hO1).1 (by simp) hO1
      have o0 := cell_blk hO2 0
      have o1 := cell_blk hO2 1
      have o2 := cell_blk hO2 2
      have o3 := cell_blk hO2 3
      have o4 := cell_blk hO2 4
      have o5 := cell_blk hO2 5
      have o6 := cell_blk hO2 6
      simp at o0 o1 o2 o3 o4 o5 o6
      have hlO := (Array.getElem?_eq_some_iff.1 hO2).1
      have HL2 := Lib.hid hL2
      have hlL := (Array.getElem?_eq_some_iff.1 hL2).1
      have HB3 := Lib.hid (lowTr (lowTr hbr (Below.low hb2 hbr.size)) hb3)
      clear l0 l1 l2 l3 l4 l5 l6 hO1 hO2 hL2 hk3 hb3 hb2 hbr
      go_wp2_with fail
      refine (ex_begin1 hM2 HX.out noS).mono ?_; rintro e w3 ⟨rfl, E, hE, hM3, hb4, hk4⟩
      have hL3 := hk4 lb _ _ _ hBw hlL (by simp) HL2.out
      have HS3 : Hid (FixSt O w.heap.size B mb hb T lb w w3 1) := Lib.hid ⟨⟨_, hL3⟩, (Array.getElem?_eq_some_iff.1 hL3).1, lowTr HB3.out hb4, D, E, hD, hE, hM3⟩
      clear o0 o1 o2 o3 o4 o5 o6 hb4 hk4 hL3
      go_wp2_with fail
      exact ⟨⟨1, by omega, by go_num, HS3⟩, by simp [intOf]⟩
    · skip
      have l0 := cell_blk hL 7
      have l1 := cell_blk hL 8
      have l2 := cell_blk hL 9
      have l3 := cell_blk hL 10
      have l4 := cell_blk hL 11
      have l5 := cell_blk hL 12
      have l6 := cell_blk hL 13
      simp at l0 l1 l2 l3 l4 l5 l6
      have HL := Lib.hid hL
      have hbr := HS.out.2.2.1
      have hb2 := Base.al (Below.refl _ wr) (.cells (opL 4 pathA).toArray 24)
      have hO1 := blk_new wr (.cells (opL 4 pathA).toArray 24)
      obtain ⟨D, E, hD, hE, hzr⟩ : ∃ D E, Begun T D ∧ Begun T E ∧ MgR O w.heap.size B wr (mgOf mb hb T (cl2 D E) 2) := HS.out.2.2.2
      clear hL
      go_wp2_with fail
      refine (ex_create0 (hzr.below hb2) HX.out hD).mono ?_; rintro e w2 ⟨rfl, D', hD', hM2, hb3, hk3⟩
      have hz2 := hb2.size
      have hL2 := hk3 lb _ _ _ hBw (Nat.lt_of_lt_of_le hW1 hz2) (by simp) (blk_old HL.out)
      have hO2 := hk3 wr.heap.size _ _ _ (by omega) (Array.getElem?_eq_some_iff.1 hO1).1 (by simp) hO1
      have o0 := cell_blk hO2 0
      have o1 := cell_blk hO2 1
      have o2 := cell_blk hO2 2
      have o3 := cell_blk hO2 3
      have o4 := cell_blk hO2 4
      have o5 := cell_blk hO2 5
      have o6 := cell_blk hO2 6
      simp at o0 o1 o2 o3 o4 o5 o6
      have hlO := (Array.getElem?_eq_some_iff.1 hO2).1
      have HL2 := Lib.hid hL2
      have hlL := (Array.getElem?_eq_some_iff.1 hL2).1
      have HB3 := Lib.hid (lowTr (lowTr hbr (Below.low hb2 hbr.size)) hb3)
      clear l0 l1 l2 l3 l4 l5 l6 hO1 hO2 hL2 hk3 hb3 hb2 hbr
      go_wp2_with fail
      refine (ex_create1 hM2 HX.out hE).mono ?_; rintro e w3 ⟨rfl, E', hE', hM3, hb4, hk4⟩
      have hL3 := hk4 lb _ _ _ hBw hlL (by simp) HL2.out
      have HS3 : Hid (FixSt O w.heap.size B mb hb T lb w w3 2) := Lib.hid ⟨⟨_, hL3⟩, (Array.getElem?_eq_some_iff.1 hL3).1, lowTr HB3.out hb4, D', E', hD', hE', hM3⟩
      clear o0 o1 o2 o3 o4 o5 o6 hb4 hk4 hL3
      go_wp2_with fail
      exact ⟨⟨2, by omega, by go_num, HS3⟩, by simp [intOf]⟩
    · skip
      obtain ⟨D, E, hD, hE, hM2⟩ : ∃ D E, MadeA T 2 D ∧ MadeA T 3 E ∧ MgR O w.heap.size B wr (mgOf mb hb T (cl2 D E) 4) := HS.out.2.2.2
      have hbr := HS.out.2.2.1
      clear hL
      go_wp2_with fail
      refine (ex_commit0 hM2 HX.out hD hE noS).mono ?_; rintro e w2 ⟨rfl, T', lg, lc, wg, n, wc, hM3, hlc, hHL, hn, h1, h2, hb3⟩
      go_wp2_with fail
      refine (ex_commit1 hM3 hlc hHL hn h1 h2 hE noS).mono ?_; rintro e w3 ⟨rfl, hb4⟩
      have HB := Lib.hid (lowTr (lowTr hbr hb3) hb4)
      clear hM3 hHL hb3 hb4
      go_wp2_with fail
      go_ret
      exact ⟨rfl, HB.out⟩
end Go.Proofs.YthiimpleljaimaaGreatDoor

/- TxnNil: Great, Cut, the walk. -/
namespace Go.Proofs.YthiimpleljaimaaGreatDoor
open Go Go.RowKit Flo
attribute [local go_sem] run_store_complex

/-- A step's cells. -/
abbrev stepL (i k : Int) (p o : ByteArray) (x y z : Int) (a : Option Addr) (n c : Nat) : List Value := [.int .i64 i, .int .u8 k, .string p, .string o, .int .i64 x, .int .i64 y, .int .i64 z, .slice a n c]
set_option maxHeartbeats 8000000 in
set_option maxRecDepth 100000 in
theorem great20_any (k : Int) (p o : ByteArray) (x y z : Int) (a : Option Addr) (n c : Nat) : ∃ b, ∀ w, Makes 25 #[.agg #[.int .u8 k, .string p, .string o, .int .i64 x, .int .i64 y, .int .i64 z, .slice a n c]] w (.bool b) := by
  by_cases h1 : 600 < p.size
  · refine ⟨true, fun w => ?_⟩
    have t1 : decide ((600 : Int) < (p.size : Int)) = true := decide_eq_true (by omega)
    have hb1 := Base.al (Below.refl _ w) (.cells #[.int .u8 k, .string p, .string o, .int .i64 x, .int .i64 y, .int .i64 z, .slice a n c] 24)
    go_enter Tryz.func25, Tryz.ntmps25
    go_wp2_with fail
    go_ret
    exact ⟨rfl, hb1⟩
  · have t1 : decide ((600 : Int) < (p.size : Int)) = false := decide_eq_false (by omega)
    by_cases h2 : 600 < o.size
    · refine ⟨true, fun w => ?_⟩
      have t2 : decide ((600 : Int) < (o.size : Int)) = true := decide_eq_true (by omega)
      have hb1 := Base.al (Below.refl _ w) (.cells #[.int .u8 k, .string p, .string o, .int .i64 x, .int .i64 y, .int .i64 z, .slice a n c] 24)
      go_enter Tryz.func25, Tryz.ntmps25
      go_wp2_with fail
      go_ret
      exact ⟨rfl, hb1⟩
    · have t2 : decide ((600 : Int) < (o.size : Int)) = false := decide_eq_false (by omega)
      refine ⟨decide ((1500 : Int) < (n : Int)), fun w => ?_⟩
      have hb1 := Base.al (Below.refl _ w) (.cells #[.int .u8 k, .string p, .string o, .int .i64 x, .int .i64 y, .int .i64 z, .slice a n c] 24)
      go_enter Tryz.func25, Tryz.ntmps25
      go_wp2_with fail
      go_ret
      exact ⟨rfl, hb1⟩
set_option maxHeartbeats 8000000 in
set_option maxRecDepth 100000 in
theorem cut_one (i k : Int) (p o : ByteArray) (x y z : Int) (a : Option Addr) (n c : Nat) : ∃ m : Nat, m ≤ 1 ∧ ∀ (w : World) (g : Nat) (f : Nat × Nat), w.heap[g]? = some (.cells (stepL i k p o x y z a n c).toArray 26 f) →
    Calls Tryz.prog 5 #[.slice (some ⟨g, 0, none⟩) 1 1] w fun e w' => (∃ A c, e = .returned (.slice A m c)) ∧ Below w.heap.size w w' := by
  obtain ⟨b, hG⟩ := great20_any k p o x y z a n c
  cases b with
  | true =>
    refine ⟨0, by decide, fun w g f hL => ?_⟩
    have G := fun W => Lib.hid (hG W)
    have l0 := cell_blk hL 0
    have l1 := cell_blk hL 1
    have l2 := cell_blk hL 2
    have l3 := cell_blk hL 3
    have l4 := cell_blk hL 4
    have l5 := cell_blk hL 5
    have l6 := cell_blk hL 6
    have l7 := cell_blk hL 7
    simp at l0 l1 l2 l3 l4 l5 l6 l7
    clear hG hL
    go_enter Tryz.func5, Tryz.ntmps5
    go_wp2_with fail
    go_loopw [7] (fun iv wr => iv = i64 0 ∧ wr = w) (fun _ _ => 0)
    case atStart => exact ⟨rfl, rfl⟩
    case round =>
      obtain ⟨rfl, rfl⟩ := hrel
      have hb0 := Base.al (Below.refl _ wr) (.cells (stepL i k p o x y z a n c).toArray 26)
      go_wp2_with fail
      refine (G _).out.mono ?_; rintro e w1 ⟨rfl, hb1⟩
      have hb2 := Base.tr hb0 hb1
      clear l0 l1 l2 l3 l4 l5 l6 l7
      go_wp2_with fail
      go_ret
      exact ⟨⟨_, _, rfl⟩, hb2⟩
  | false =>
    refine ⟨1, by decide, fun w g f hL => ?_⟩
    have G := fun W => Lib.hid (hG W)
    have l0 := cell_blk hL 0
    have l1 := cell_blk hL 1
    have l2 := cell_blk hL 2
    have l3 := cell_blk hL 3
    have l4 := cell_blk hL 4
    have l5 := cell_blk hL 5
    have l6 := cell_blk hL 6
    have l7 := cell_blk hL 7
    simp at l0 l1 l2 l3 l4 l5 l6 l7
    clear hG hL
    go_enter Tryz.func5, Tryz.ntmps5
    go_wp2_with fail
    go_loopw [7] (fun iv wr => (iv = i64 0 ∧ wr = w) ∨ (iv = i64 1 ∧ Hid (Below w.heap.size w wr))) (fun iv _ => 1 - (intOf iv).toNat)
    case atStart => exact .inl ⟨rfl, rfl⟩
    case round =>
      rcases hrel with ⟨rfl, rfl⟩ | ⟨rfl, hb⟩
      · have hb0 := Base.al (Below.refl _ wr) (.cells (stepL i k p o x y z a n c).toArray 26)
        go_wp2_with fail
        refine (G _).out.mono ?_; rintro e w1 ⟨rfl, hb1⟩
        have hb2 := Lib.hid (Base.tr hb0 hb1)
        clear l0 l1 l2 l3 l4 l5 l6 l7 hb0 hb1
        go_wp2_with fail
        exact ⟨.inr ⟨rfl, hb2⟩, by decide⟩
      · go_wp2_with fail
        go_ret
        exact ⟨⟨_, _, rfl⟩, hb.out⟩
end Go.Proofs.YthiimpleljaimaaGreatDoor

/- TxnNil: the walk. -/
namespace Go.Proofs.YthiimpleljaimaaGreatDoor
open Go Go.RowKit Flo
attribute [local go_sem] run_store_complex

set_option maxHeartbeats 4000000 in
set_option maxRecDepth 100000 in
theorem stGone_dev {O : Nat → Prop} {w : World} {N : Nor} {TB offs : Nat} (hd : DevR O w N) (c0 : w.cell? ⟨TB, 0, none⟩ = some (ptrD N)) (c8 : w.cell? ⟨TB, 8, none⟩ = some (i64 offs)) (hbs : TB < w.heap.size) (hon : N.off = false) (hof : N.offs ≠ offs) : Makes 41 #[ptr0 TB] w (.bool true) := by
  have g1 := fun p : OnOf w => isOn_any (hd.below p.h)
  rw [hon] at g1
  have G1 := fun p : OnOf w => Lib.hid (g1 p)
  have G2 := fun p : OnOf w => Lib.hid (offs_any (hd.below p.h))
  have q0 := fun p : OnOf w => on_cell hbs c0 p
  have q8 := fun p : OnOf w => on_cell hbs c8 p
  have t1 : ((N.offs : Int) != (offs : Int)) = true := by rw [bne_iff_ne]; omega
  clear g1 hd hof hon c0 c8
  go_enter Tryz.func41, Tryz.ntmps41
  go_wp2_with fail
  refine wp_region_quiet_on (by kernel_rfl) (by kernel_rfl) ?_
  repeat ((with_reducible refine wpQuiet_step (fun K hK => ?_)); go_simp; first | ((with_reducible refine hK _ ?_); clear hK K) | (rw [if_neg (by intro h; cases h)]; (with_reducible refine hK _ ?_); clear hK K) | (apply Exists.intro; refine ⟨fun _ => ?_, hK _ ?_⟩; (first | (with_reducible exact on_of_same (G1 _).out) | (with_reducible exact on_of_same (G2 _).out)); clear hK K))
  with_reducible refine wpQuiet_nil ?_
  intro _ hw'
  obtain ⟨pq, hw''⟩ := hw'
  subst hw''
  go_wp2_with fail
  go_ret
  exact ⟨rfl, pq.h⟩
/-- The device went off and came on again. -/
abbrev offOn (N : Nor) : Nor := { N with off := false, cut := none, offs := N.offs + 1 }
theorem off22 {O : Nat → Prop} {w : World} {N : Nor} (h : DevR O w N) (hoff : N.off = false) (hl : N.offs ≤ 1000000) : Calls Tryz.prog 9 #[ptrD N] w fun e w' => e = .returned (.tuple #[]) ∧ DevR O w' { N with off := true, cut := none, offs := N.offs + 1 } ∧ Out O w w' := by
  have ht : N.turn = { N with off := true, cut := none, offs := N.offs + 1 } := by unfold Nor.turn; rw [hoff]; rfl
  rw [← ht]
  exact off_any h hl
theorem on22 {O : Nat → Prop} {w : World} {N : Nor} (h : DevR O w { N with off := true, cut := none, offs := N.offs + 1 }) : Calls Tryz.prog 10 #[ptrD N] w fun e w' => e = .returned (.tuple #[]) ∧ DevR O w' (offOn N) ∧ Out (· = N.D) w w' := by
  refine (on_any h).mono ?_
  rintro e w' ⟨rfl, rfl⟩
  exact ⟨rfl, h.on, Out.set (O := (· = N.D)) (Out.refl _ w) rfl 5 _⟩
set_option maxHeartbeats 32000000 in
set_option maxRecDepth 100000 in
theorem txnNil_makes (i k : Int) (p o : ByteArray) (x y z : Int) (a : Option Addr) (n c : Nat) (w : World) (g0 : w.cell? ⟨0, 0, none⟩ = some (i64 16)) (g1 : w.cell? ⟨0, 1, none⟩ = some (i64 1024)) (hg : 0 < w.heap.size) : Makes 3 #[.agg (stepL i k p o x y z a n c).toArray] w (.bool true) := by
  obtain ⟨m, hm, GC⟩ := cut_one i k p o x y z a n c
  have GF := fun W (hb : Below w.heap.size w W) => Lib.hid (fixed22 W ((hb.cell (p := ⟨0, 0, none⟩) hg).trans g0) ((hb.cell (p := ⟨0, 1, none⟩) hg).trans g1) (Nat.lt_of_lt_of_le hg hb.size))
  have GO := fun W => Lib.hid (txOpen_nil W)
  have GB := fun W => Lib.hid (begin22' W)
  have HG := Lib.hid (And.intro g0 g1)
  have hb1 := Base.al (Base.al (Below.refl _ w) (.cells (stepL i k p o x y z a n c).toArray 26)) (.cells (stepL i k p o x y z a n c).toArray 26)
  have hS1 := blk_old (x := .cells (stepL i k p o x y z a n c).toArray 26) (blk_new w (.cells (stepL i k p o x y z a n c).toArray 26))
  have hL1 := blk_new1 w (.cells (stepL i k p o x y z a n c).toArray 26) (.cells (stepL i k p o x y z a n c).toArray 26)
  have GC1 := Lib.hid (GC _ _ _ hL1)
  clear g0 g1 GC hL1
  go_enter Tryz.func3, Tryz.ntmps3
  go_wp2_with fail
  refine GC1.out.mono ?_; rintro e w2 ⟨⟨A2, c2, rfl⟩, hb2⟩
  have hS2 := blk_below hS1 hb2
  have hb12 := Base.tr hb1 hb2
  clear GC1 hS1 hb1 hb2
  have hm' : m = 0 ∨ m = 1 := by omega
  rcases hm' with rfl | rfl
  · go_wp2_with fail
    refine (GF _ hb12).out.mono ?_; rintro e w3 ⟨rfl, hb3⟩
    have hb4 := Base.tr hb12 hb3
    clear hS2
    go_wp2_with fail
    go_ret
    exact ⟨rfl, hb4⟩
  · go_wp2_with fail
    refine (GO _).out.mono ?_; rintro e w3 ⟨rfl, hb3⟩
    have hS3 := blk_below hS2 hb3
    have hb13 := Base.tr hb12 hb3
    have g0 := (hb13.cell (p := ⟨0, 0, none⟩) hg).trans HG.out.1
    have g1 := (hb13.cell (p := ⟨0, 1, none⟩) hg).trans HG.out.2
    clear hS2 hb12 hb3
    go_wp2_with fail
    refine (GB _).out.mono ?_; rintro e w4 ⟨O, B, mb, hb, T, rfl, hM, hx, hb4⟩
    have hS4 := blk_below hS3 hb4
    have hlS := (Array.getElem?_eq_some_iff.1 hS3).1
    have hb14 := Base.tr hb13 hb4
    have hd := hM.st.sh.dev
    have HM := Lib.hid hM
    have HX := Lib.hid hx
    have HS4 := Lib.hid hS4
    have HB14 := Lib.hid hb14
    clear g0 g1 hS3 hb13 hb4 hM hS4 hb14
    go_wp2_with fail
    refine (off22 hd hx.dev.off (by rw [hx.dev.offs]; decide)).mono ?_; rintro e w5 ⟨rfl, hd5, ho5⟩
    go_wp2_with fail
    refine (on22 hd5).mono ?_; rintro e w6 ⟨rfl, hd6, ho6⟩
    have ho46 := ho5.trans (ho6.wide (Q := O) (fun k hk => by rw [hk]; exact hd.ownD))
    have hlo : ∀ k, O k → w3.heap.size ≤ k := fun k hk => HM.out.lo k (.inl hk)
    have hlm : ∀ k, O k → k < B := fun k hk => HM.out.st.lim k (.inl hk)
    have hS6 := ho46.blk HS4.out (fun e => by have := hlo _ e; omega)
    have hM6 := ho46.blk HM.out.box (fun e => by have := hlm _ e; have := HM.out.mb; omega)
    have hT6 := ho46.blk HM.out.st.box (fun e => by have := hlm _ e; have := HM.out.st.tb; omega)
    have hb6 : Below w.heap.size w w6 := lowTr HB14.out (ho46.base (fun k hk => by have := hlo k hk; omega) HB14.out.size)
    have HD6 := Lib.hid hd6
    have HS6 := Lib.hid hS6
    have HM6 := Lib.hid hM6
    have HT6 := Lib.hid hT6
    have HB6 := Lib.hid hb6
    clear hd5 ho5 ho6 ho46 hlo hlm hS6 hM6 hT6 hd6 HM HS4 HB14 GB GO
    go_wp2_with fail
    refine (GF _ hb6).out.mono ?_; rintro e w7 ⟨rfl, hb7⟩
    have hS7 := blk_below HS6.out hb7
    have HD7 := Lib.hid (HD6.out.below hb7)
    have HM7 := Lib.hid (blk_below HM6.out hb7)
    have HT7 := Lib.hid (blk_below HT6.out hb7)
    have HB7 := Lib.hid (Base.tr HB6.out hb7)
    have HS7 := Lib.hid hS7
    have s0 := cell_blk hS7 0
    have s1 := cell_blk hS7 1
    have s2 := cell_blk hS7 2
    have s3 := cell_blk hS7 3
    have s4 := cell_blk hS7 4
    have s5 := cell_blk hS7 5
    have s6 := cell_blk hS7 6
    have s7 := cell_blk hS7 7
    simp at s0 s1 s2 s3 s4 s5 s6 s7
    have GN : ∀ W, Hid (Makes 11 #[nilP, .int .i64 i, .agg #[.int .u8 k, .string p, .string o, .int .i64 x, .int .i64 y, .int .i64 z, .slice a n c]] W (resV 7)) := fun W => Lib.hid (txDo_gone ⟨_, rfl⟩ i k p o x y z (.slice a n c) ⟨_, _, _, rfl⟩ (fun V _ => (txGone_nil V).mono (by rintro e v ⟨rfl, rfl⟩; exact ⟨rfl, Below.refl _ _⟩)))
    have fr7 := fun W => field_res 7 W
    clear hS7 HD6 HM6 HT6 HB6 HS6 hb7 hb6 GF
    go_wp2_with fail
    refine (GN _).out.mono ?_; rintro e w8 ⟨rfl, hb8⟩
    have hS8 := blk_below HS7.out hb8
    have HD8 := Lib.hid (HD7.out.below hb8)
    have HM8 := Lib.hid (blk_below HM7.out hb8)
    have HT8 := Lib.hid (blk_below HT7.out hb8)
    have HB8 := Lib.hid (Base.tr HB7.out hb8)
    clear s0 s1 s2 s3 s4 s5 s6 s7 HD7 HM7 HT7 HB7 HS7 hb8 GN
    have s0 := cell_blk hS8 0
    have s1 := cell_blk hS8 1
    have s2 := cell_blk hS8 2
    have s3 := cell_blk hS8 3
    have s4 := cell_blk hS8 4
    have s5 := cell_blk hS8 5
    have s6 := cell_blk hS8 6
    have s7 := cell_blk hS8 7
    simp at s0 s1 s2 s3 s4 s5 s6 s7
    have HS8 := Lib.hid hS8
    clear hS8
    have GI := fun W => Lib.hid (txIn_nil i W)
    have GDm := fun W => Lib.hid (txDoomed_nil i W)
    have GCm := fun W => Lib.hid (txCommits_nil W)
    have GTr := fun W => Lib.hid (txTree_nil W)
    have GLn : ∀ W, Hid (Gives 16 #[nilP] W (i64 0)) := fun W => Lib.hid (trLen_any (B := 0) (t := .nil) (rfl : TreeR W 0 .nil (.pointer none)))
    have GGn := fun W => Lib.hid (txGone_nil W)
    have GVw := fun W => Lib.hid (txView_nil i W)
    have GGo : ∀ W, Below w8.heap.size w8 W → Hid (Makes 17 #[ptr0 mb] W (.bool true)) := fun W hb => Lib.hid (txGone_any (cell_blk (blk_below HM8.out hb) 0) ⟨_, rfl⟩ (stGone_dev (N := offOn T.N) (offs := T.offs) (HD8.out.below hb) (cell_blk (blk_below HT8.out hb) 0) (cell_blk (blk_below HT8.out hb) 8) (Array.getElem?_eq_some_iff.1 (blk_below HT8.out hb)).1 rfl (by show T.N.offs + 1 ≠ T.offs; rw [HX.out.offs, HX.out.dev.offs]; decide)))
    have GDo : ∀ W, Below w8.heap.size w8 W → Hid (Makes 11 #[ptr0 mb, .int .i64 i, .agg #[.int .u8 k, .string p, .string o, .int .i64 x, .int .i64 y, .int .i64 z, .slice a n c]] W (resV 7)) := fun W hb => Lib.hid (txDo_gone ⟨_, rfl⟩ i k p o x y z (.slice a n c) ⟨_, _, _, rfl⟩ (fun V hV => (GGo V (Base.tr hb hV)).out))
    go_wp2_with fail
    refine (GI _).out.mono ?_; rintro e v1 ⟨rfl, rfl⟩
    go_wp2_with fail
    refine (GDm _).out.mono ?_; rintro e v1 ⟨rfl, rfl⟩
    go_wp2_with fail
    refine (GCm _).out.mono ?_; rintro e v1 ⟨rfl, rfl⟩
    go_wp2_with fail
    refine (GTr _).out.mono ?_; rintro e v1 ⟨rfl, rfl⟩
    go_wp2_with fail
    refine (GLn _).out.mono ?_; rintro e v1 ⟨rfl, rfl⟩
    go_wp2_with fail
    refine (GGn _).out.mono ?_; rintro e v1 ⟨rfl, rfl⟩
    go_wp2_with fail
    refine (GVw _).out.mono ?_; rintro e v1 ⟨rfl, rfl⟩
    go_wp2_with fail
    refine (GGo _ (Below.refl _ _)).out.mono ?_; rintro e w9 ⟨rfl, hb9⟩
    have hS9 := blk_below HS8.out hb9
    have HB9 := Lib.hid (Base.tr HB8.out hb9)
    clear s0 s1 s2 s3 s4 s5 s6 s7
    have s0 := cell_blk hS9 0
    have s1 := cell_blk hS9 1
    have s2 := cell_blk hS9 2
    have s3 := cell_blk hS9 3
    have s4 := cell_blk hS9 4
    have s5 := cell_blk hS9 5
    have s6 := cell_blk hS9 6
    have s7 := cell_blk hS9 7
    simp at s0 s1 s2 s3 s4 s5 s6 s7
    clear hS9
    go_wp2_with fail
    refine (GDo _ hb9).out.mono ?_; rintro e w10 ⟨rfl, hb10⟩
    have HB10 := Lib.hid (Base.tr HB9.out hb10)
    clear s0 s1 s2 s3 s4 s5 s6 s7 hb9 hb10
    go_wp2_with fail
    go_ret
    exact ⟨rfl, HB10.out⟩
end Go.Proofs.YthiimpleljaimaaGreatDoor

