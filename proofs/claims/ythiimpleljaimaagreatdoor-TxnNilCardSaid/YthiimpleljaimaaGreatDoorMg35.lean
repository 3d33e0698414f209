/- Package txn: Do, the making of "/a". -/
import Derived.Test.YthiimpleljaimaaGreatDoorMg34
namespace Go.Proofs.YthiimpleljaimaaGreatDoor
open Go Go.RowKit Flo
attribute [local go_sem] run_store_complex

set_option maxHeartbeats 16000000 in
set_option maxRecDepth 100000 in
theorem txDo_create {O : Nat → Prop} {B0 B : Nat} {w : World} {M : MgV} (h : MgR O B0 B w M) (hon : M.T.N.off = false) (hof : M.T.offs = M.T.N.offs) {i : Nat} (hi : i < 8) {D : DlV} (hc : M.cl i = some D) (hf : M.fresh < 1000000) (hn1 : getT (keyI 1) D.V.shown = none) (hn2 : getT (keyE 1 nameA) D.V.shown = none) (hs : D.V.reads.size ≤ 400000) (hw : D.V.writes.size ≤ 40) (hs2 : D.V.shown.size ≤ 400000) :
    Calls Tryz.prog 11 #[M.ptr, .int .i64 (i : Int), opV 4 pathA] w fun e w' => e = .returned (resV 0) ∧ ∃ rv wv sv, MgR O B0 B w' { M with cl := updC M.cl i (some { D with V := D.V.made M.fresh rv wv sv, f := M.fresh }), fresh := M.fresh + 1 } ∧ Below B0 w w' ∧ KeepR B w.heap.size w w' := by
  obtain ⟨x1, hx1⟩ : ∃ W, W = ((w.alloc (.cells (opL 4 pathA).toArray 24)).alloc (.cells #[.int .i64 0, .int .i64 0, .slice none 0 0, .slice none 0 0, .int .u8 0, .int .u32 0, .int .u32 0, .int .u32 0] 44)) := ⟨_, rfl⟩
  have hb1 : Below w.heap.size w x1 := by rw [hx1]; exact Base.al (Base.al (Below.refl _ _) _) _
  have hO1 : x1.heap[w.heap.size]? = some (.cells (opL 4 pathA).toArray 24 (0, 0)) := by rw [hx1]; exact blk_old (blk_new w _)
  have hR1 : x1.heap[w.heap.size + 1]? = some (.cells (resL 0).toArray 44 (0, 0)) := by rw [hx1]; exact blk_new1 w _ _
  have GG := fun W (hb : Below w.heap.size w W) => Lib.hid (txGone_any (cell_blk (h.below hb).box 0) ⟨_, rfl⟩ (stGone_any (h.below hb).st hon hof))
  have GW := fun W (hb : Below w.heap.size w W) => Lib.hid (txWorks_create (h.below hb) hc hf hn1 hn2 hs hw hs2)
  have H1 := Lib.hid h
  have HX := Lib.hid hx1
  have HC := Lib.hid hc
  have hwB := h.st.base
  have hB0B := h.le
  have ti1 : decide ((i : Int) < 0) = false := decide_eq_false (by omega)
  have ti2 : decide ((8 : Int) ≤ (i : Int)) = false := decide_eq_false (by omega)
  clear h hon hof hc hn1 hn2 hs hw hs2
  go_enter Tryz.func11, Tryz.ntmps11
  go_wp2_with fail
  rw [← HX.out]
  clear HX hx1
  refine (GG _ hb1).out.mono ?_; rintro e w1 ⟨rfl, hb2⟩
  have hb3 := Base.tr hb1 hb2
  have M1 := H1.out.below hb3
  have hO2 := blk_below hO1 hb2
  have hR2 := blk_below hR1 hb2
  have hD := M1.dl i D HC.out
  have ci := M1.client hi
  rw [HC.out] at ci
  unfold dlP at ci
  have d2 : w1.cell? ⟨D.b, 2, none⟩ = some (.bool false) := cell_blk hD.box 2
  have k0 : w1.cell? ⟨w.heap.size, 0, none⟩ = some (.int .u8 4) := cell_blk hO2 0
  have k1 : w1.cell? ⟨w.heap.size, 1, none⟩ = some (.string pathA) := cell_blk hO2 1
  have k2 : w1.cell? ⟨w.heap.size, 2, none⟩ = some (.string { data := #[] }) := cell_blk hO2 2
  have k3 : w1.cell? ⟨w.heap.size, 3, none⟩ = some (i64 0) := cell_blk hO2 3
  have k4 : w1.cell? ⟨w.heap.size, 4, none⟩ = some (i64 0) := cell_blk hO2 4
  have k5 : w1.cell? ⟨w.heap.size, 5, none⟩ = some (i64 0) := cell_blk hO2 5
  have k6 : w1.cell? ⟨w.heap.size, 6, none⟩ = some (.slice none 0 0) := cell_blk hO2 6
  have HR2 := Lib.hid hR2
  have HB3 := Lib.hid hb3
  clear hb1 hb2 hO1 hR1 GG hO2 hD M1 hR2
  go_wp2_with fail
  refine (GW _ hb3).out.mono ?_; rintro e w4 ⟨rfl, rv, wv, sv, M4, hb4, hk4⟩
  have hlR := (Array.getElem?_eq_some_iff.1 HR2.out).1
  have hR4 : w4.heap[w.heap.size + 1]? = some (.cells (resL 0).toArray 44 (0, 0)) := hk4.res (by omega) hlR HR2.out
  have HB4 := Lib.hid (lowTr (Below.low HB3.out (Nat.le_trans hB0B hwB)) hb4)
  have HM4 := Lib.hid M4
  have HK4 := Lib.hid ((KeepR.of_below HB3.out (B := B) (n := w.heap.size)).trans (hk4.mono HB3.out.size))
  have z0 := cell_blk hR4 0
  have z1 := cell_blk hR4 1
  have z2 := cell_blk hR4 2
  have z3 := cell_blk hR4 3
  have z4 := cell_blk hR4 4
  have z5 := cell_blk hR4 5
  have z6 := cell_blk hR4 6
  have z7 := cell_blk hR4 7
  have fz := fun o => frozen_blk hR4 o
  have hl4 := (Array.getElem?_eq_some_iff.1 hR4).1
  simp at z0 z1 z2 z3 z4 z5 z6 z7
  have HR4 := Lib.hid hR4
  clear k0 k1 k2 k3 k4 k5 k6 ci d2 GW M4 hb4 hk4 hR4 HR2 hlR hb3
  go_wp2_with fail
  have hs4 : ((((((((w4.setCell ⟨w.heap.size + 1, 0, none⟩ (.int .i64 0)).setCell ⟨w.heap.size + 1, 1, none⟩ (.int .i64 0)).setCell ⟨w.heap.size + 1, 2, none⟩ (.slice none 0 0)).setCell ⟨w.heap.size + 1, 3, none⟩ (.slice none 0 0)).setCell ⟨w.heap.size + 1, 4, none⟩ (.int .u8 0)).setCell ⟨w.heap.size + 1, 5, none⟩ (.int .u32 0)).setCell ⟨w.heap.size + 1, 6, none⟩ (.int .u32 0)).setCell ⟨w.heap.size + 1, 7, none⟩ (.int .u32 0)) = sets w4 (w.heap.size + 1) 0 (resL 0) := rfl
  rw [hs4]
  clear hs4
  have hR4 := sets_at HR4.out (resL 0) rfl
  have ho4 : Out (· = w.heap.size + 1) w4 (sets w4 (w.heap.size + 1) 0 (resL 0)) := Out.of_sets (Q := (· = w.heap.size + 1)) w4 rfl _ 0
  generalize sets w4 (w.heap.size + 1) 0 (resL 0) = w4 at *
  have r0 : w4.cell? ⟨w.heap.size + 1, 0, none⟩ = some (i64 (0 : Nat)) := cell_blk hR4 0
  have r1 : w4.cell? ⟨w.heap.size + 1, 1, none⟩ = some (.int .i64 0) := cell_blk hR4 1
  have r2 : w4.cell? ⟨w.heap.size + 1, 2, none⟩ = some (.slice none 0 0) := cell_blk hR4 2
  have r3 : w4.cell? ⟨w.heap.size + 1, 3, none⟩ = some (.slice none 0 0) := cell_blk hR4 3
  have r4 : w4.cell? ⟨w.heap.size + 1, 4, none⟩ = some (.int .u8 0) := cell_blk hR4 4
  have r5 : w4.cell? ⟨w.heap.size + 1, 5, none⟩ = some (.int .u32 0) := cell_blk hR4 5
  have r6 : w4.cell? ⟨w.heap.size + 1, 6, none⟩ = some (.int .u32 0) := cell_blk hR4 6
  have r7 : w4.cell? ⟨w.heap.size + 1, 7, none⟩ = some (.int .u32 0) := cell_blk hR4 7
  have hMz := HM4.out.outOne HR4.out (by omega) ho4 (by decide)
  exact bodyPost_ret (v := resV 0) (by simp [results, Tryz.results11, go_sem, r0, r1, r2, r3, r4, r5, r6, r7]) rfl ⟨rfl, rv, wv, sv, hMz, lowTr HB4.out (ho4.base (fun k hk => by rw [hk]; omega) (Nat.le_trans (Nat.le_trans hB0B hwB) HB4.out.size)), HK4.out.trans (KeepR.of_far ho4 (fun k hk => by omega))⟩
end Go.Proofs.YthiimpleljaimaaGreatDoor

/- Package txn: a client's transaction ends. -/
namespace Go.Proofs.YthiimpleljaimaaGreatDoor
open Go Go.RowKit Flo
attribute [local go_sem] run_store_complex

theorem idx8 (a0 a1 a2 a3 a4 a5 a6 a7 : Value) (w : World) (cl : Nat → Value) (h0 : cl 0 = a0) (h1 : cl 1 = a1) (h2 : cl 2 = a2) (h3 : cl 3 = a3) (h4 : cl 4 = a4) (h5 : cl 5 = a5) (h6 : cl 6 = a6) (h7 : cl 7 = a7) :
    ∀ k : Nat, k < 8 → (Instr.index 79 (.agg #[a0, a1, a2, a3, a4, a5, a6, a7]) (.int .i64 (k : Int))).run Tryz.prog w = .ok (cl k) w
  | 0, _ => by rw [h0]; kernel_rfl
  | 1, _ => by rw [h1]; kernel_rfl
  | 2, _ => by rw [h2]; kernel_rfl
  | 3, _ => by rw [h3]; kernel_rfl
  | 4, _ => by rw [h4]; kernel_rfl
  | 5, _ => by rw [h5]; kernel_rfl
  | 6, _ => by rw [h6]; kernel_rfl
  | 7, _ => by rw [h7]; kernel_rfl
/-- The oldest of the first k clients. -/
def oldK (cl : Nat → Option DlV) (now : Nat) : Nat → Nat
  | 0 => now
  | k + 1 => match cl k with
    | none => oldK cl now k
    | some D => min (oldK cl now k) D.since
/-- What ends comes to, ahead of what is forgotten. -/
def EndsPost (O : Nat → Prop) (B0 B : Nat) (w : World) (M : MgV) (i : Nat) (R : World → World → Prop) (e : Ending) (w' : World) : Prop :=
  e = .returned (.tuple #[]) ∧ ∃ v, MgR O B0 B v { M with cl := updC M.cl i none } ∧ Below B0 w v ∧ KeepR B w.heap.size w v ∧ R v w'
set_option maxHeartbeats 16000000 in
set_option maxRecDepth 100000 in
theorem txEnds_any {O : Nat → Prop} {B0 B : Nat} {w : World} {M : MgV} (h : MgR O B0 B w M) {i : Nat} (hi : i < 8) (hs : M.g + M.n ≤ 1000000) (R : World → World → Prop)
    (hF : ∀ v, MgR O B0 B v { M with cl := updC M.cl i none } → Calls Tryz.prog 64 #[ptr0 M.hb, .int .u64 (oldK (updC M.cl i none) (M.g + M.n) 8 : Nat)] v fun e w' => e = .returned (.tuple #[]) ∧ R v w') :
    Calls Tryz.prog 37 #[M.ptr, .int .i64 (i : Int)] w (EndsPost O B0 B w M i R) := by
  have ci := h.client hi
  have M1 := h.dropC hi
  have ho1 : Out (· = M.mb) w (w.setCell ⟨M.mb, 2 + i, none⟩ (.pointer none)) := Out.set (O := (· = M.mb)) (Out.refl _ w) rfl _ _
  have hmB := h.mb
  have hB0B := h.le
  have hwB := h.st.base
  have hb1 : Below B0 w (w.setCell ⟨M.mb, 2 + i, none⟩ (.pointer none)) := ho1.base (fun k hk => by rw [hk]; omega) (by omega)
  have hk1 : KeepR B w.heap.size w (w.setCell ⟨M.mb, 2 + i, none⟩ (.pointer none)) := KeepR.of_type ho1 h.box (by decide)
  have c1 : w.cell? ⟨M.mb, 1, none⟩ = some (ptr0 M.hb) := cell_blk h.box 1
  have fzM := frozen_blk h.box (2 + i)
  have GN := fun W (hm : MgR O B0 B W { M with cl := updC M.cl i none }) => Lib.hid (hsNow_any hm.hs hs)
  have HF := fun v hm => Lib.hid (hF v hm)
  have hiI : (i : Int) < 8 := by omega
  have HM1 := Lib.hid M1
  have HB1 := Lib.hid hb1
  have HK1 := Lib.hid hk1
  generalize hcl : updC M.cl i none = cl at *
  have HCL := Lib.hid hcl
  clear hcl M1 hb1 hk1 ho1 h hF
  have hne1 : ¬ (1 : Nat) = 2 + i := by omega
  go_enter Tryz.func37, Tryz.ntmps37
  go_wp2_with fail
  generalize w.setCell ⟨M.mb, 2 + i, none⟩ (.pointer none) = w1 at *
  refine (GN _ HM1.out).out.mono ?_; rintro e w2 ⟨rfl, hb2⟩
  have M2 := HM1.out.below hb2
  clear c1 ci fzM
  have c2 : w2.cell? ⟨M.mb, 2, none⟩ = some (dlP (cl 0)) := cell_blk M2.box 2
  have c3 : w2.cell? ⟨M.mb, 3, none⟩ = some (dlP (cl 1)) := cell_blk M2.box 3
  have c4 : w2.cell? ⟨M.mb, 4, none⟩ = some (dlP (cl 2)) := cell_blk M2.box 4
  have c5 : w2.cell? ⟨M.mb, 5, none⟩ = some (dlP (cl 3)) := cell_blk M2.box 5
  have c6 : w2.cell? ⟨M.mb, 6, none⟩ = some (dlP (cl 4)) := cell_blk M2.box 6
  have c7 : w2.cell? ⟨M.mb, 7, none⟩ = some (dlP (cl 5)) := cell_blk M2.box 7
  have c8 : w2.cell? ⟨M.mb, 8, none⟩ = some (dlP (cl 6)) := cell_blk M2.box 8
  have c9 : w2.cell? ⟨M.mb, 9, none⟩ = some (dlP (cl 7)) := cell_blk M2.box 9
  have HM2 := Lib.hid M2
  have HB2 := Lib.hid (lowTr HB1.out (Below.low hb2 (Nat.le_trans (Nat.le_trans hB0B hwB) HB1.out.size)))
  have HK2 := Lib.hid (HK1.out.trans (KeepR.of_below hb2))
  clear M2 hb2 HM1 HB1 HK1 GN hne1 hiI
  go_wp2_with fail
  have IX := fun W => idx8 (dlP (cl 0)) (dlP (cl 1)) (dlP (cl 2)) (dlP (cl 3)) (dlP (cl 4)) (dlP (cl 5)) (dlP (cl 6)) (dlP (cl 7)) W (fun k => dlP (cl k)) rfl rfl rfl rfl rfl rfl rfl rfl
  have HIX := Lib.hid IX
  clear IX c2 c3 c4 c5 c6 c7 c8 c9
  go_loopw [4, 21] (fun ov iv wr => ∃ k : Nat, k ≤ 8 ∧ ov = .int .u64 ((oldK cl (M.g + M.n) k : Nat) : Int) ∧ iv = .int .i64 (k : Int) ∧ wr = w2) (fun _ iv _ => 8 - (intOf iv).toNat)
  case atStart => exact ⟨0, by omega, by show _ = Value.int .u64 ((M.g + M.n : Nat) : Int); rw [Int.natCast_add], rfl, rfl⟩
  case round =>
    obtain ⟨k, hk, rfl, rfl, rfl⟩ := hrel
    have kwk : IntKind.i64.wrap ((k : Int) + 1) = (k : Int) + 1 := by rw [IntKind.wrap_i64]; omega
    by_cases hk8 : k < 8
    · have hkI : (k : Int) < 8 := by omega
      have ix := fun W => HIX.out W k hk8
      cases hck : cl k with
      | none =>
        have e0 : dlP (cl k) = .pointer none := by rw [hck]; rfl
        simp only [e0] at ix
        have hold : oldK cl (M.g + M.n) (k + 1) = oldK cl (M.g + M.n) k := by show (match cl k with | none => _ | some D => _) = _; rw [hck]
        have HOLD := Lib.hid hold
        clear hold hck e0
        go_wp2_with fail
        exact ⟨⟨k + 1, by omega, by rw [HOLD.out], by go_num, by trivial⟩, by simp [intOf]; omega⟩
      | some D =>
        have e0 : dlP (cl k) = ptr0 D.b := by rw [hck]; rfl
        simp only [e0] at ix
        have hold : oldK cl (M.g + M.n) (k + 1) = min (oldK cl (M.g + M.n) k) D.since := by show (match cl k with | none => _ | some D => _) = _; rw [hck]
        have HOLD := Lib.hid hold
        have d1 : wr.cell? ⟨D.b, 1, none⟩ = some (.int .u64 (D.since : Int)) := cell_blk (HM2.out.dl k D hck).box 1
        clear hold hck e0
        go_wp2_with fail
        exact ⟨⟨k + 1, by omega, by rw [HOLD.out]; congr 1; omega, by go_num, by trivial⟩, by simp [intOf]; omega⟩
    · obtain rfl : k = 8 := by omega
      have cH : wr.cell? ⟨M.mb, 1, none⟩ = some (ptr0 M.hb) := cell_blk HM2.out.box 1
      go_wp2_with fail
      refine (HF _ HM2.out).out.mono ?_; rintro e w3 ⟨rfl, hR⟩
      go_wp2_with fail
      first | go_end0 | refine bodyPost_ret (results_none rfl _ _ _) rfl ?_
      exact ⟨rfl, _, by rw [HCL.out]; exact HM2.out, HB2.out, HK2.out, hR⟩
end Go.Proofs.YthiimpleljaimaaGreatDoor

/- Package txn: commits. -/
namespace Go.Proofs.YthiimpleljaimaaGreatDoor
open Go Go.RowKit Flo
attribute [local go_sem] run_store_complex

/-- The store took what was put. -/
theorem MgR.putT {O : Nat → Prop} {B0 B : Nat} {w w' : World} {M : MgV} (h : MgR O B0 B w M) {T' : StV} (hst : StR O B w' T') (hTB : T'.TB = M.T.TB) (ho : Out (stO O M.T) w w') (hsh : ∀ k, shO O T'.H k → shO O M.T.H k) : MgR O B0 B w' { M with T := T' } := by
  have nt : ∀ {t : TypeId} {k : Nat} {cs : Array Value} {f : Nat × Nat}, t ≠ 124 → t ≠ 188 → t ≠ 190 → B ≤ k → w.heap[k]? = some (.cells cs t f) → ¬ stO O M.T k := by
    rintro t k cs f h1 h2 h3 hB hx (e | e)
    · have := h.st.lim k e
      omega
    · exact h.st.notOwn hx h1 h2 h3 e
  have sp : ∀ t, t ≠ 124 → t ≠ 188 → t ≠ 190 → Spare (stO O M.T) w B t := fun t h1 h2 h3 k cs f hB hx => nt h1 h2 h3 hB hx
  refine { h with box := ?_, st := hst, hs := ho.blk h.hs (nt (by decide) (by decide) (by decide) h.hb h.hs), dl := fun i D hd => ?_, lo := fun k hk => h.lo k (hsh k hk) }
  · have e : ({ M with T := T' } : MgV).cells = M.cells := by
      unfold MgV.cells StV.ptr
      simp only [hTB]
    rw [e]
    exact ho.blk h.box (nt (by decide) (by decide) (by decide) h.mb h.box)
  · have hD := h.dl i D hd
    exact hD.outQ ho (nt (by decide) (by decide) (by decide) hD.hb hD.box) (nt (by decide) (by decide) (by decide) hD.dk.hb hD.dk.box) (nt (by decide) (by decide) (by decide) hD.dk.vw.hb hD.dk.vw.box) (sp _ (by decide) (by decide) (by decide)) (sp _ (by decide) (by decide) (by decide))
/-- The history is written. -/
theorem MgR.histC {O : Nat → Prop} {B0 B : Nat} {w w' : World} {M : MgV} (h : MgR O B0 B w M) (ho : Out (· = M.hb) w w') {g n c : Nat} {A : Option Addr} (hs : HsR w' M.hb g A n c) : MgR O B0 B w' { M with g := g, A := A, n := n, c := c } := by
  have sp : ∀ t, t ≠ 138 → Spare (· = M.hb) w B t := fun t ht => spare_of h.hs ht
  refine { h with box := ho.blk h.box (ne_type h.box h.hs (by decide)), st := h.st.outQ ho (fun k hk => by rw [hk]; exact h.hb) (sp _ (by decide)) (sp _ (by decide)) (sp _ (by decide)) (sp _ (by decide)) (map_ne h.st.map h.hs), hs := hs, dl := fun i D hd => ?_ }
  have hD := h.dl i D hd
  exact hD.outQ ho (ne_type hD.box h.hs (by decide)) (ne_type hD.dk.box h.hs (by decide)) (ne_type hD.dk.vw.box h.hs (by decide)) (sp _ (by decide)) (sp _ (by decide))
set_option maxHeartbeats 8000000 in
set_option maxRecDepth 100000 in
/-- What came since clashes. -/
theorem txCommits_clash {O : Nat → Prop} {B0 B : Nat} {w : World} {M : MgV} (h : MgR O B0 B w M) {i : Nat} {D : DlV} (hc : M.cl i = some D) {lg wg n wc : Nat} {p : Pair} (hg : M.g = 0) (hA : M.A = some ⟨lg, 0, none⟩) (hn : M.n = 1) (hlc : 1 ≤ M.c) (hl : HsL B w lg wg n wc p) (hn0 : 0 < n) (hsi : D.since = 0) (hrg : D.V.rg = .slice none 0 0) (hs : D.V.reads.size ≤ 100000) (ps : List Pair) (pv : ByteArray) (hps : inT D.V.reads = ⟨p.key, pv, false⟩ :: ps) :
    Makes 38 #[M.ptr, ptr0 D.b] w (i64 24) := by
  have hD := h.dl i D hc
  have GV := Lib.hid (dkView_any hD.dk)
  have hh := h.hs
  rw [hg, hA, hn] at hh
  have hlgt : lg < w.heap.size := by
    obtain ⟨cs, f, hx⟩ := hl.l
    exact (Array.getElem?_eq_some_iff.1 hx).1
  have GC := fun q : OnOf w => Lib.hid (hsClash_yes ((q.h.block M.hb (Array.getElem?_eq_some_iff.1 hh).1).trans hh) (by omega) (by omega) hlc ((q.h.cell (p := ⟨lg, 0, none⟩) hlgt).trans hl.c) (Nat.lt_of_lt_of_le hlgt q.h.size) (hl.p.below q.h) hn0 (hD.dk.vw.below q.h) hrg hs ps pv hps)
  have hlm := h.lt
  have hld := (Array.getElem?_eq_some_iff.1 hD.box).1
  have c1 : w.cell? ⟨M.mb, 1, none⟩ = some (ptr0 M.hb) := cell_blk h.box 1
  have d0 : w.cell? ⟨D.b, 0, none⟩ = some (ptr0 D.db) := cell_blk hD.box 0
  have d1 : w.cell? ⟨D.b, 1, none⟩ = some (.int .u64 0) := by
    have := cell_blk hD.box 1
    rw [hsi] at this
    exact this
  have d2 : w.cell? ⟨D.b, 2, none⟩ = some (.bool false) := cell_blk hD.box 2
  have q1 := fun p : OnOf w => on_cell hlm c1 p
  have e1 := fun p : OnOf w => on_cell hld d1 p
  clear h hD hh hl hg hA hn hsi hrg hs hps hn0
  go_enter Tryz.func38, Tryz.ntmps38
  go_wp2_with fail
  refine GV.out.mono ?_; rintro e w1 ⟨rfl, rfl⟩
  go_wp2_with fail
  refine wp_region_quiet_on (by kernel_rfl) (by kernel_rfl) ?_
  repeat ((with_reducible refine wpQuiet_step (fun K hK => ?_)); go_simp; first | ((with_reducible refine hK _ ?_); clear hK K) | (rw [if_neg (by intro h; cases h)]; (with_reducible refine hK _ ?_); clear hK K) | (apply Exists.intro; refine ⟨fun _ => ?_, hK _ ?_⟩; (first | (with_reducible exact on_of (GC _).out)); clear hK K))
  with_reducible refine wpQuiet_nil ?_
  intro _ hw'
  obtain ⟨pq, hw''⟩ := hw'
  subst hw''
  go_wp2_with fail
  go_ret
  exact ⟨rfl, pq.h⟩
end Go.Proofs.YthiimpleljaimaaGreatDoor

/- Package txn: commits, what is taken. -/
namespace Go.Proofs.YthiimpleljaimaaGreatDoor
open Go Go.RowKit Flo
attribute [local go_sem] run_store_complex

theorem own_outQ {Q : Nat → Prop} {w w' : World} {base : Nat} {e : TypeId} {size n : Nat} {v : Value} {xs : List Value} (h : w.ownsRow base e size v n xs) (ho : Out Q w w') (hq : ∀ g, v.ownBlock = some g → ¬ Q g) : w'.ownsRow base e size v n xs := by
  refine ⟨h.1, ?_⟩
  rcases h.2 with hn | ⟨g, cap, cur, e, hbg, hgg, rest⟩
  · exact .inl hn
  · exact .inr ⟨g, cap, cur, e, hbg, ho.blk hgg (hq g (by rw [e]; rfl)), rest⟩
theorem rowsFlat (l : List Pair) : (l.map Pair.row).flatten = l.flatMap Pair.row := by rw [List.flatMap_def]
/-- What Put comes to, where it takes what it is given. -/
def PutPost (O : Nat → Prop) (B : Nat) (T : StV) (W : World) (e : Ending) (w' : World) : Prop :=
  e = .returned (i64 0) ∧ ∃ T' : StV, StR O B w' T' ∧ T'.TB = T.TB ∧ Out (stO O T) W w' ∧ T'.N.off = false ∧ T'.offs = T'.N.offs ∧ ∀ k, shO O T'.H k → shO O T.H k
set_option maxHeartbeats 16000000 in
set_option maxRecDepth 100000 in
theorem txCommits_ok {O : Nat → Prop} {B0 B : Nat} {w : World} {M : MgV} (h : MgR O B0 B w M) {i : Nat} {D : DlV} (hc : M.cl i = some D) (hg : M.g = 0) (hA : M.A = none) (hn : M.n = 0) (hcc : M.c = 0) (hsi : D.since = 0) (hs : D.V.writes.size ≤ 100000)
    (hm : ∀ p ∈ inT D.V.writes, 0 < p.value.size ∧ p.value.size ≤ 1000000 ∧ p.gone = false) {p : Pair} {ps : List Pair} (hps : (inT D.V.writes).map unmark = p :: ps)
    (HP : ∀ W g c, Below w.heap.size w W → w.heap.size ≤ g → Pairs W (.slice (some ⟨g, 0, none⟩) (p :: ps).length c) (p :: ps) → Calls Tryz.prog 67 #[M.T.ptr, .slice (some ⟨g, 0, none⟩) (p :: ps).length c] W (PutPost O B M.T W)) :
    Calls Tryz.prog 38 #[M.ptr, ptr0 D.b] w fun e w' => e = .returned (i64 0) ∧ ∃ T' lg lc wg n wc, MgR O B0 B w' { M with T := T', g := 0, A := some ⟨lg, 0, none⟩, n := 1, c := lc } ∧ 1 ≤ lc ∧ HsL B w' lg wg n wc p ∧ 0 < n ∧ T'.N.off = false ∧ T'.offs = T'.N.offs ∧ Below B0 w w' ∧ KeepR B w.heap.size w w' := by
  have hD := h.dl i D hc
  have GV := Lib.hid (dkView_any hD.dk)
  have hh := h.hs
  rw [hg, hA, hn, hcc] at hh
  have hlh := (Array.getElem?_eq_some_iff.1 hh).1
  have hlen : D.V.writes.size = (p :: ps).length := by rw [← inT_len, ← hps, List.length_map]
  have GC := fun (q : OnOf w) (v : Value) => Lib.hid (hsClash_none ((q.h.block M.hb hlh).trans hh) (by omega) 0 (by omega) v)
  have GW := fun W (hb : Below w.heap.size w W) => Lib.hid (vwWrites_any (hD.dk.vw.below hb) hs hm)
  rw [hps, hlen] at GW
  have hlm := h.lt
  have hld := (Array.getElem?_eq_some_iff.1 hD.box).1
  have c0 : w.cell? ⟨M.mb, 0, none⟩ = some M.T.ptr := cell_blk h.box 0
  have c1 : w.cell? ⟨M.mb, 1, none⟩ = some (ptr0 M.hb) := cell_blk h.box 1
  have d0 : w.cell? ⟨D.b, 0, none⟩ = some (ptr0 D.db) := cell_blk hD.box 0
  have d1 : w.cell? ⟨D.b, 1, none⟩ = some (.int .u64 0) := by
    have := cell_blk hD.box 1
    rw [hsi] at this
    exact this
  have d2 : w.cell? ⟨D.b, 2, none⟩ = some (.bool false) := cell_blk hD.box 2
  have q1 := fun p : OnOf w => on_cell hlm c1 p
  have e1 := fun p : OnOf w => on_cell hld d1 p
  have hl100 : (p :: ps).length ≤ 100000 := by rw [← hlen]; exact hs
  have hpos : 0 < (p :: ps).length := by simp
  have HP := fun W g c a b d => Lib.hid (HP W g c a b d)
  have H := Lib.hid h
  have HH := Lib.hid hh
  have hB0B := h.le
  have hwB := h.st.base
  clear h hD hh hg hA hn hcc hsi hs hm hps hlen
  go_enter Tryz.func38, Tryz.ntmps38
  go_wp2_with fail
  refine GV.out.mono ?_; rintro e w1 ⟨rfl, rfl⟩
  go_wp2_with fail
  refine wp_region_quiet_on (by kernel_rfl) (by kernel_rfl) ?_
  repeat ((with_reducible refine wpQuiet_step (fun K hK => ?_)); go_simp; first | ((with_reducible refine hK _ ?_); clear hK K) | (rw [if_neg (by intro h; cases h)]; (with_reducible refine hK _ ?_); clear hK K) | (apply Exists.intro; refine ⟨fun _ => ?_, hK _ ?_⟩; (first | (with_reducible exact on_of (GC _ _).out)); clear hK K))
  with_reducible refine wpQuiet_nil ?_
  intro _ hw'
  obtain ⟨pq, hw''⟩ := hw'
  subst hw''
  go_wp2_with fail
  refine (GW _ pq.h).out.mono ?_; rintro e w2 ⟨u, rfl, hown, hb2⟩
  have hb3 := Base.tr pq.h hb2
  have hpz := pq.h.size
  generalize hpl : p :: ps = l at *
  obtain ⟨g, c, rfl⟩ : ∃ g c, u = .slice (some ⟨g, 0, none⟩) l.length c := by
    rcases hown.2 with ⟨h1, h2⟩ | ⟨g', c', _, h1, _⟩
    · omega
    · exact ⟨_, _, h1⟩
  have hgl := (hown.lt g rfl)
  have c0' := (hb3.cell (p := ⟨M.mb, 0, none⟩) hlm).trans c0
  have nz : ((l.length : Int) == 0) = false := by rw [beq_eq_false_iff_ne]; omega
  have HOW := Lib.hid hown
  have HB3 := Lib.hid hb3
  clear GW GC q1 e1 c0 c1 d0 d1 d2 hown hb2
  go_wp2_with fail
  have hpr : Pairs w2 (.slice (some ⟨g, 0, none⟩) l.length c) l := Sl.own (l.map Pair.row) (by intro y hy; obtain ⟨q, _, rfl⟩ := List.mem_map.1 hy; rfl) (by rw [List.length_map, rowsFlat]; exact HOW.out)
  have M2 := H.out.below HB3.out
  have hgT : w2.heap[g]? ≠ none ∧ ∃ cs f, w2.heap[g]? = some (.cells cs 71 f) := by
    rcases HOW.out.2 with ⟨h1, h2⟩ | ⟨g', c', cs, h1, _, hgg, _⟩
    · omega
    · simp only [Value.slice.injEq, Option.some.injEq, Addr.mk.injEq, and_true, true_and] at h1
      obtain ⟨rfl, rfl⟩ := h1
      exact ⟨by rw [hgg]; simp, _, _, hgg⟩
  refine (HP w2 g c HB3.out (by omega) hpr).out.mono ?_
  rintro e w3 ⟨rfl, T', hst3, hTB, ho3, hof3, hoff3, hsh3⟩
  have nt : ∀ {t : TypeId} {k : Nat} {cs : Array Value} {f : Nat × Nat}, t ≠ 124 → t ≠ 188 → t ≠ 190 → B ≤ k → w2.heap[k]? = some (.cells cs t f) → ¬ stO O M.T k := by
    rintro t k cs f h1 h2 h3 hB hx (e | e)
    · have := M2.st.lim k e
      omega
    · exact M2.st.notOwn hx h1 h2 h3 e
  have M3 := M2.putT hst3 hTB ho3 hsh3
  have hk3 : KeepR B w1.heap.size w2 w3 := KeepR.of_not ho3 (by
    rintro k cs t f hkB ht hy (e | e)
    · have := M2.st.lim k e
      omega
    · exact M2.st.notOwn hy (kept_ne ht (by decide)) (kept_ne ht (by decide)) (kept_ne ht (by decide)) e)
  have hown3 := own_outQ HOW.out ho3 (fun j hj => by
    obtain rfl : g = j := Option.some.inj hj
    obtain ⟨_, cs, f, hx⟩ := hgT
    have hBg : B ≤ g := by omega
    exact nt (by decide) (by decide) (by decide) hBg hx)
  have hh2 : HsR w2 M.hb 0 none 0 0 := blk_below HH.out HB3.out
  have hh3 := ho3.blk hh2 (nt (by decide) (by decide) (by decide) M2.hb hh2)
  rw [← hpl] at hown3
  have GA := Lib.hid (hsAdd_first hh3 hown3 (by rw [hpl]; exact hpos) (by rw [hpl]; exact hl100))
  rw [hpl] at GA
  have c1 : w3.cell? ⟨M.mb, 1, none⟩ = some (ptr0 M.hb) := cell_blk M3.box 1
  have hz3 := ho3.size
  have HB4 := Lib.hid (lowTr (Below.low HB3.out (Nat.le_trans hB0B hwB)) (ho3.base (by
    rintro k (e | e)
    · exact M2.lo k e
    · rcases e with e | e | e | ⟨y, hy, e⟩
      · rw [e]; exact Nat.le_trans hB0B M2.st.tb
      · rw [e]; exact Nat.le_trans hB0B M2.st.mb
      · exact Nat.le_trans hB0B (M2.st.own.lt k e).1
      · rw [e]; exact Nat.le_trans hB0B (M2.st.nt y hy).2) (by have := HB3.out.size; omega)))
  have HM3 := Lib.hid M3
  have HK3 := Lib.hid ((KeepR.of_below HB3.out (B := B) (n := w1.heap.size)).trans hk3)
  have HF3 := Lib.hid (And.intro hof3 hoff3)
  have HZ3 := Lib.hid (Nat.le_trans HB3.out.size hz3)
  clear hown3 hh2 hh3 M3 hk3 hof3 hoff3 hsh3 ho3 hst3 nt hgT M2 hpr hTB c0' hpl HP hz3
  go_wp2_with fail
  refine GA.out.mono ?_; rintro e w4 ⟨rfl, lg, lc, wg, wc, hs4, hlc, hcl, h1, h2, h3, hw4, hT1, hT2, ho4⟩
  have M4 := HM3.out.histC ho4 hs4
  have HM4 := Lib.hid M4
  have hwz := HZ3.out
  have HL4 : Hid (HsL B w4 lg wg l.length wc p) := Lib.hid ⟨hT1, hT2, hcl, hw4, by omega, by omega⟩
  have HK4 := Lib.hid (HK3.out.trans (KeepR.of_type ho4 HM3.out.hs (by decide)))
  have HB5 := Lib.hid (lowTr HB4.out (ho4.base (fun k hk => by rw [hk]; exact Nat.le_trans hB0B HM3.out.hb) (by omega)))
  clear M4 hs4 hcl hw4 hT1 hT2 ho4 GA HM3 HB4 HK3 c1
  go_wp2_with fail
  go_ret
  exact ⟨rfl, _, lg, lc, wg, l.length, wc, HM4.out, hlc, HL4.out, hpos, HF3.out.1, HF3.out.2, HB5.out, HK4.out⟩
end Go.Proofs.YthiimpleljaimaaGreatDoor

/- Package txn: Do, a client commits. -/
namespace Go.Proofs.YthiimpleljaimaaGreatDoor
open Go Go.RowKit Flo
attribute [local go_sem] run_store_complex

theorem HsL.outOne {B : Nat} {w w' : World} {lg wg n wc k : Nat} {p : Pair} {cs0 : Array Value} {t : TypeId} {f0 : Nat × Nat} (h : HsL B w lg wg n wc p) (hx : w.heap[k]? = some (.cells cs0 t f0)) (ho : Out (· = k) w w') (t1 : 150 ≠ t) (t2 : 71 ≠ t) : HsL B w' lg wg n wc p := by
  obtain ⟨⟨cs, f, h1⟩, ⟨cs2, f2, h2⟩, h3, h4, h5, h6⟩ := h
  have g1 := ho.blk h1 (ne_type h1 hx t1)
  have g2 := ho.blk h2 (ne_type h2 hx t2)
  have e1 : w'.heap[lg]? = w.heap[lg]? := by rw [g1, h1]
  have e2 : w'.heap[wg]? = w.heap[wg]? := by rw [g2, h2]
  exact ⟨⟨cs, f, g1⟩, ⟨cs2, f2, g2⟩, (cell_same e1).trans h3, ⟨(cell_same e2).trans h4.c0, (cell_same e2).trans h4.c1, (cell_same e2).trans h4.c2, Nat.lt_of_lt_of_le h4.lt ho.size⟩, h5, h6⟩
set_option maxHeartbeats 16000000 in
set_option maxRecDepth 100000 in
theorem txDo_commit {O : Nat → Prop} {B0 B : Nat} {w : World} {M : MgV} (h : MgR O B0 B w M) (hon : M.T.N.off = false) (hof : M.T.offs = M.T.N.offs) {i : Nat} (hi : i < 8) {D : DlV} (hc : M.cl i = some D) (hg : M.g = 0) (hA : M.A = none) (hn : M.n = 0) (hcc : M.c = 0) (hsi : D.since = 0) (hs : D.V.writes.size ≤ 100000)
    (hm : ∀ p ∈ inT D.V.writes, 0 < p.value.size ∧ p.value.size ≤ 1000000 ∧ p.gone = false) {p : Pair} {ps : List Pair} (hps : (inT D.V.writes).map unmark = p :: ps)
    (HP : ∀ W g c, Below w.heap.size w W → w.heap.size ≤ g → Pairs W (.slice (some ⟨g, 0, none⟩) (p :: ps).length c) (p :: ps) → Calls Tryz.prog 67 #[M.T.ptr, .slice (some ⟨g, 0, none⟩) (p :: ps).length c] W (PutPost O B M.T W)) (hold : oldK (updC M.cl i none) 1 8 = 0) (path : ByteArray) :
    Calls Tryz.prog 11 #[M.ptr, .int .i64 (i : Int), opV 2 path] w fun e w' => e = .returned (resV 0) ∧ ∃ T' lg lc wg n wc, MgR O B0 B w' { M with T := T', cl := updC M.cl i none, g := 0, A := some ⟨lg, 0, none⟩, n := 1, c := lc } ∧ 1 ≤ lc ∧ HsL B w' lg wg n wc p ∧ 0 < n ∧ T'.N.off = false ∧ T'.offs = T'.N.offs ∧ Below B0 w w' := by
  obtain ⟨x1, hx1⟩ : ∃ W, W = ((w.alloc (.cells (opL 2 path).toArray 24)).alloc (.cells #[.int .i64 0, .int .i64 0, .slice none 0 0, .slice none 0 0, .int .u8 0, .int .u32 0, .int .u32 0, .int .u32 0] 44)) := ⟨_, rfl⟩
  have hb1 : Below w.heap.size w x1 := by rw [hx1]; exact Base.al (Base.al (Below.refl _ _) _) _
  have hO1 : x1.heap[w.heap.size]? = some (.cells (opL 2 path).toArray 24 (0, 0)) := by rw [hx1]; exact blk_old (blk_new w _)
  have hR1 : x1.heap[w.heap.size + 1]? = some (.cells (resL 0).toArray 44 (0, 0)) := by rw [hx1]; exact blk_new1 w _ _
  have GG := fun W (hb : Below w.heap.size w W) => Lib.hid (txGone_any (cell_blk (h.below hb).box 0) ⟨_, rfl⟩ (stGone_any (h.below hb).st hon hof))
  have GC := fun W (hb : Below w.heap.size w W) => Lib.hid (txCommits_ok (h.below hb) hc hg hA hn hcc hsi hs hm hps (fun V g c hV hgV hp => HP V g c (Base.tr hb hV) (Nat.le_trans hb.size hgV) hp))
  have GF := fun W => Lib.hid (txFailed_any 0 W)
  have H1 := Lib.hid h
  have HX := Lib.hid hx1
  have HC := Lib.hid hc
  have hwB := h.st.base
  have hB0B := h.le
  have ti1 : decide ((i : Int) < 0) = false := decide_eq_false (by omega)
  have ti2 : decide ((8 : Int) ≤ (i : Int)) = false := decide_eq_false (by omega)
  have GE := fun T' lg lc W (hm : MgR O B0 B W { M with T := T', g := 0, A := some ⟨lg, 0, none⟩, n := 1, c := lc }) => Lib.hid (txEnds_any hm hi (by show 0 + 1 ≤ 1000000; decide) (fun v w' => Below v.heap.size v w') (by
    intro v hv
    have := hsForget_none hv.hs (by show 1 ≤ 1000000; decide)
    rw [show (0 + 1 : Nat) = 1 from rfl, hold]
    exact this))
  clear h hon hof hc hg hA hn hcc hsi hs hm hps HP hold
  go_enter Tryz.func11, Tryz.ntmps11
  go_wp2_with fail
  rw [← HX.out]
  clear HX hx1
  refine (GG _ hb1).out.mono ?_; rintro e w1 ⟨rfl, hb2⟩
  have hb3 := Base.tr hb1 hb2
  have M1 := H1.out.below hb3
  have hO2 := blk_below hO1 hb2
  have hR2 := blk_below hR1 hb2
  have ci := M1.client hi
  rw [HC.out] at ci
  unfold dlP at ci
  have k0 : w1.cell? ⟨w.heap.size, 0, none⟩ = some (.int .u8 2) := cell_blk hO2 0
  have HR2 := Lib.hid hR2
  have HB3 := Lib.hid (Below.low hb3 (Nat.le_trans hB0B hwB))
  have HM1 := Lib.hid M1
  have hlR := (Array.getElem?_eq_some_iff.1 hR2).1
  clear hb1 hb2 hO1 hR1 GG hO2 hR2 M1
  go_wp2_with fail
  refine (GC _ hb3).out.mono ?_; rintro e w4 ⟨rfl, T', lg, lc, wg, n, wc, hM4, hlc, hL4, hn4, hof4, hoff4, hb4, hk4⟩
  have hR4 := hk4.res (by omega) hlR HR2.out
  have HR4 := Lib.hid hR4
  have HB4 := Lib.hid (lowTr HB3.out hb4)
  have HL4 := Lib.hid hL4
  have HF4 := Lib.hid (And.intro hof4 hoff4)
  have hlR4 := (Array.getElem?_eq_some_iff.1 hR4).1
  have GE4 := GE T' lg lc w4 hM4
  unfold EndsPost at GE4
  clear hb4 hk4 hR4 hL4 hof4 hoff4 hM4 GE GC ci k0
  go_wp2_with fail
  refine GE4.out.mono ?_; rintro e w5 ⟨rfl, v, hMv, hbv, hkv, hb5⟩
  have HM5 := Lib.hid (hMv.below hb5)
  have hkv5 := hkv.trans (KeepR.of_below hb5)
  have HB5 := Lib.hid (lowTr HB4.out (lowTr hbv (Below.low hb5 (Nat.le_trans (Nat.le_trans hB0B hwB) (Nat.le_trans HB4.out.size hbv.size)))))
  have HR5 := Lib.hid (hkv5.res (by omega) hlR4 HR4.out)
  have HL5 := Lib.hid (HL4.out.keep hkv5 (Nat.le_refl _) (Nat.le_trans hbv.size hb5.size))
  clear hMv hbv hkv hb5 hkv5 GE4 HL4 HR4 HB4
  go_wp2_with fail
  refine (GF _).out.mono ?_; rintro e w6 ⟨rfl, hb6⟩
  have hR6 := blk_below HR5.out hb6
  have z0 := cell_blk hR6 0
  have z1 := cell_blk hR6 1
  have z2 := cell_blk hR6 2
  have z3 := cell_blk hR6 3
  have z4 := cell_blk hR6 4
  have z5 := cell_blk hR6 5
  have z6 := cell_blk hR6 6
  have z7 := cell_blk hR6 7
  have fz := fun o => frozen_blk hR6 o
  have hl6 := (Array.getElem?_eq_some_iff.1 hR6).1
  simp at z0 z1 z2 z3 z4 z5 z6 z7
  have HR6 := Lib.hid hR6
  have HB6 := Lib.hid (lowTr HB5.out (Below.low hb6 (Nat.le_trans (Nat.le_trans hB0B hwB) HB5.out.size)))
  have HM6 := Lib.hid (HM5.out.below hb6)
  have HL6 := Lib.hid (HL5.out.keep (n' := w5.heap.size) (KeepR.of_below hb6) (Nat.le_refl _) hb6.size)
  clear hR6 HR5 HB5 HM5 HL5 hb6 GF
  go_wp2_with fail
  have hs4 : ((((((((w6.setCell ⟨w.heap.size + 1, 0, none⟩ (.int .i64 0)).setCell ⟨w.heap.size + 1, 1, none⟩ (.int .i64 0)).setCell ⟨w.heap.size + 1, 2, none⟩ (.slice none 0 0)).setCell ⟨w.heap.size + 1, 3, none⟩ (.slice none 0 0)).setCell ⟨w.heap.size + 1, 4, none⟩ (.int .u8 0)).setCell ⟨w.heap.size + 1, 5, none⟩ (.int .u32 0)).setCell ⟨w.heap.size + 1, 6, none⟩ (.int .u32 0)).setCell ⟨w.heap.size + 1, 7, none⟩ (.int .u32 0)) = sets w6 (w.heap.size + 1) 0 (resL 0) := rfl
  rw [hs4]
  clear hs4
  have hR4 := sets_at HR6.out (resL 0) rfl
  have ho4 : Out (· = w.heap.size + 1) w6 (sets w6 (w.heap.size + 1) 0 (resL 0)) := Out.of_sets (Q := (· = w.heap.size + 1)) w6 rfl _ 0
  generalize sets w6 (w.heap.size + 1) 0 (resL 0) = w4 at *
  have r0 : w4.cell? ⟨w.heap.size + 1, 0, none⟩ = some (i64 (0 : Nat)) := cell_blk hR4 0
  have r1 : w4.cell? ⟨w.heap.size + 1, 1, none⟩ = some (.int .i64 0) := cell_blk hR4 1
  have r2 : w4.cell? ⟨w.heap.size + 1, 2, none⟩ = some (.slice none 0 0) := cell_blk hR4 2
  have r3 : w4.cell? ⟨w.heap.size + 1, 3, none⟩ = some (.slice none 0 0) := cell_blk hR4 3
  have r4 : w4.cell? ⟨w.heap.size + 1, 4, none⟩ = some (.int .u8 0) := cell_blk hR4 4
  have r5 : w4.cell? ⟨w.heap.size + 1, 5, none⟩ = some (.int .u32 0) := cell_blk hR4 5
  have r6 : w4.cell? ⟨w.heap.size + 1, 6, none⟩ = some (.int .u32 0) := cell_blk hR4 6
  have r7 : w4.cell? ⟨w.heap.size + 1, 7, none⟩ = some (.int .u32 0) := cell_blk hR4 7
  have hMz := HM6.out.outOne HR6.out (by omega) ho4 (by decide)
  have hLz := HL6.out.outOne HR6.out ho4 (by decide) (by decide)
  exact bodyPost_ret (v := resV 0) (by simp [results, Tryz.results11, go_sem, r0, r1, r2, r3, r4, r5, r6, r7]) rfl ⟨rfl, T', lg, lc, wg, n, wc, hMz, hlc, hLz, hn4, HF4.out.1, HF4.out.2, lowTr HB6.out (ho4.base (fun k hk => by rw [hk]; omega) (Nat.le_trans (Nat.le_trans hB0B hwB) HB6.out.size))⟩
end Go.Proofs.YthiimpleljaimaaGreatDoor

/- Package txn: Do, a client's commit that clashes. -/
namespace Go.Proofs.YthiimpleljaimaaGreatDoor
open Go Go.RowKit Flo
attribute [local go_sem] run_store_complex

set_option maxHeartbeats 16000000 in
set_option maxRecDepth 100000 in
theorem txDo_clash {O : Nat → Prop} {B0 B : Nat} {w : World} {M : MgV} (h : MgR O B0 B w M) (hon : M.T.N.off = false) (hof : M.T.offs = M.T.N.offs) {i : Nat} (hi : i < 8) {D : DlV} (hc : M.cl i = some D) {lg wg n wc : Nat} {p : Pair} (hg : M.g = 0) (hA : M.A = some ⟨lg, 0, none⟩) (hn : M.n = 1) (hlc : 1 ≤ M.c) (hl : HsL B w lg wg n wc p) (hn0 : 0 < n) (hsi : D.since = 0) (hrg : D.V.rg = .slice none 0 0) (hs : D.V.reads.size ≤ 100000) (ps : List Pair) (pv : ByteArray) (hps : inT D.V.reads = ⟨p.key, pv, false⟩ :: ps) (hold : oldK (updC M.cl i none) 1 8 = 1) (path : ByteArray) :
    Calls Tryz.prog 11 #[M.ptr, .int .i64 (i : Int), opV 2 path] w fun e w' => e = .returned (resV 24) ∧ Below B0 w w' := by
  obtain ⟨x1, hx1⟩ : ∃ W, W = ((w.alloc (.cells (opL 2 path).toArray 24)).alloc (.cells #[.int .i64 0, .int .i64 0, .slice none 0 0, .slice none 0 0, .int .u8 0, .int .u32 0, .int .u32 0, .int .u32 0] 44)) := ⟨_, rfl⟩
  have hb1 : Below w.heap.size w x1 := by rw [hx1]; exact Base.al (Base.al (Below.refl _ _) _) _
  have hO1 : x1.heap[w.heap.size]? = some (.cells (opL 2 path).toArray 24 (0, 0)) := by rw [hx1]; exact blk_old (blk_new w _)
  have hR1 : x1.heap[w.heap.size + 1]? = some (.cells (resL 0).toArray 44 (0, 0)) := by rw [hx1]; exact blk_new1 w _ _
  have GG := fun W (hb : Below w.heap.size w W) => Lib.hid (txGone_any (cell_blk (h.below hb).box 0) ⟨_, rfl⟩ (stGone_any (h.below hb).st hon hof))
  have GC := fun W (hb : Below w.heap.size w W) => Lib.hid (txCommits_clash (h.below hb) hc hg hA hn hlc (hl.keep (n' := w.heap.size) (KeepR.of_below hb) (Nat.le_refl _) hb.size) hn0 hsi hrg hs ps pv hps)
  have GF := fun W => Lib.hid (txFailed_any 24 W)
  have H1 := Lib.hid h
  have HX := Lib.hid hx1
  have HC := Lib.hid hc
  have hwB := h.st.base
  have hB0B := h.le
  have ti1 : decide ((i : Int) < 0) = false := decide_eq_false (by omega)
  have ti2 : decide ((8 : Int) ≤ (i : Int)) = false := decide_eq_false (by omega)
  have GE := fun W (hb : Below w.heap.size w W) => Lib.hid (txEnds_any (h.below hb) hi (by omega) (fun v w' => Out (· = M.hb) v w') (by
    intro v hv
    have hv1 := hv.hs
    simp only [hg, hA, hn] at hv1
    have := hsForget_first hv1
    rw [hg, hn, show (0 + 1 : Nat) = 1 from rfl, hold]
    exact this))
  have hhB := h.hb
  have hht := h.hs
  clear h hon hof hc hg hA hn hlc hl hn0 hsi hrg hs hps hold
  go_enter Tryz.func11, Tryz.ntmps11
  go_wp2_with fail
  rw [← HX.out]
  clear HX hx1
  refine (GG _ hb1).out.mono ?_; rintro e w1 ⟨rfl, hb2⟩
  have hb3 := Base.tr hb1 hb2
  have M1 := H1.out.below hb3
  have hO2 := blk_below hO1 hb2
  have hR2 := blk_below hR1 hb2
  have ci := M1.client hi
  rw [HC.out] at ci
  unfold dlP at ci
  have k0 : w1.cell? ⟨w.heap.size, 0, none⟩ = some (.int .u8 2) := cell_blk hO2 0
  have HR2 := Lib.hid hR2
  have HB3 := Lib.hid (Below.low hb3 (Nat.le_trans hB0B hwB))
  have HM1 := Lib.hid M1
  have hlR := (Array.getElem?_eq_some_iff.1 hR2).1
  clear hb1 hb2 hO1 hR1 GG hO2 hR2 M1
  go_wp2_with fail
  refine (GC _ hb3).out.mono ?_; rintro e w4 ⟨rfl, hb4⟩
  have hb34 := Base.tr hb3 hb4
  have hR4 := blk_below HR2.out hb4
  have HB4 := Lib.hid (Below.low hb34 (Nat.le_trans hB0B hwB))
  have HR4 := Lib.hid hR4
  have hlR4 := (Array.getElem?_eq_some_iff.1 hR4).1
  have GE4 := GE w4 hb34
  have hht4 := blk_below hht hb34
  unfold EndsPost at GE4
  clear hb4 hR4 GE GC ci k0 hht hb34 hb3
  go_wp2_with fail
  refine GE4.out.mono ?_; rintro e w5 ⟨rfl, v, hMv, hbv, hkv, hov⟩
  have hkv5 := hkv.trans (KeepR.of_type hov hMv.hs (by decide))
  have HB5 := Lib.hid (lowTr HB4.out (lowTr hbv (hov.base (fun k hk => by rw [hk]; exact Nat.le_trans hB0B hhB) (Nat.le_trans (Nat.le_trans hB0B hwB) (Nat.le_trans HB4.out.size hbv.size)))))
  have HR5 := Lib.hid (hkv5.res (by omega) hlR4 HR4.out)
  clear hMv hbv hkv hov hkv5 GE4 HR4 HB4 hht4
  go_wp2_with fail
  refine (GF _).out.mono ?_; rintro e w6 ⟨rfl, hb6⟩
  have hR6 := blk_below HR5.out hb6
  have z0 := cell_blk hR6 0
  have z1 := cell_blk hR6 1
  have z2 := cell_blk hR6 2
  have z3 := cell_blk hR6 3
  have z4 := cell_blk hR6 4
  have z5 := cell_blk hR6 5
  have z6 := cell_blk hR6 6
  have z7 := cell_blk hR6 7
  have fz := fun o => frozen_blk hR6 o
  have hl6 := (Array.getElem?_eq_some_iff.1 hR6).1
  simp at z0 z1 z2 z3 z4 z5 z6 z7
  have HR6 := Lib.hid hR6
  have HB6 := Lib.hid (lowTr HB5.out (Below.low hb6 (Nat.le_trans (Nat.le_trans hB0B hwB) HB5.out.size)))
  clear hR6 HR5 HB5 hb6 GF
  go_wp2_with fail
  have hs4 : ((((((((w6.setCell ⟨w.heap.size + 1, 0, none⟩ (.int .i64 24)).setCell ⟨w.heap.size + 1, 1, none⟩ (.int .i64 0)).setCell ⟨w.heap.size + 1, 2, none⟩ (.slice none 0 0)).setCell ⟨w.heap.size + 1, 3, none⟩ (.slice none 0 0)).setCell ⟨w.heap.size + 1, 4, none⟩ (.int .u8 0)).setCell ⟨w.heap.size + 1, 5, none⟩ (.int .u32 0)).setCell ⟨w.heap.size + 1, 6, none⟩ (.int .u32 0)).setCell ⟨w.heap.size + 1, 7, none⟩ (.int .u32 0)) = sets w6 (w.heap.size + 1) 0 (resL 24) := rfl
  rw [hs4]
  clear hs4
  have hR4 := sets_at HR6.out (resL 24) rfl
  have ho4 : Out (· = w.heap.size + 1) w6 (sets w6 (w.heap.size + 1) 0 (resL 24)) := Out.of_sets (Q := (· = w.heap.size + 1)) w6 rfl _ 0
  generalize sets w6 (w.heap.size + 1) 0 (resL 24) = w4 at *
  have r0 : w4.cell? ⟨w.heap.size + 1, 0, none⟩ = some (i64 (24 : Nat)) := cell_blk hR4 0
  have r1 : w4.cell? ⟨w.heap.size + 1, 1, none⟩ = some (.int .i64 0) := cell_blk hR4 1
  have r2 : w4.cell? ⟨w.heap.size + 1, 2, none⟩ = some (.slice none 0 0) := cell_blk hR4 2
  have r3 : w4.cell? ⟨w.heap.size + 1, 3, none⟩ = some (.slice none 0 0) := cell_blk hR4 3
  have r4 : w4.cell? ⟨w.heap.size + 1, 4, none⟩ = some (.int .u8 0) := cell_blk hR4 4
  have r5 : w4.cell? ⟨w.heap.size + 1, 5, none⟩ = some (.int .u32 0) := cell_blk hR4 5
  have r6 : w4.cell? ⟨w.heap.size + 1, 6, none⟩ = some (.int .u32 0) := cell_blk hR4 6
  have r7 : w4.cell? ⟨w.heap.size + 1, 7, none⟩ = some (.int .u32 0) := cell_blk hR4 7
  exact bodyPost_ret (v := resV 24) (by simp [results, Tryz.results11, go_sem, r0, r1, r2, r3, r4, r5, r6, r7]) rfl ⟨rfl, lowTr HB6.out (ho4.base (fun k hk => by rw [hk]; omega) (Nat.le_trans (Nat.le_trans hB0B hwB) HB6.out.size))⟩
end Go.Proofs.YthiimpleljaimaaGreatDoor

