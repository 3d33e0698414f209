/- A region that draws its order, whose head ends with two effects that may come in either order: both orders are walked. -/
import Derived.Test.YthiimpleljaimaaGreatDoorPh2
import Derived.Test.YthiimpleljaimaaGreatDoorMg33
import Derived.Deep.DeepCutAuto
namespace Go.Proofs.YthiimpleljaimaaGreatDoor
open Go Go.RowKit

section
variable {P : Program} {ops : Array Oper} {md : Region.Mode} {D : World → Prop} {effs : List Nat}

def pairB (md : Region.Mode) (ops : Array Oper) (g m : Nat) (listed : Array Bool) : Bool :=
  !(Region.ready md ops listed).isEmpty && (Region.ready md ops listed).all (fun i => i == m || i == m + 1) &&
  !(Region.ready md ops (listed.setIfInBounds m true)).isEmpty && (Region.ready md ops (listed.setIfInBounds m true)).all (fun i => i == m + 1) &&
  !(Region.ready md ops (listed.setIfInBounds (m + 1) true)).isEmpty && (Region.ready md ops (listed.setIfInBounds (m + 1) true)).all (fun i => i == m) &&
  Region.seqB md ops g (m + 2) ((listed.setIfInBounds m true).setIfInBounds (m + 1) true) && Region.seqB md ops g (m + 2) ((listed.setIfInBounds (m + 1) true).setIfInBounds m true)
def headB3 (md : Region.Mode) (ops : Array Oper) (effs : List Nat) (g : Nat) : Nat → Nat → Array Bool → Bool
  | 0, k, listed => pairB md ops g k listed
  | f + 1, k, listed => (Region.ready md ops listed).contains k && Region.free md ops listed k && clashB2 md ops effs listed k && headB3 md ops effs g f (k + 1) (listed.setIfInBounds k true)
def phB3 (md : Region.Mode) (ops : Array Oper) (effs : List Nat) (m : Nat) : Bool :=
  Region.noSelect ops && tailB md ops (m + 2) && headB3 md ops effs (ops.size - (m + 2)) m 0 (Array.replicate ops.size false)

theorem wpPo_pair {g m : Nat} {Q : Act → World → Prop} {om om1 : Oper} {listed : Array Bool} {a : Act} {w : World} (hD : D w) (h0 : ops[m]? = some om) (h1 : ops[m + 1]? = some om1) (hB : pairB md ops g m listed = true)
    (H1 : wpSeq P ops D effs Q m [om, om1] a w) (H2 : wpSeq P ops D effs (fun a w => wpSeq P ops D effs Q m [om] a w) (m + 1) [om1] a w) :
    wpPo P md ops D effs (m + 2) (fun listed' a' w' => Region.seqB md ops g (m + 2) listed' = true ∧ D w' ∧ Q a' w') 2 listed a w := by
  simp only [pairB, Bool.and_eq_true, Bool.not_eq_true', List.isEmpty_eq_false_iff, List.all_eq_true, beq_iff_eq, Bool.or_eq_true] at hB
  obtain ⟨⟨⟨⟨⟨⟨⟨b1, b2⟩, b3⟩, b4⟩, b5⟩, b6⟩, b7⟩, b8⟩ := hB
  refine ⟨b1, fun i hi => ?_⟩
  rcases b2 i hi with rfl | rfl
  · refine ⟨by omega, ?_⟩
    have hst : poOp P ops D effs i (wpSeq P ops D effs Q (i + 1) [om1]) a w := by unfold poOp; simp only [h0]; exact H1
    refine poOp_mono hD (fun a' w' hD' h => ⟨b3, fun j hj => ?_⟩) hst
    obtain rfl := b4 j hj
    refine ⟨by omega, ?_⟩
    have hst2 : poOp P ops D effs (i + 1) Q a' w' := by unfold poOp; simp only [h1]; exact h
    exact poOp_mono hD' (fun a2 w2 hD2 h2 => ⟨b7, hD2, h2⟩) hst2
  · refine ⟨by omega, ?_⟩
    have hst : poOp P ops D effs (m + 1) (fun a w => wpSeq P ops D effs Q m [om] a w) a w := by unfold poOp; simp only [h1]; exact H2
    refine poOp_mono hD (fun a' w' hD' h => ⟨b5, fun j hj => ?_⟩) hst
    obtain rfl := b6 j hj
    refine ⟨by omega, ?_⟩
    have hst2 : poOp P ops D effs j Q a' w' := by unfold poOp; simp only [h0]; exact h
    exact poOp_mono hD' (fun a2 w2 hD2 h2 => ⟨b8, hD2, h2⟩) hst2

theorem wpPo_pre {m g : Nat} {Q : Act → World → Prop} {om om1 : Oper} (hsel : Region.noSelect ops = true) (h0 : ops[m]? = some om) (h1 : ops[m + 1]? = some om1)
    (hlt : ∀ i, i < m + 2 → ∀ listed, HeadInv md ops (m + 2) listed → listed.getD i true = false → ∀ j ∈ Region.ready md ops listed, j < m + 2) :
    ∀ (l : List Oper) (k : Nat) (listed : Array Bool) (a : Act) (w : World), D w → (∀ j, j < l.length → l[j]? = ops[k + j]?) → k + l.length = m → HeadInv md ops (m + 2) listed →
    headB3 md ops effs g l.length k listed = true →
    wpSeq P ops D effs (fun a w => wpSeq P ops D effs Q m [om, om1] a w ∧ wpSeq P ops D effs (fun a w => wpSeq P ops D effs Q m [om] a w) (m + 1) [om1] a w) k l a w →
    wpPo P md ops D effs (m + 2) (fun listed' a' w' => Region.seqB md ops g (m + 2) listed' = true ∧ D w' ∧ Q a' w') (l.length + 2) listed a w
  | [], k, listed, a, w, hD, _, hk, _, hB, h => by
    have : k = m := by simpa using hk
    subst this
    exact wpPo_pair hD h0 h1 (by simpa [headB3] using hB) h.1 h.2
  | o :: l, k, listed, a, w, hD, hl, hk, inv, hB, h => by
    have ho : ops[k]? = some o := by simpa using (hl 0 (by simp)).symm
    simp only [List.length_cons, headB3, Bool.and_eq_true] at hB
    obtain ⟨⟨⟨hr, hf⟩, hc⟩, hB'⟩ := hB
    have hkn : k < m + 2 := by simp only [List.length_cons] at hk; omega
    have hr' : k ∈ Region.ready md ops listed := by simpa using hr
    have hst : poOp P ops D effs k (wpSeq P ops D effs (fun a w => wpSeq P ops D effs Q m [om, om1] a w ∧ wpSeq P ops D effs (fun a w => wpSeq P ops D effs Q m [om] a w) (m + 1) [om1] a w) (k + 1) l) a w := by unfold poOp; simp only [ho]; exact h
    rw [List.length_cons, show l.length + 1 + 2 = (l.length + 2) + 1 by omega]
    refine wpPo_first ho (Region.noSelect_spec hsel) hkn (hlt k hkn) (fun listed' a' w' hL => seqB_ready hL.1) (l.length + 2) listed a w hD inv
      (fun j oj hj hne hun hno => Region.free_spec ho hf j oj hj hne hun hno) (fun j c1 c2 hne hun => clashB2_spec hc c1 c2 hne hun) hr' ?_
    exact poOp_mono hD (fun a' w' hD' h' => wpPo_pre hsel h0 h1 hlt l (k + 1) _ a' w' hD' (fun j hj => by have := hl (j + 1) (by simp; omega); simpa [Nat.add_assoc, Nat.add_comm 1 j] using this) (by simp only [List.length_cons] at hk; omega) (inv.set hr' hkn) hB' h') hst

theorem wp_region_pair {id : Nat} {Q : Exit → Act → World → Prop} {a : Act} {w : World} {l : List Oper} (D : World → Prop) (m : Nat) (effs : List Nat) (hm : P.follows .mixedOrders = true) (hB : phB3 .any l.toArray effs m = true)
    (om om1 : Oper) (h0 : l[m]? = some om) (h1 : l[m + 1]? = some om1) (hD : D w.drew)
    (h : wpSeq P l.toArray D effs (fun a w => wpSeq P l.toArray D effs (fun a' w' => wpList P l.toArray Q (l.drop (m + 2)) a' w') m [om, om1] a w ∧ wpSeq P l.toArray D effs (fun a w => wpSeq P l.toArray D effs (fun a' w' => wpList P l.toArray Q (l.drop (m + 2)) a' w') m [om] a w) (m + 1) [om1] a w) 0 (l.take m) a w.drew) : (Code.region id l.toArray true).wp P Q a w := by
  simp only [phB3, Bool.and_eq_true] at hB
  obtain ⟨⟨hsel, ht⟩, hlex⟩ := hB
  have hm1 := (List.getElem?_eq_some_iff.1 h1).1
  have htl : (l.take m).length = m := by simp; omega
  have hdl : (l.drop (m + 2)).length = l.toArray.size - (m + 2) := by simp
  have inv0 : HeadInv .any l.toArray (m + 2) (Array.replicate l.toArray.size false) :=
    ⟨by simp, fun j oj _ hl => (by rw [getD_replicate_false] at hl; cases hl), fun t _ ht => getD_in (by simpa using ht) (getD_replicate_false _ _)⟩
  have hlt : ∀ i, i < m + 2 → ∀ listed, HeadInv .any l.toArray (m + 2) listed → listed.getD i true = false → ∀ j ∈ Region.ready .any l.toArray listed, j < m + 2 := by
    intro i hi listed inv hun j hj
    simp only [tailB, Bool.or_eq_true, Bool.and_eq_true, decide_eq_true_eq] at ht
    rcases ht with ht | ⟨⟨ht, hs⟩, hc⟩
    · obtain ⟨_, o, ho, _⟩ := mem_ready.1 hj
      have := (Array.getElem?_eq_some_iff.1 ho).1
      omega
    · rcases Nat.lt_or_ge j (m + 2) with h | h
      · exact h
      · exact absurd hj (tail_waits hs hc ht inv _ i rfl hi hun j h)
  have H := wpPo_pre (md := .any) (g := l.toArray.size - (m + 2)) hsel (by simpa using h0) (by simpa using h1) hlt (l.take m) 0 _ a w.drew hD (fun j hj => by
    have hj' : j < m := by rw [htl] at hj; exact hj
    simp [hj']) (by simpa using htl) inv0 (by rw [htl]; exact hlex) h
  refine wp_region_any hm ?_
  have := wpAny_of_po (Q' := Q) (g := l.toArray.size - (m + 2)) (L := fun listed' a' w' => Region.seqB .any l.toArray (l.toArray.size - (m + 2)) (m + 2) listed' = true ∧ D w' ∧ wpList P l.toArray Q (l.drop (m + 2)) a' w') (fun listed a' w' hL => by
    have := wpAny_of_seq (md := .any) (Q' := Q) (l.drop (m + 2)) (m + 2) listed a' w' (fun j => by simp [List.getElem?_drop]) (by rw [hdl]; exact hL.1) hL.2.2
    rwa [hdl] at this) _ _ _ w.drew hD H
  rw [htl, show m + 2 + (l.toArray.size - (m + 2)) = l.toArray.size by rw [List.size_toArray]; omega] at this
  exact this
end
end Go.Proofs.YthiimpleljaimaaGreatDoor

/- Package txn: works and Do, the making of "/a". -/
namespace Go.Proofs.YthiimpleljaimaaGreatDoor
open Go Go.RowKit Flo
attribute [local go_sem] run_store_complex

theorem dlP_upd (cl : Nat → Option DlV) {i : Nat} {D D' : DlV} (hc : cl i = some D) (hb : D'.b = D.b) (k : Nat) : dlP (updC cl i (some D') k) = dlP (cl k) := by
  unfold updC
  split
  · rename_i e
    rw [e, hc]
    show ptr0 D'.b = ptr0 D.b
    rw [hb]
  · rfl
theorem cells_upd (M : MgV) {i : Nat} {D D' : DlV} (hc : M.cl i = some D) (hb : D'.b = D.b) : ({ M with cl := updC M.cl i (some D') } : MgV).cells = M.cells := by
  unfold MgV.cells
  simp only [dlP_upd M.cl hc hb]
/-- A client's desk is written. -/
theorem MgR.deskC {O : Nat → Prop} {B0 B : Nat} {w w' : World} {M : MgV} (h : MgR O B0 B w M) {i : Nat} {D : DlV} (hc : M.cl i = some D) (ho : Out (dkO D.db D.V.b) w w') {V' : VwV} {f' : Nat} (hV : V'.b = D.V.b) (hk : DkR w' B D.db V' f') :
    MgR O B0 B w' { M with cl := updC M.cl i (some { D with V := V', f := f' }) } := by
  have hD := h.dl i D hc
  have nt : ∀ {t : TypeId} {k : Nat} {cs : Array Value} {f : Nat × Nat}, t ≠ 143 → t ≠ 146 → w.heap[k]? = some (.cells cs t f) → ¬ dkO D.db D.V.b k := by
    rintro t k cs f h1 h2 hx (e | e)
    · exact ne_type hx hD.dk.box h1 e
    · exact ne_type hx hD.dk.vw.box h2 e
  have sp : ∀ t, t ≠ 143 → t ≠ 146 → Spare (dkO D.db D.V.b) w B t := fun t h1 h2 k cs f _ hx => nt h1 h2 hx
  have hst := h.st.outQ ho (by rintro k (e | e) <;> rw [e]; exact hD.dk.hb; exact hD.dk.vw.hb) (sp _ (by decide) (by decide)) (sp _ (by decide) (by decide)) (sp _ (by decide) (by decide)) (sp _ (by decide) (by decide)) (by
    rintro (e | e)
    · exact map_ne h.st.map hD.dk.box e
    · exact map_ne h.st.map hD.dk.vw.box e)
  refine { h with box := ?_, st := hst, hs := ho.blk h.hs (nt (by decide) (by decide) h.hs), dl := ?_, ap := ?_ }
  · rw [cells_upd M (D' := { D with V := V', f := f' }) hc rfl]
    exact ho.blk h.box (nt (by decide) (by decide) h.box)
  · intro j E hE
    simp only [updC] at hE
    split at hE
    · injection hE with hE
      rw [← hE]
      exact ⟨ho.blk hD.box (nt (by decide) (by decide) hD.box), hD.hb, hk⟩
    · have hne := h.ap j i E D hE hc (by assumption)
      have hE' := h.dl j E hE
      refine hE'.outQ ho (nt (by decide) (by decide) hE'.box) ?_ ?_ (sp _ (by decide) (by decide)) (sp _ (by decide) (by decide))
      · rintro (e | e)
        · exact hne.2.1 e
        · exact ne_type hE'.dk.box hD.dk.vw.box (by decide) e
      · rintro (e | e)
        · exact ne_type hE'.dk.vw.box hD.dk.box (by decide) e
        · exact hne.2.2 e
  · intro j k E F hE hF hne
    simp only [updC] at hE hF
    split at hE <;> split at hF
    · omega
    · injection hE with hE
      rename_i e1 e2
      have := h.ap i k D F hc hF (fun e => e2 e.symm)
      rw [← hE]
      exact ⟨this.1, this.2.1, by show V'.b ≠ _; rw [hV]; exact this.2.2⟩
    · injection hF with hF
      rename_i e1 e2
      have := h.ap j i E D hE hc e1
      rw [← hF]
      exact ⟨this.1, this.2.1, by show _ ≠ V'.b; rw [hV]; exact this.2.2⟩
    · exact h.ap j k E F hE hF hne
/-- A client's mark of doom is written: it isn't doomed. -/
theorem MgR.undoom {O : Nat → Prop} {B0 B : Nat} {w : World} {M : MgV} (h : MgR O B0 B w M) {i : Nat} {D : DlV} (hc : M.cl i = some D) : MgR O B0 B (w.setCell ⟨D.b, 2, none⟩ (.bool false)) M := by
  have hD := h.dl i D hc
  have ho : Out (· = D.b) w (w.setCell ⟨D.b, 2, none⟩ (.bool false)) := Out.set (O := (· = D.b)) (Out.refl _ w) rfl 2 _
  have hx := heap_setCell hD.box 2 (.bool false)
  have sp : ∀ t, t ≠ 95 → Spare (· = D.b) w B t := fun t ht => spare_of hD.box ht
  refine { h with box := ho.blk h.box (ne_type h.box hD.box (by decide)), st := h.st.outQ ho (fun k hk => by rw [hk]; exact hD.hb) (sp _ (by decide)) (sp _ (by decide)) (sp _ (by decide)) (sp _ (by decide)) (map_ne h.st.map hD.box), hs := ho.blk h.hs (ne_type h.hs hD.box (by decide)), dl := fun j E hE => ?_ }
  have hE' := h.dl j E hE
  by_cases hji : j = i
  · subst hji
    rw [hc] at hE
    injection hE with hE
    subst hE
    refine ⟨hx, hD.hb, ho.blk hD.dk.box (ne_type hD.dk.box hD.box (by decide)), hD.dk.hb, hD.dk.vw.keep ?_⟩
    rintro g cs t f hg (rfl | rfl | rfl) hx'
    · exact ho.cells (sp _ (by decide)) hg hx'
    · exact ho.cells (sp _ (by decide)) hg hx'
    · exact ho.blk hx' (ne_type hD.dk.vw.box hD.box (by decide))
  · exact hE'.outQ ho (h.ap j i E D hE hc hji).1 (ne_type hE'.dk.box hD.box (by decide)) (ne_type hE'.dk.vw.box hD.box (by decide)) (sp _ (by decide)) (sp _ (by decide))
set_option maxHeartbeats 16000000 in
set_option maxRecDepth 100000 in
theorem txWorks_create {O : Nat → Prop} {B0 B : Nat} {w : World} {M : MgV} (h : MgR O B0 B w M) {i : Nat} {D : DlV} (hc : M.cl i = some D) (hf : M.fresh < 1000000) (hn1 : getT (keyI 1) D.V.shown = none) (hn2 : getT (keyE 1 nameA) D.V.shown = none) (hs : D.V.reads.size ≤ 400000) (hw : D.V.writes.size ≤ 40) (hs2 : D.V.shown.size ≤ 400000) :
    Calls Tryz.prog 39 #[M.ptr, ptr0 D.b, opV 4 pathA] w fun e w' => e = .returned (resV 0) ∧ ∃ rv wv sv, MgR O B0 B w' { M with cl := updC M.cl i (some { D with V := D.V.made M.fresh rv wv sv, f := M.fresh }), fresh := M.fresh + 1 } ∧ Below B0 w w' ∧ KeepR B w.heap.size w w' := by
  obtain ⟨x1, hx1⟩ : ∃ W, W = ((w.alloc (.cells (opL 4 pathA).toArray 24)).alloc (.cells #[.int .i64 0, .int .i64 0, .slice none 0 0, .slice none 0 0, .int .u8 0, .int .u32 0, .int .u32 0, .int .u32 0] 44)) := ⟨_, rfl⟩
  have hb1 : Below w.heap.size w x1 := by rw [hx1]; exact Base.al (Base.al (Below.refl _ _) _) _
  have hO1 : x1.heap[w.heap.size]? = some (.cells (opL 4 pathA).toArray 24 (0, 0)) := by rw [hx1]; exact blk_old (blk_new w _)
  have hR1 : x1.heap[w.heap.size + 1]? = some (.cells (resL 0).toArray 44 (0, 0)) := by rw [hx1]; exact blk_new1 w _ _
  have M1 := h.below hb1
  have GM := fun W => Lib.hid (opsMakes_create pathA W)
  have GD := fun W (hk : DkR W B D.db D.V D.f) => Lib.hid (dkDo_createA hk M.fresh (by omega) hn1 hn2 hs hw hs2)
  have HX := Lib.hid hx1
  have HC := Lib.hid hc
  have hwB := h.st.base
  have hB0B := h.le
  have c10w : w.cell? ⟨M.mb, 10, none⟩ = some (.int .u32 (M.fresh : Int)) := cell_blk h.box 10
  have hlw := h.lt
  have k0 : x1.cell? ⟨w.heap.size, 0, none⟩ = some (.int .u8 4) := cell_blk hO1 0
  have k1 : x1.cell? ⟨w.heap.size, 1, none⟩ = some (.string pathA) := cell_blk hO1 1
  have k2 : x1.cell? ⟨w.heap.size, 2, none⟩ = some (.string { data := #[] }) := cell_blk hO1 2
  have k3 : x1.cell? ⟨w.heap.size, 3, none⟩ = some (i64 0) := cell_blk hO1 3
  have k4 : x1.cell? ⟨w.heap.size, 4, none⟩ = some (i64 0) := cell_blk hO1 4
  have k5 : x1.cell? ⟨w.heap.size, 5, none⟩ = some (i64 0) := cell_blk hO1 5
  have k6 : x1.cell? ⟨w.heap.size, 6, none⟩ = some (.slice none 0 0) := cell_blk hO1 6
  have hlO := (Array.getElem?_eq_some_iff.1 hO1).1
  have HM1 := Lib.hid M1
  have HB1 := Lib.hid hb1
  have HO1 := Lib.hid hO1
  have HR1 := Lib.hid hR1
  clear h hc M1 hb1 hO1 hR1
  go_enter Tryz.func39, Tryz.ntmps39
  go_wp2_with fail
  rw [← HX.out]
  clear HX hx1
  go_wp2_with fail
  refine (GM _).out.mono ?_; rintro e w1 ⟨rfl, hbm⟩
  have M1 := HM1.out.below hbm
  have hO2 := blk_below HO1.out hbm
  have hR2 := blk_below HR1.out hbm
  have c10 : w1.cell? ⟨M.mb, 10, none⟩ = some (.int .u32 (M.fresh : Int)) := cell_blk M1.box 10
  have fzM := frozen_blk M1.box 10
  have kwf : IntKind.u32.wrap ((M.fresh : Int) + 1) = (M.fresh : Int) + 1 := by rw [IntKind.wrap_u32]; omega
  have M2 : MgR O B0 B (w1.setCell ⟨M.mb, 10, none⟩ (.int .u32 ((M.fresh : Int) + 1))) { M with fresh := M.fresh + 1 } := M1.setM 10 (.int .u32 ((M.fresh : Int) + 1)) rfl (by
    show #[M.T.ptr, ptr0 M.hb, dlP (M.cl 0), dlP (M.cl 1), dlP (M.cl 2), dlP (M.cl 3), dlP (M.cl 4), dlP (M.cl 5), dlP (M.cl 6), dlP (M.cl 7), .int .u32 ((M.fresh : Int) + 1)] = #[M.T.ptr, ptr0 M.hb, dlP (M.cl 0), dlP (M.cl 1), dlP (M.cl 2), dlP (M.cl 3), dlP (M.cl 4), dlP (M.cl 5), dlP (M.cl 6), dlP (M.cl 7), .int .u32 ((M.fresh + 1 : Nat) : Int)]
    rw [Int.natCast_add]
    rfl) M1.dl M1.ap
  have ho2 : Out (· = M.mb) w1 (w1.setCell ⟨M.mb, 10, none⟩ (.int .u32 ((M.fresh : Int) + 1))) := Out.set (O := (· = M.mb)) (Out.refl _ w1) rfl 10 _
  have hmB := M1.mb
  have hO3 := ho2.blk hO2 (ne_type hO2 M1.box (by decide))
  have hR3 := ho2.blk hR2 (ne_type hR2 M1.box (by decide))
  have hw1z := (Base.tr HB1.out hbm).size
  have hb3 : Below B0 w (w1.setCell ⟨M.mb, 10, none⟩ (.int .u32 ((M.fresh : Int) + 1))) := lowTr (Below.low (Base.tr HB1.out hbm) (by omega)) (ho2.base (fun k hk => by rw [hk]; omega) (by omega))
  have HQ2 : Hid (KeepR B w.heap.size w (w1.setCell ⟨M.mb, 10, none⟩ (.int .u32 ((M.fresh : Int) + 1)))) := Lib.hid ((KeepR.of_below (Base.tr HB1.out hbm)).trans (KeepR.of_type ho2 M1.box (by decide)))
  have HM2 := Lib.hid M2
  have HB3 := Lib.hid hb3
  have HO3 := Lib.hid hO3
  have HR3 := Lib.hid hR3
  clear M1 M2 hO2 hR2 hb3 hO3 hR3 HM1 HB1 HO1 HR1 k0 k1 k2 k3 k4 k5 k6 hlO c10w ho2
  go_wp2_with fail
  generalize w1.setCell ⟨M.mb, 10, none⟩ (.int .u32 ((M.fresh : Int) + 1)) = w2 at *
  have hD := HM2.out.dl i D HC.out
  have hlD := (Array.getElem?_eq_some_iff.1 hD.box).1
  have hlO := (Array.getElem?_eq_some_iff.1 HO3.out).1
  have nD : ¬ dkO D.db D.V.b D.b := by
    rintro (e | e)
    · exact ne_type hD.box hD.dk.box (by decide) e
    · exact ne_type hD.box hD.dk.vw.box (by decide) e
  have nO : ¬ dkO D.db D.V.b w.heap.size := by
    rintro (e | e)
    · exact ne_type HO3.out hD.dk.box (by decide) e
    · exact ne_type HO3.out hD.dk.vw.box (by decide) e
  have nR : ¬ dkO D.db D.V.b (w.heap.size + 1) := by
    rintro (e | e)
    · exact ne_type HR3.out hD.dk.box (by decide) e
    · exact ne_type HR3.out hD.dk.vw.box (by decide) e
  have qD := fun q : OutOf (dkO D.db D.V.b) w2 => out_rd (o := 0) hlD nD (cell_blk hD.box 0) q
  have p0 := fun q : OutOf (dkO D.db D.V.b) w2 => out_rd (o := 0) hlO nO (cell_blk HO3.out 0) q
  have p1 := fun q : OutOf (dkO D.db D.V.b) w2 => out_rd (o := 1) hlO nO (cell_blk HO3.out 1) q
  have p2 := fun q : OutOf (dkO D.db D.V.b) w2 => out_rd (o := 2) hlO nO (cell_blk HO3.out 2) q
  have p3 := fun q : OutOf (dkO D.db D.V.b) w2 => out_rd (o := 3) hlO nO (cell_blk HO3.out 3) q
  have p4 := fun q : OutOf (dkO D.db D.V.b) w2 => out_rd (o := 4) hlO nO (cell_blk HO3.out 4) q
  have p5 := fun q : OutOf (dkO D.db D.V.b) w2 => out_rd (o := 5) hlO nO (cell_blk HO3.out 5) q
  have p6 := fun q : OutOf (dkO D.db D.V.b) w2 => out_rd (o := 6) hlO nO (cell_blk HO3.out 6) q
  simp at qD p0 p1 p2 p3 p4 p5 p6
  have hbd := Base.dr (Below.refl _ w2)
  have HK := Lib.hid (hD.dk.below hbd)
  clear hD
  refine wp_region_pair (fun w' => ∃ p : OutOf (dkO D.db D.V.b) w2, w' = p.v) 6 [6, 7] (by kernel_rfl) (by kernel_rfl) _ _ rfl rfl ⟨⟨_, Out.of_below hbd⟩, rfl⟩ ?_
  simp only [List.take_succ_cons, List.take_zero, List.drop_succ_cons, List.drop_zero]
  have on0 := @on_rd0; have on1 := @on_rd1; have on2 := @on_rd2; have on3 := @on_new1; have on4 := @on_new2; have on5 := @gr_rd0
  repeat ((with_reducible refine seq_read ?_ ?_); (focus rfl); (intro K hK); (unfold readsAt); go_simp; first | ((with_reducible refine hK _ ?_); clear hK K) | (rw [if_neg (by intro h; cases h)]; (with_reducible refine hK _ ?_); clear hK K))
  with_reducible refine seq_nil ?_
  refine ⟨?_, ?_⟩
  refine seq_eff (by rfl) (by first | rfl | go_simp) ?_
  intro K hK
  unfold effAt2
  go_simp
  refine ⟨rfl, (GD _ HK.out).out.mono ?_⟩; rintro e w3 ⟨rfl, rv, wv, sv, hk3, ho3⟩
  have ho3' := (Out.of_below (O := dkO D.db D.V.b) hbd).trans ho3
  refine ⟨_, rfl, ⟨⟨_, ho3'⟩, rfl⟩, hK _ _ ?_⟩
  clear hK K
  refine seq_eff (by rfl) (by first | rfl | go_simp) ?_
  intro K hK
  unfold effAt2
  go_simp
  have hb4 := Base.al (Below.refl _ w3) (.cells (resL 0).toArray 44)
  have hT4 := blk_new w3 (.cells (resL 0).toArray 44)
  have hk4 := hk3.below hb4
  have ho4 := ho3'.then hb4
  have hB4 : B ≤ w3.heap.size := Nat.le_trans HM2.out.st.base ho3'.size
  have hTB : w2.heap.size ≤ w3.heap.size := ho3'.size
  refine ⟨⟨⟨_, ho4⟩, rfl⟩, hK _ _ ?_⟩
  clear hK K
  clear on0 on1 on2 on3 on4 on5
  with_reducible refine seq_nil ?_
  have HK4 := Lib.hid hk4
  have HO4 := Lib.hid ho4
  have HT4 := Lib.hid hT4
  clear hk4 ho4 hT4 hb4 hk3 ho3 ho3' HK GD
  generalize w3.alloc (.cells (resL 0).toArray 44) = w4 at *
  clear hbd
  obtain ⟨tb, htb⟩ : ∃ tb, w3.heap.size = tb := ⟨_, rfl⟩
  rw [htb] at HT4 hB4 hTB ⊢
  clear htb
  rotate_left
  refine seq_eff (by rfl) (by first | rfl | go_simp) ?_
  intro K hK
  unfold effAt2
  go_simp
  have hb3 := Base.dr (Base.al (Below.refl _ w2) (.cells (resL 0).toArray 44))
  have hT3 : ((w2.alloc (.cells (resL 0).toArray 44)).drew).heap[w2.heap.size]? = some (.cells (resL 0).toArray 44 (0, 0)) := blk_new w2 (.cells (resL 0).toArray 44)
  have hk3 := HM2.out.dl i D HC.out |>.dk.below hb3
  have hB4 : B ≤ w2.heap.size := HM2.out.st.base
  refine ⟨⟨⟨_, Out.of_below hb3⟩, rfl⟩, hK _ _ ?_⟩
  clear hK K
  with_reducible refine seq_nil ?_
  refine seq_eff (by rfl) (by first | rfl | go_simp) ?_
  intro K hK
  unfold effAt2
  go_simp
  refine ⟨rfl, (GD _ hk3).out.mono ?_⟩; rintro e w4 ⟨rfl, rv, wv, sv, hk4, ho3⟩
  have ho4 := (Out.of_below (O := dkO D.db D.V.b) hb3).trans ho3
  have hT4 := ho3.blk hT3 (by
    rintro (e | e)
    · exact ne_type hT3 hk3.box (by decide) e
    · exact ne_type hT3 hk3.vw.box (by decide) e)
  refine ⟨_, rfl, ⟨⟨_, ho4⟩, rfl⟩, hK _ _ ?_⟩
  clear hK K
  clear on0 on1 on2 on3 on4 on5
  with_reducible refine seq_nil ?_
  have HK4 := Lib.hid hk4
  have HO4 := Lib.hid ho4
  have HT4 := Lib.hid hT4
  clear hk4 ho4 hT4 hb3 hk3 ho3 HK GD hT3
  clear hbd
  obtain ⟨tb, htb⟩ : ∃ tb, w2.heap.size = tb := ⟨_, rfl⟩
  have hTB : w2.heap.size ≤ tb := by omega
  rw [htb] at HT4 hB4 ⊢
  clear htb
  all_goals
    have HM4 := Lib.hid (HM2.out.deskC (V' := D.V.made M.fresh rv wv sv) HC.out HO4.out rfl HK4.out)
    have hD4 : w4.heap[D.b]? = some (.cells #[ptr0 D.db, .int .u64 (D.since : Int), .bool false] 95 (0, 0)) := HO4.out.blk (HM2.out.dl i D HC.out).box nD
    have hR4 := HO4.out.blk HR3.out nR
    have hlR := (Array.getElem?_eq_some_iff.1 HR3.out).1
    have e1 : ¬ tb = w.heap.size + 1 := by omega
    have e2 : ¬ tb = D.b := ne_type HT4.out hD4 (by decide)
    have z0 := cell_blk HT4.out 0
    have z1 := cell_blk HT4.out 1
    have z2 := cell_blk HT4.out 2
    have z3 := cell_blk HT4.out 3
    have z4 := cell_blk HT4.out 4
    have z5 := cell_blk HT4.out 5
    have z6 := cell_blk HT4.out 6
    have z7 := cell_blk HT4.out 7
    have fz := fun o => frozen_blk HT4.out o
    have hl4 := (Array.getElem?_eq_some_iff.1 HT4.out).1
    simp at z0 z1 z2 z3 z4 z5 z6 z7
    have HR4 := Lib.hid hR4
    have HD4 := Lib.hid hD4
    clear p0 p1 p2 p3 p4 p5 p6 qD hD4 hR4
    go_upto_region 5 with fail
    have hs5 : ((((((((w4.setCell ⟨tb, 0, none⟩ (.int .i64 0)).setCell ⟨tb, 1, none⟩ (.int .i64 0)).setCell ⟨tb, 2, none⟩ (.slice none 0 0)).setCell ⟨tb, 3, none⟩ (.slice none 0 0)).setCell ⟨tb, 4, none⟩ (.int .u8 0)).setCell ⟨tb, 5, none⟩ (.int .u32 0)).setCell ⟨tb, 6, none⟩ (.int .u32 0)).setCell ⟨tb, 7, none⟩ (.int .u32 0)) = sets w4 tb 0 (resL 0) := rfl
    rw [hs5]
    clear hs5
    have hT5 := sets_at HT4.out (resL 0) rfl
    have ho5 : Out (· = tb) w4 (sets w4 tb 0 (resL 0)) := Out.of_sets (Q := (· = tb)) w4 rfl _ 0
    generalize sets w4 tb 0 (resL 0) = w5 at *
    have M5 := HM4.out.outOne HT4.out hB4 ho5 (by decide)
    have hD5 := ho5.blk HD4.out (fun e => e2 e.symm)
    have hR5 := ho5.blk HR4.out (fun e => e1 e.symm)
    have hBD := (HM2.out.dl i D HC.out)
    have HQ4 : KeepR B w.heap.size w w4 := HQ2.out.trans (KeepR.of_not HO4.out (by
      rintro k cs t f hkB ht hy (e | e)
      · exact ne_type hy hBD.dk.box (kept_ne ht (by decide)) e
      · exact ne_type hy hBD.dk.vw.box (kept_ne ht (by decide)) e))
    have HQ5 : KeepR B w.heap.size w w5 := HQ4.trans (KeepR.of_far ho5 (fun k hk => by omega))
    have hb4 : Below B0 w w4 := lowTr HB3.out (HO4.out.base (by
      rintro k (e | e) <;> rw [e]
      · exact Nat.le_trans hB0B hBD.dk.hb
      · exact Nat.le_trans hB0B hBD.dk.vw.hb) (Nat.le_trans (Nat.le_trans hB0B hwB) HB3.out.size))
    have hb5 : Below B0 w w5 := lowTr hb4 (ho5.base (fun k hk => by rw [hk]; omega) (Nat.le_trans (Nat.le_trans hB0B hwB) hb4.size))
    have M6 := M5.undoom (i := i) (D := { D with V := D.V.made M.fresh rv wv sv, f := M.fresh }) (by show updC M.cl i _ i = _; unfold updC; rw [if_pos rfl])
    have ho6 : Out (· = D.b) w5 (w5.setCell ⟨D.b, 2, none⟩ (.bool false)) := Out.set (O := (· = D.b)) (Out.refl _ w5) rfl 2 _
    have hb6 : Below B0 w (w5.setCell ⟨D.b, 2, none⟩ (.bool false)) := lowTr hb5 (ho6.base (fun k hk => by rw [hk]; exact Nat.le_trans hB0B hBD.hb) (Nat.le_trans (Nat.le_trans hB0B hwB) hb5.size))
    have HQ6 : Hid (KeepR B w.heap.size w (w5.setCell ⟨D.b, 2, none⟩ (.bool false))) := Lib.hid (HQ5.trans (KeepR.of_type ho6 hD5 (by decide)))
    have hT6 := ho6.blk hT5 e2
    have hR6 := ho6.blk hR5 (ne_type hR5 hD5 (by decide))
    have t0 : w5.cell? ⟨tb, 0, none⟩ = some (.int .i64 0) := cell_blk hT5 0
    have dD2 : w5.cell? ⟨D.b, 2, none⟩ = some (.bool false) := cell_blk hD5 2
    have fzD := frozen_blk hD5 2
    have hz6 : (w5.setCell ⟨D.b, 2, none⟩ (.bool false)).heap.size = w5.heap.size := by simp [World.setCell]
    have HM6 := Lib.hid M6
    have HB6 := Lib.hid hb6
    have HT6 := Lib.hid hT6
    have HR6 := Lib.hid hR6
    clear HQ4 HQ5 HQ2 M5 M6 hb4 hb5 hb6 hT5 hR5 hT6 hR6 z0 z1 z2 z3 z4 z5 z6 z7 fz hl4 hBD ho5 ho6 HK4 HO4 HT4 HM4 HR4 HD4 HM2 HB3 HO3 HR3 hD5
    go_upto_region 6 with fail
    generalize w5.setCell ⟨D.b, 2, none⟩ (.bool false) = w6 at *
    clear t0 dD2 fzD
    have hT6 := HT6.out
    have hR6 := HR6.out
    have s0 := cell_blk hT6 0
    have s1 := cell_blk hT6 1
    have s2 := cell_blk hT6 2
    have s3 := cell_blk hT6 3
    have s4 := cell_blk hT6 4
    have s5 := cell_blk hT6 5
    have s6 := cell_blk hT6 6
    have s7 := cell_blk hT6 7
    have y0 := cell_blk hR6 0
    have y1 := cell_blk hR6 1
    have y2 := cell_blk hR6 2
    have y3 := cell_blk hR6 3
    have y4 := cell_blk hR6 4
    have y5 := cell_blk hR6 5
    have y6 := cell_blk hR6 6
    have y7 := cell_blk hR6 7
    have fzR := fun o => frozen_blk hR6 o
    have hl6 := (Array.getElem?_eq_some_iff.1 hR6).1
    simp at s0 s1 s2 s3 s4 s5 s6 s7 y0 y1 y2 y3 y4 y5 y6 y7
    clear hT6 hR6
    go_wp2_with fail
    have hs4 : ((((((((w6.setCell ⟨w.heap.size + 1, 0, none⟩ (.int .i64 0)).setCell ⟨w.heap.size + 1, 1, none⟩ (.int .i64 0)).setCell ⟨w.heap.size + 1, 2, none⟩ (.slice none 0 0)).setCell ⟨w.heap.size + 1, 3, none⟩ (.slice none 0 0)).setCell ⟨w.heap.size + 1, 4, none⟩ (.int .u8 0)).setCell ⟨w.heap.size + 1, 5, none⟩ (.int .u32 0)).setCell ⟨w.heap.size + 1, 6, none⟩ (.int .u32 0)).setCell ⟨w.heap.size + 1, 7, none⟩ (.int .u32 0)) = sets w6 (w.heap.size + 1) 0 (resL 0) := rfl
    rw [hs4]
    clear hs4
    have hR4 := sets_at HR6.out (resL 0) rfl
    have ho4 : Out (· = w.heap.size + 1) w6 (sets w6 (w.heap.size + 1) 0 (resL 0)) := Out.of_sets (Q := (· = w.heap.size + 1)) w6 rfl _ 0
    generalize sets w6 (w.heap.size + 1) 0 (resL 0) = w4 at *
    have r0 : w4.cell? ⟨w.heap.size + 1, 0, none⟩ = some (i64 (0 : Nat)) := cell_blk hR4 0
    have r1 : w4.cell? ⟨w.heap.size + 1, 1, none⟩ = some (.int .i64 0) := cell_blk hR4 1
    have r2 : w4.cell? ⟨w.heap.size + 1, 2, none⟩ = some (.slice none 0 0) := cell_blk hR4 2
    have r3 : w4.cell? ⟨w.heap.size + 1, 3, none⟩ = some (.slice none 0 0) := cell_blk hR4 3
    have r4 : w4.cell? ⟨w.heap.size + 1, 4, none⟩ = some (.int .u8 0) := cell_blk hR4 4
    have r5 : w4.cell? ⟨w.heap.size + 1, 5, none⟩ = some (.int .u32 0) := cell_blk hR4 5
    have r6 : w4.cell? ⟨w.heap.size + 1, 6, none⟩ = some (.int .u32 0) := cell_blk hR4 6
    have r7 : w4.cell? ⟨w.heap.size + 1, 7, none⟩ = some (.int .u32 0) := cell_blk hR4 7
    have hMz := HM6.out.outOne HR6.out (by omega) ho4 (by decide)
    exact bodyPost_ret (v := resV 0) (by simp [results, Tryz.results39, go_sem, r0, r1, r2, r3, r4, r5, r6, r7]) rfl ⟨rfl, ⟨rv, wv, sv, hMz⟩, lowTr HB6.out (ho4.base (fun k hk => by rw [hk]; omega) (Nat.le_trans (Nat.le_trans hB0B hwB) HB6.out.size)), HQ6.out.trans (KeepR.of_far ho4 (fun k hk => by omega))⟩
end Go.Proofs.YthiimpleljaimaaGreatDoor

