/- Package txn: a manager in memory, its clients; what is left alone. -/
import Derived.Test.YthiimpleljaimaaGreatDoorMg27
import Derived.Test.YthiimpleljaimaaGreatDoorMg29
import Derived.Test.YthiimpleljaimaaGreatDoorMg32
import Derived.Test.YthiimpleljaimaaGreatDoorMg30
namespace Go.Proofs.YthiimpleljaimaaGreatDoor
open Go Go.RowKit Flo

/-- No block of this type, from B on, is in Q. -/
abbrev Spare (Q : Nat → Prop) (w : World) (B : Nat) (t : TypeId) : Prop := ∀ k cs f, B ≤ k → w.heap[k]? = some (.cells cs t f) → ¬ Q k
theorem Out.cells {Q : Nat → Prop} {w w' : World} (ho : Out Q w w') {B : Nat} {t : TypeId} (hs : Spare Q w B t) {g : Nat} {cs : Array Value} {f : Nat × Nat} (hg : B ≤ g) (hx : w.heap[g]? = some (.cells cs t f)) : w'.heap[g]? = some (.cells cs t f) :=
  ho.blk hx (hs g cs f hg hx)
theorem StR.outQ {O Q : Nat → Prop} {B : Nat} {w w' : World} {T : StV} (h : StR O B w T) (ho : Out Q w w') (h0 : ∀ k, Q k → B ≤ k) (h1 : Spare Q w B 124) (h2 : Spare Q w B 188) (h3 : Spare Q w B 190) (h4 : Spare Q w B 101) (h5 : ¬ Q T.MB) : StR O B w' T := by
  have hb : Below B w w' := ho.base h0 h.base
  refine { h with sh := h.sh.baseB h.lim hb, box := ho.cells h1 h.tb h.box, own := ?_, nt := fun x hx => ⟨ho.cells h3 (h.nt x hx).2 (h.nt x hx).1, (h.nt x hx).2⟩, map := ?_, tree := h.tree.keep fun g cs f hg hx => ho.cells h4 hg hx }
  · refine ⟨h.own.1, ?_⟩
    rcases h.own.2 with hn | ⟨g, cap, cur, e, hbg, hgg, rest⟩
    · exact .inl hn
    · exact .inr ⟨g, cap, cur, e, hbg, ho.cells h2 hbg hgg, rest⟩
  · obtain ⟨L, c, hb, rest⟩ := h.map
    exact ⟨L, c, ho.blk hb h5, rest⟩

/-- A client's transaction. -/
structure DlV where
  b : Nat
  db : Nat
  V : VwV
  f : Nat
  since : Nat
structure DlR (w : World) (B : Nat) (D : DlV) : Prop where
  box : w.heap[D.b]? = some (.cells #[ptr0 D.db, .int .u64 (D.since : Int), .bool false] 95 (0, 0))
  hb : B ≤ D.b
  dk : DkR w B D.db D.V D.f
theorem DlR.outQ {Q : Nat → Prop} {B : Nat} {w w' : World} {D : DlV} (h : DlR w B D) (ho : Out Q w w') (h1 : ¬ Q D.b) (h2 : ¬ Q D.db) (h3 : ¬ Q D.V.b) (h4 : Spare Q w B 101) (h5 : Spare Q w B 156) : DlR w' B D := by
  refine ⟨ho.blk h.box h1, h.hb, ho.blk h.dk.box h2, h.dk.hb, h.dk.vw.keep ?_⟩
  rintro g cs t f hg (rfl | rfl | rfl) hx
  · exact ho.cells h4 hg hx
  · exact ho.cells h5 hg hx
  · exact ho.blk hx h3
theorem DlR.below {B : Nat} {w w' : World} {D : DlV} (h : DlR w B D) (hb : Below w.heap.size w w') : DlR w' B D := ⟨blk_below h.box hb, h.hb, h.dk.below hb⟩

def dlP : Option DlV → Value
  | none => .pointer none
  | some D => ptr0 D.b
/-- A manager. -/
structure MgV where
  mb : Nat
  hb : Nat
  T : StV
  cl : Nat → Option DlV
  fresh : Nat
  g : Nat
  A : Option Addr
  n : Nat
  c : Nat
abbrev MgV.ptr (M : MgV) : Value := ptr0 M.mb
def MgV.cells (M : MgV) : Array Value := #[M.T.ptr, ptr0 M.hb, dlP (M.cl 0), dlP (M.cl 1), dlP (M.cl 2), dlP (M.cl 3), dlP (M.cl 4), dlP (M.cl 5), dlP (M.cl 6), dlP (M.cl 7), .int .u32 (M.fresh : Int)]
def updC (cl : Nat → Option DlV) (i : Nat) (d : Option DlV) (k : Nat) : Option DlV := if k = i then d else cl k
/-- The manager stands in memory, its blocks from B0 on. -/
structure MgR (O : Nat → Prop) (B0 B : Nat) (w : World) (M : MgV) : Prop where
  box : w.heap[M.mb]? = some (.cells M.cells 81 (0, 0))
  mb : B ≤ M.mb
  hb : B ≤ M.hb
  st : StR O B w M.T
  hs : HsR w M.hb M.g M.A M.n M.c
  dl : ∀ i D, M.cl i = some D → DlR w B D
  ap : ∀ i j D E, M.cl i = some D → M.cl j = some E → i ≠ j → D.b ≠ E.b ∧ D.db ≠ E.db ∧ D.V.b ≠ E.V.b
  lo : ∀ k, shO O M.T.H k → B0 ≤ k
  le : B0 ≤ B
theorem MgR.below {O : Nat → Prop} {B0 B : Nat} {w w' : World} {M : MgV} (h : MgR O B0 B w M) (hb : Below w.heap.size w w') : MgR O B0 B w' M :=
  { h with box := blk_below h.box hb, st := h.st.below hb, hs := (hb.block _ (Array.getElem?_eq_some_iff.1 h.hs).1).trans h.hs, dl := fun i D hd => (h.dl i D hd).below hb }
theorem MgR.lt {O : Nat → Prop} {B0 B : Nat} {w : World} {M : MgV} (h : MgR O B0 B w M) : M.mb < w.heap.size := (Array.getElem?_eq_some_iff.1 h.box).1
theorem spare_of {w : World} {B k : Nat} {cs : Array Value} {t t' : TypeId} {f : Nat × Nat} (h : w.heap[k]? = some (.cells cs t f)) (hne : t' ≠ t) : Spare (· = k) w B t' := fun _ _ _ _ hx e => ne_type hx h hne e
/-- A cell of the manager is written. -/
theorem MgR.setM {O : Nat → Prop} {B0 B : Nat} {w : World} {M M' : MgV} (h : MgR O B0 B w M) (i : Nat) (v : Value) (hs : M' = { M with cl := M'.cl, fresh := M'.fresh }) (hc : M.cells.setIfInBounds i v = M'.cells)
    (hd : ∀ i D, M'.cl i = some D → DlR w B D) (ha : ∀ i j D E, M'.cl i = some D → M'.cl j = some E → i ≠ j → D.b ≠ E.b ∧ D.db ≠ E.db ∧ D.V.b ≠ E.V.b) : MgR O B0 B (w.setCell ⟨M.mb, i, none⟩ v) M' := by
  have ho : Out (· = M.mb) w (w.setCell ⟨M.mb, i, none⟩ v) := Out.set (O := (· = M.mb)) (Out.refl _ w) rfl i v
  have sp : ∀ t, t ≠ 81 → Spare (· = M.mb) w B t := fun t ht => spare_of h.box ht
  have hx := heap_setCell h.box i v
  rw [hc] at hx
  rw [hs]
  refine { h with box := ?_, st := h.st.outQ ho (fun k hk => by rw [hk]; exact h.mb) (sp _ (by decide)) (sp _ (by decide)) (sp _ (by decide)) (sp _ (by decide)) (map_ne h.st.map h.box), hs := ho.blk h.hs (ne_type h.hs h.box (by decide)), dl := fun i D hD => ?_, ap := ha, lo := h.lo, le := h.le }
  · rw [hs] at hx; exact hx
  · have hD := hd i D hD
    exact hD.outQ ho (ne_type hD.box h.box (by decide)) (ne_type hD.dk.box h.box (by decide)) (ne_type hD.dk.vw.box h.box (by decide)) (sp _ (by decide)) (sp _ (by decide))
theorem MgR.outOne {O : Nat → Prop} {B0 B : Nat} {w w' : World} {M : MgV} (h : MgR O B0 B w M) {k : Nat} {cs : Array Value} {t : TypeId} {f : Nat × Nat} (hx : w.heap[k]? = some (.cells cs t f)) (hk : B ≤ k) (ho : Out (· = k) w w')
    (ht : ∀ u ∈ [81, 138, 124, 188, 190, 101, 95, 143, 146, 156], u ≠ t) : MgR O B0 B w' M := by
  have sp : ∀ u ∈ [81, 138, 124, 188, 190, 101, 95, 143, 146, 156], Spare (· = k) w B u := fun u hu => spare_of hx (ht u hu)
  refine { h with box := ho.blk h.box (ne_type h.box hx (ht _ (by simp))), st := h.st.outQ ho (fun j hj => by rw [hj]; exact hk) (sp _ (by simp)) (sp _ (by simp)) (sp _ (by simp)) (sp _ (by simp)) (map_ne h.st.map hx), hs := ho.blk h.hs (ne_type h.hs hx (ht _ (by simp))), dl := fun i D hd => ?_ }
  have hD := h.dl i D hd
  exact hD.outQ ho (ne_type hD.box hx (ht _ (by simp))) (ne_type hD.dk.box hx (ht _ (by simp))) (ne_type hD.dk.vw.box hx (ht _ (by simp))) (sp _ (by simp)) (sp _ (by simp))
/-- The results and the rows of what was written below n are left alone. -/
abbrev keptT : List TypeId := [44, 150, 71, 24]
def KeepR (B n : Nat) (w w' : World) : Prop := ∀ k cs t f, B ≤ k → k < n → t ∈ keptT → w.heap[k]? = some (.cells cs t f) → w'.heap[k]? = some (.cells cs t f)
theorem KeepR.trans {B n : Nat} {w v u : World} (h : KeepR B n w v) (g : KeepR B n v u) : KeepR B n w u := fun k cs t f hb hk ht hx => g k cs t f hb hk ht (h k cs t f hb hk ht hx)
theorem KeepR.of_below {B n : Nat} {w v : World} (h : Below w.heap.size w v) : KeepR B n w v := fun _ _ _ _ _ _ _ hx => blk_below hx h
theorem KeepR.of_type {B n k : Nat} {w v : World} {cs : Array Value} {t : TypeId} {f : Nat × Nat} (ho : Out (· = k) w v) (hx : w.heap[k]? = some (.cells cs t f)) (ht : ∀ u ∈ keptT, u ≠ t) : KeepR B n w v := fun _ _ _ _ _ _ hu hy => ho.blk hy (ne_type hy hx (ht _ hu))
theorem KeepR.of_far {B n : Nat} {Q : Nat → Prop} {w v : World} (ho : Out Q w v) (hq : ∀ k, Q k → n ≤ k) : KeepR B n w v := fun k _ _ _ _ hk _ hy => ho.blk hy (fun e => by have := hq k e; omega)
theorem KeepR.of_not {B n : Nat} {Q : Nat → Prop} {w v : World} (ho : Out Q w v) (hq : ∀ k cs t f, B ≤ k → t ∈ keptT → w.heap[k]? = some (.cells cs t f) → ¬ Q k) : KeepR B n w v := fun k cs t f hb _ ht hy => ho.blk hy (hq k cs t f hb ht hy)
theorem KeepR.res {B n k : Nat} {w w' : World} {cs : Array Value} {f : Nat × Nat} (h : KeepR B n w w') (hb : B ≤ k) (hk : k < n) (hx : w.heap[k]? = some (.cells cs 44 f)) : w'.heap[k]? = some (.cells cs 44 f) := h k cs _ f hb hk (by simp) hx
theorem KeepR.mono {B n m : Nat} {w w' : World} (h : KeepR B n w w') (hm : m ≤ n) : KeepR B m w w' := fun k cs t f hb hk ht hx => h k cs t f hb (by omega) ht hx
theorem kept_ne {t : TypeId} (ht : t ∈ keptT) {u : TypeId} (hu : ∀ x ∈ keptT, x ≠ u) : t ≠ u := hu t ht
/-- What was written first, in memory. -/
structure HsL (B : Nat) (w : World) (lg wg n wc : Nat) (p : Pair) : Prop where
  l : ∃ cs f, w.heap[lg]? = some (.cells cs 150 f)
  wr : ∃ cs f, w.heap[wg]? = some (.cells cs 71 f)
  c : w.cell? ⟨lg, 0, none⟩ = some (.slice (some ⟨wg, 0, none⟩) n wc)
  p : WrFirst w wg p
  lb : B ≤ lg
  wb : B ≤ wg
theorem cell_same {w w' : World} {b o : Nat} (h : w'.heap[b]? = w.heap[b]?) : w'.cell? ⟨b, o, none⟩ = w.cell? ⟨b, o, none⟩ := by
  unfold World.cell?
  rw [h]
theorem HsL.keep {B n' : Nat} {w w' : World} {lg wg n wc : Nat} {p : Pair} (h : HsL B w lg wg n wc p) (hk : KeepR B n' w w') (hn : w.heap.size ≤ n') (hz : w.heap.size ≤ w'.heap.size) : HsL B w' lg wg n wc p := by
  obtain ⟨⟨cs, f, h1⟩, ⟨cs2, f2, h2⟩, h3, h4, h5, h6⟩ := h
  have l1 := (Array.getElem?_eq_some_iff.1 h1).1
  have l2 := (Array.getElem?_eq_some_iff.1 h2).1
  have g1 := hk lg cs _ f h5 (by omega) (by simp) h1
  have g2 := hk wg cs2 _ f2 h6 (by omega) (by simp) h2
  have e1 : w'.heap[lg]? = w.heap[lg]? := by rw [g1, h1]
  have e2 : w'.heap[wg]? = w.heap[wg]? := by rw [g2, h2]
  exact ⟨⟨cs, f, g1⟩, ⟨cs2, f2, g2⟩, (cell_same e1).trans h3, ⟨(cell_same e2).trans h4.c0, (cell_same e2).trans h4.c1, (cell_same e2).trans h4.c2, by omega⟩, h5, h6⟩
end Go.Proofs.YthiimpleljaimaaGreatDoor

/- Package txn: Open, failed, Gone; a nil manager. -/
namespace Go.Proofs.YthiimpleljaimaaGreatDoor
open Go Go.RowKit Flo
attribute [local go_sem] run_store_complex

set_option maxHeartbeats 4000000 in
set_option maxRecDepth 100000 in
theorem txFailed_any (e : Nat) (w : World) : Makes 33 #[i64 e] w (resV e) := by
  go_enter Tryz.func33, Tryz.ntmps33
  go_wp2_with fail
  exact bodyPost_ret (v := resV e) (by simp [results, Tryz.results33, go_sem]) rfl ⟨rfl, Base.al (Below.refl _ _) _⟩
set_option maxHeartbeats 4000000 in
set_option maxRecDepth 100000 in
theorem stGone_off {O : Nat → Prop} {B : Nat} {w : World} {T : StV} (h : StR O B w T) (hon : T.N.off = false) (hof : T.N.offs ≠ T.offs) : Makes 41 #[T.ptr] w (.bool true) := by
  have g1 := fun p : OnOf w => isOn_any (h.sh.dev.below p.h)
  rw [hon] at g1
  have G1 := fun p : OnOf w => Lib.hid (g1 p)
  have G2 := fun p : OnOf w => Lib.hid (offs_any (h.sh.dev.below p.h))
  have hbs := h.lt
  have c0 : w.cell? ⟨T.TB, 0, none⟩ = some (ptrD T.N) := cell_blk h.box 0
  have c8 : w.cell? ⟨T.TB, 8, none⟩ = some (i64 T.offs) := cell_blk h.box 8
  have q0 := fun p : OnOf w => on_cell hbs c0 p
  have q8 := fun p : OnOf w => on_cell hbs c8 p
  have t1 : ((T.N.offs : Int) != (T.offs : Int)) = true := by rw [bne_iff_ne]; omega
  clear g1 h hof hon c0 c8
  go_enter Tryz.func41, Tryz.ntmps41
  go_wp2_with fail
  refine wp_region_quiet_on (by kernel_rfl) (by kernel_rfl) ?_
  repeat ((with_reducible refine wpQuiet_step (fun K hK => ?_)); go_simp; first | ((with_reducible refine hK _ ?_); clear hK K) | (rw [if_neg (by intro h; cases h)]; (with_reducible refine hK _ ?_); clear hK K) | (apply Exists.intro; refine ⟨fun _ => ?_, hK _ ?_⟩; (first | (with_reducible exact on_of_same (G1 _).out) | (with_reducible exact on_of_same (G2 _).out)); clear hK K))
  with_reducible refine wpQuiet_nil ?_
  intro _ hw'
  obtain ⟨pq, hw''⟩ := hw'
  subst hw''
  go_wp2_with fail
  go_ret
  exact ⟨rfl, pq.h⟩
set_option maxHeartbeats 4000000 in
set_option maxRecDepth 100000 in
theorem txGone_nil (w : World) : Gives 17 #[nilP] w (.bool true) := by
  go_enter Tryz.func17, Tryz.ntmps17
  go_wp2_with fail
  go_ret
  exact ⟨rfl, rfl⟩
set_option maxHeartbeats 4000000 in
set_option maxRecDepth 100000 in
theorem txGone_any {w : World} {mb : Nat} {v : Value} {b : Bool} (c0 : w.cell? ⟨mb, 0, none⟩ = some v) (hv : ∃ q, v = .pointer q) (G : Makes 41 #[v] w (.bool b)) : Makes 17 #[ptr0 mb] w (.bool b) := by
  obtain ⟨q, rfl⟩ := hv
  have G := Lib.hid G
  go_enter Tryz.func17, Tryz.ntmps17
  go_wp2_with fail
  refine G.out.mono ?_; rintro e w1 ⟨rfl, hb⟩
  clear c0
  go_wp2_with fail
  go_ret
  exact ⟨rfl, hb⟩
set_option maxHeartbeats 4000000 in
set_option maxRecDepth 100000 in
theorem txDeal_nil (i : Int) (w : World) : Gives 40 #[nilP, .int .i64 i] w nilP := by
  go_enter Tryz.func40, Tryz.ntmps40
  go_wp2_with fail
  go_ret
  exact ⟨rfl, rfl⟩
set_option maxHeartbeats 4000000 in
set_option maxRecDepth 100000 in
theorem txIn_nil (i : Int) (w : World) : Gives 12 #[nilP, .int .i64 i] w (.bool false) := by
  have G := fun W => Lib.hid (txDeal_nil i W)
  go_enter Tryz.func12, Tryz.ntmps12
  go_wp2_with fail
  refine (G _).out.mono ?_; rintro e w1 ⟨rfl, rfl⟩
  go_wp2_with fail
  go_ret
  exact ⟨rfl, rfl⟩
set_option maxHeartbeats 4000000 in
set_option maxRecDepth 100000 in
theorem txDoomed_nil (i : Int) (w : World) : Gives 13 #[nilP, .int .i64 i] w (.bool false) := by
  have G := fun W => Lib.hid (txDeal_nil i W)
  go_enter Tryz.func13, Tryz.ntmps13
  go_wp2_with fail
  refine (G _).out.mono ?_; rintro e w1 ⟨rfl, rfl⟩
  go_wp2_with fail
  go_ret
  exact ⟨rfl, rfl⟩
set_option maxHeartbeats 4000000 in
set_option maxRecDepth 100000 in
theorem txView_nil (i : Int) (w : World) : Gives 18 #[nilP, .int .i64 i] w nilP := by
  have G := fun W => Lib.hid (txDeal_nil i W)
  go_enter Tryz.func18, Tryz.ntmps18
  go_wp2_with fail
  refine (G _).out.mono ?_; rintro e w1 ⟨rfl, rfl⟩
  go_wp2_with fail
  go_ret
  exact ⟨rfl, rfl⟩
set_option maxHeartbeats 4000000 in
set_option maxRecDepth 100000 in
theorem txCommits_nil (w : World) : Gives 14 #[nilP] w (.int .u64 0) := by
  go_enter Tryz.func14, Tryz.ntmps14
  go_wp2_with fail
  go_ret
  exact ⟨rfl, rfl⟩
set_option maxHeartbeats 4000000 in
set_option maxRecDepth 100000 in
theorem txTree_nil (w : World) : Gives 15 #[nilP] w nilP := by
  go_enter Tryz.func15, Tryz.ntmps15
  go_wp2_with fail
  go_ret
  exact ⟨rfl, rfl⟩
set_option maxHeartbeats 4000000 in
set_option maxRecDepth 100000 in
/-- A manager that is gone. -/
theorem txDo_gone {w : World} {m : Value} (hm : ∃ q, m = .pointer q) (i : Int) (k : Int) (p o : ByteArray) (x y z : Int) (d : Value) (hd : ∃ a n c, d = .slice a n c) (G : ∀ W, Below w.heap.size w W → Makes 17 #[m] W (.bool true)) :
    Makes 11 #[m, .int .i64 i, .agg #[.int .u8 k, .string p, .string o, .int .i64 x, .int .i64 y, .int .i64 z, d]] w (resV 7) := by
  obtain ⟨q, rfl⟩ := hm
  obtain ⟨a, n, c, rfl⟩ := hd
  have G := fun W hb => Lib.hid (G W hb)
  have GF := fun W => Lib.hid (txFailed_any 7 W)
  go_enter Tryz.func11, Tryz.ntmps11
  go_wp2_with fail
  have hb1 : Below w.heap.size w ((w.alloc (.cells #[.int .u8 k, .string p, .string o, .int .i64 x, .int .i64 y, .int .i64 z, .slice a n c] 24)).alloc (.cells #[.int .i64 0, .int .i64 0, .slice none 0 0, .slice none 0 0, .int .u8 0, .int .u32 0, .int .u32 0, .int .u32 0] 44)) := Base.al (Base.al (Below.refl _ _) _) _
  have hR1 := blk_new1 w (.cells #[.int .u8 k, .string p, .string o, .int .i64 x, .int .i64 y, .int .i64 z, .slice a n c] 24) (.cells (resL 0).toArray 44)
  refine (G _ hb1).out.mono ?_; rintro e w2 ⟨rfl, hb2⟩
  have hR2 := blk_below hR1 hb2
  have hb12 := Base.tr hb1 hb2
  clear hb1 hb2 hR1 G
  go_wp2_with fail
  refine (GF _).out.mono ?_; rintro e w3 ⟨rfl, hb3⟩
  have hR3 := blk_below hR2 hb3
  have HB := Lib.hid (Base.tr hb12 hb3)
  have z0 := cell_blk hR3 0
  have z1 := cell_blk hR3 1
  have z2 := cell_blk hR3 2
  have z3 := cell_blk hR3 3
  have z4 := cell_blk hR3 4
  have z5 := cell_blk hR3 5
  have z6 := cell_blk hR3 6
  have z7 := cell_blk hR3 7
  have fz := fun o => frozen_blk hR3 o
  have hl3 := (Array.getElem?_eq_some_iff.1 hR3).1
  have HR3 := Lib.hid hR3
  simp at z0 z1 z2 z3 z4 z5 z6 z7
  clear hR3 hR2 hb12 hb3 GF
  go_wp2_with fail
  have hs4 : ((((((((w3.setCell ⟨w.heap.size + 1, 0, none⟩ (.int .i64 7)).setCell ⟨w.heap.size + 1, 1, none⟩ (.int .i64 0)).setCell ⟨w.heap.size + 1, 2, none⟩ (.slice none 0 0)).setCell ⟨w.heap.size + 1, 3, none⟩ (.slice none 0 0)).setCell ⟨w.heap.size + 1, 4, none⟩ (.int .u8 0)).setCell ⟨w.heap.size + 1, 5, none⟩ (.int .u32 0)).setCell ⟨w.heap.size + 1, 6, none⟩ (.int .u32 0)).setCell ⟨w.heap.size + 1, 7, none⟩ (.int .u32 0)) = sets w3 (w.heap.size + 1) 0 (resL 7) := rfl
  rw [hs4]
  clear hs4
  have hR4 := sets_at HR3.out (resL 7) rfl
  have ho4 : Out (· = w.heap.size + 1) w3 (sets w3 (w.heap.size + 1) 0 (resL 7)) := Out.of_sets (Q := (· = w.heap.size + 1)) w3 rfl _ 0
  generalize sets w3 (w.heap.size + 1) 0 (resL 7) = w4 at *
  have r0 : w4.cell? ⟨w.heap.size + 1, 0, none⟩ = some (i64 (7 : Nat)) := cell_blk hR4 0
  have r1 : w4.cell? ⟨w.heap.size + 1, 1, none⟩ = some (.int .i64 0) := cell_blk hR4 1
  have r2 : w4.cell? ⟨w.heap.size + 1, 2, none⟩ = some (.slice none 0 0) := cell_blk hR4 2
  have r3 : w4.cell? ⟨w.heap.size + 1, 3, none⟩ = some (.slice none 0 0) := cell_blk hR4 3
  have r4 : w4.cell? ⟨w.heap.size + 1, 4, none⟩ = some (.int .u8 0) := cell_blk hR4 4
  have r5 : w4.cell? ⟨w.heap.size + 1, 5, none⟩ = some (.int .u32 0) := cell_blk hR4 5
  have r6 : w4.cell? ⟨w.heap.size + 1, 6, none⟩ = some (.int .u32 0) := cell_blk hR4 6
  have r7 : w4.cell? ⟨w.heap.size + 1, 7, none⟩ = some (.int .u32 0) := cell_blk hR4 7
  exact bodyPost_ret (v := resV 7) (by simp [results, Tryz.results11, go_sem, r0, r1, r2, r3, r4, r5, r6, r7]) rfl ⟨rfl, lowTr HB.out (ho4.base (fun k hk => by rw [hk]; omega) HB.out.size)⟩
end Go.Proofs.YthiimpleljaimaaGreatDoor

/- Package txn: Open on a device where nothing is found. -/
namespace Go.Proofs.YthiimpleljaimaaGreatDoor
open Go Go.RowKit Flo
attribute [local go_sem] run_store_complex

set_option maxHeartbeats 4000000 in
set_option maxRecDepth 100000 in
theorem txOpen_nil (w : World) : Makes 7 #[nilD] w (.tuple #[nilP, i64 7]) := by
  have G := fun W => Lib.hid (open_nil W)
  go_enter Tryz.func7, Tryz.ntmps7
  go_wp2_with fail
  refine (G _).out.mono ?_; rintro e x1 ⟨rfl, hb1⟩
  go_wp2_with fail
  go_ret2
  exact ⟨rfl, hb1⟩
set_option maxHeartbeats 8000000 in
set_option maxRecDepth 100000 in
theorem txOpen_any {O : Nat → Prop} {w : World} {N : Nor} (hd : DevR O w N) (hon : N.off = false) (hfr : shFound N N.S = []) (B0 : Nat) (hB : B0 ≤ w.heap.size) (hO : ∀ k, O k → B0 ≤ k) :
    Calls Tryz.prog 7 #[ptrD N] w fun e w' => ∃ (B : Nat) (M : MgV), e = .returned (.tuple #[M.ptr, i64 0]) ∧ MgR O B0 B w' M ∧ M.cl = (fun _ => none) ∧ M.fresh = 2 ∧ M.g = 0 ∧ M.A = none ∧ M.n = 0 ∧ M.c = 0 ∧ M.T.N = N ∧ M.T.nts = [] ∧ M.T.nm = [] ∧ M.T.t = .nil ∧ M.T.seq = 1 ∧ M.T.offs = N.offs ∧ M.T.H.S = N.S ∧ M.T.H.Z = N.Z ∧ M.T.H.il = shInfos N N.S ∧ M.T.H.el = shEnds N N.S ∧ M.T.H.op = -1 ∧ Below w.heap.size w w' := by
  have G := Lib.hid (open_any hd hon hfr)
  have GC := fun W => Lib.hid (clashNew_any W)
  have HBO := Lib.hid hB
  have HO := Lib.hid hO
  clear hd hon hfr hB hO
  go_enter Tryz.func7, Tryz.ntmps7
  go_wp2_with fail
  unfold OpenPost at G
  refine G.out.mono ?_; rintro e w1 ⟨B, T, rfl, hst, hN, hnts, hnm, ht, hsq, hof, hHS, hHZ, hil, hel, hop, hHo, hTo, hB, hb1⟩
  have GT := Lib.hid (stTree_any hst)
  have htr := hst.tree
  have hnil : T.trv = .pointer none := by
    rw [ht] at htr
    exact htr
  rw [hnil] at GT
  have GL : ∀ W, Hid (Gives 16 #[.pointer none] W (i64 0)) := fun W => Lib.hid (trLen_any (B := 0) (t := .nil) (rfl : TreeR W 0 .nil (.pointer none)))
  have HR := Lib.hid (And.intro hst (And.intro hN (And.intro hnts (And.intro hnm (And.intro ht (And.intro hsq (And.intro hof (And.intro hHS (And.intro hHZ (And.intro hil (And.intro hel (And.intro hop (And.intro hHo hB)))))))))))))
  have HB1 := Lib.hid hb1
  clear hst hN hnts hnm ht hsq hof hHS hHZ hil hel hop hHo hTo hB hb1 htr hnil G
  go_wp2_with fail
  refine GT.out.mono ?_; rintro e w2 ⟨rfl, rfl⟩
  go_wp2_with fail
  refine (GL _).out.mono ?_; rintro e w3 ⟨rfl, rfl⟩
  go_wp2_with fail
  go_loopw [6, 27] (fun tv iv wr => tv = .int .u32 1 ∧ iv = i64 0 ∧ wr = w3) (fun _ _ _ => 0)
  case atStart => exact ⟨rfl, rfl, rfl⟩
  case round =>
    obtain ⟨rfl, rfl, rfl⟩ := hrel
    go_wp2_with fail
    refine (GC _).out.mono ?_; rintro e w4 ⟨rfl, hh4, hb4⟩
    go_wp2_with fail
    go_ret2
    obtain ⟨hst, hN, hnts, hnm, ht, hsq, hof, hHS, hHZ, hil, hel, hop, hHo, hB⟩ := HR.out
    have hb5 := Base.al hb4 (.cells #[T.ptr, ptr0 wr.heap.size, .pointer none, .pointer none, .pointer none, .pointer none, .pointer none, .pointer none, .pointer none, .pointer none, .int .u32 2] 81)
    have hbw := HB1.out.size
    have hz4 := hb4.size
    have hbs := hst.base
    have hBO := HBO.out
    refine ⟨B, ⟨w4.heap.size, wr.heap.size, T, fun _ => none, 2, 0, none, 0, 0⟩, rfl, ⟨blk_new w4 _, by show B ≤ w4.heap.size; omega, hbs, hst.below hb5, blk_old hh4, (by intro i D hd; cases hd), (by intro i j D E hd; cases hd), ?_, by omega⟩, rfl, rfl, rfl, rfl, rfl, rfl, hN, hnts, hnm, ht, hsq, hof, hHS, hHZ, hil, hel, hop, Base.tr HB1.out hb5⟩
    rintro k (hk | hk)
    · exact HO.out k hk
    · have := hHo k hk
      omega
end Go.Proofs.YthiimpleljaimaaGreatDoor

/- Package txn: Do, a client begins. -/
namespace Go.Proofs.YthiimpleljaimaaGreatDoor
open Go Go.RowKit Flo
attribute [local go_sem] run_store_complex

theorem MgR.client {O : Nat → Prop} {B0 B : Nat} {w : World} {M : MgV} (h : MgR O B0 B w M) {i : Nat} (hi : i < 8) : w.cell? ⟨M.mb, 2 + i, none⟩ = some (dlP (M.cl i)) := by
  match i, hi with
  | 0, _ => exact cell_blk h.box 2
  | 1, _ => exact cell_blk h.box 3
  | 2, _ => exact cell_blk h.box 4
  | 3, _ => exact cell_blk h.box 5
  | 4, _ => exact cell_blk h.box 6
  | 5, _ => exact cell_blk h.box 7
  | 6, _ => exact cell_blk h.box 8
  | 7, _ => exact cell_blk h.box 9
theorem MgV.setC (M : MgV) {i : Nat} (hi : i < 8) (d : Option DlV) : M.cells.setIfInBounds (2 + i) (dlP d) = ({ M with cl := updC M.cl i d } : MgV).cells := by
  match i, hi with
  | 0, _ => rfl
  | 1, _ => rfl
  | 2, _ => rfl
  | 3, _ => rfl
  | 4, _ => rfl
  | 5, _ => rfl
  | 6, _ => rfl
  | 7, _ => rfl
theorem MgR.putC {O : Nat → Prop} {B0 B : Nat} {w : World} {M : MgV} (h : MgR O B0 B w M) {i : Nat} (hi : i < 8) {D : DlV} (hD : DlR w B D) (hap : ∀ j E, M.cl j = some E → j ≠ i → D.b ≠ E.b ∧ D.db ≠ E.db ∧ D.V.b ≠ E.V.b) :
    MgR O B0 B (w.setCell ⟨M.mb, 2 + i, none⟩ (ptr0 D.b)) { M with cl := updC M.cl i (some D) } := by
  refine h.setM (2 + i) (ptr0 D.b) rfl (M.setC hi (some D)) ?_ ?_
  · intro j E hE
    simp only [updC] at hE
    split at hE
    · injection hE with hE
      rw [← hE]
      exact hD
    · exact h.dl j E hE
  · intro j k E F hE hF hne
    simp only [updC] at hE hF
    split at hE <;> split at hF
    · omega
    · injection hE with hE
      rw [← hE]
      exact hap k F hF (by assumption)
    · injection hF with hF
      rw [← hF]
      have := hap j E hE (by assumption)
      exact ⟨fun e => this.1 e.symm, fun e => this.2.1 e.symm, fun e => this.2.2 e.symm⟩
    · exact h.ap j k E F hE hF hne
theorem MgR.dropC {O : Nat → Prop} {B0 B : Nat} {w : World} {M : MgV} (h : MgR O B0 B w M) {i : Nat} (hi : i < 8) :
    MgR O B0 B (w.setCell ⟨M.mb, 2 + i, none⟩ (.pointer none)) { M with cl := updC M.cl i none } := by
  refine h.setM (2 + i) (.pointer none) rfl (M.setC hi none) ?_ ?_
  · intro j E hE
    simp only [updC] at hE
    split at hE
    · cases hE
    · exact h.dl j E hE
  · intro j k E F hE hF hne
    simp only [updC] at hE hF
    split at hE <;> split at hF
    · cases hE
    · cases hE
    · cases hF
    · exact h.ap j k E F hE hF hne
/-- A new view on the store's tree. -/
abbrev vwOf (T : StV) (b : Nat) : VwV := ⟨b, T.t, T.t, .nil, .nil, T.trv, T.trv, .pointer none, .pointer none, .slice none 0 0, []⟩
set_option maxHeartbeats 16000000 in
set_option maxRecDepth 100000 in
theorem txDo_begin {O : Nat → Prop} {B0 B : Nat} {w : World} {M : MgV} (h : MgR O B0 B w M) (hon : M.T.N.off = false) (hof : M.T.offs = M.T.N.offs) {i : Nat} (hi : i < 8) (hc : M.cl i = none) (hs : M.g + M.n ≤ 1000000) (p : ByteArray) :
    Calls Tryz.prog 11 #[M.ptr, .int .i64 (i : Int), opV 1 p] w fun e w' => e = .returned (resV 0) ∧ ∃ b db vb, MgR O B0 B w' { M with cl := updC M.cl i (some ⟨b, db, vwOf M.T vb, 0, M.g + M.n⟩) } ∧ Below B0 w w' ∧ KeepR B w.heap.size w w' := by
  obtain ⟨x1, hx1⟩ : ∃ W, W = ((w.alloc (.cells (opL 1 p).toArray 24)).alloc (.cells #[.int .i64 0, .int .i64 0, .slice none 0 0, .slice none 0 0, .int .u8 0, .int .u32 0, .int .u32 0, .int .u32 0] 44)) := ⟨_, rfl⟩
  have hb1 : Below w.heap.size w x1 := by rw [hx1]; exact Base.al (Base.al (Below.refl _ _) _) _
  have hO1 : x1.heap[w.heap.size]? = some (.cells (opL 1 p).toArray 24 (0, 0)) := by rw [hx1]; exact blk_old (blk_new w _)
  have hR1 : x1.heap[w.heap.size + 1]? = some (.cells (resL 0).toArray 44 (0, 0)) := by rw [hx1]; exact blk_new1 w _ _
  have GG := fun W (hb : Below w.heap.size w W) => Lib.hid (txGone_any (cell_blk (h.below hb).box 0) ⟨_, rfl⟩ (stGone_any (h.below hb).st hon hof))
  have GF := fun W => Lib.hid (txFailed_any 0 W)
  have hwB := h.st.base
  have hB0B := h.le
  have H1 := Lib.hid h
  have HX := Lib.hid hx1
  have HC := Lib.hid hc
  have ti1 : decide ((i : Int) < 0) = false := decide_eq_false (by omega)
  have ti2 : decide ((8 : Int) ≤ (i : Int)) = false := decide_eq_false (by omega)
  clear h hon hof hc
  go_enter Tryz.func11, Tryz.ntmps11
  go_wp2_with fail
  rw [← HX.out]
  clear HX hx1
  refine (GG _ hb1).out.mono ?_; rintro e w1 ⟨rfl, hb2⟩
  have hb3 := Base.tr hb1 hb2
  have M1 := H1.out.below hb3
  have hO2 := blk_below hO1 hb2
  have hR2 := blk_below hR1 hb2
  have c0 : w1.cell? ⟨M.mb, 0, none⟩ = some M.T.ptr := cell_blk M1.box 0
  have c1 : w1.cell? ⟨M.mb, 1, none⟩ = some (ptr0 M.hb) := cell_blk M1.box 1
  have ci := M1.client hi
  rw [HC.out] at ci
  unfold dlP at ci
  have k0 : w1.cell? ⟨w.heap.size, 0, none⟩ = some (.int .u8 1) := cell_blk hO2 0
  clear hb1 hb2 hO1 hR1 GG
  go_wp2_with fail
  have hlm := M1.lt
  have q0 := fun p : OnOf w1 => on_cell hlm c0 p
  have q1 := fun p : OnOf w1 => on_cell hlm c1 p
  have HM1 := Lib.hid M1
  have fzM := fun o => frozen_blk M1.box o
  have hbB := M1.st.base
  have hBm := M1.mb
  clear c0 c1 k0 M1 H1
  have hiI : (i : Int) < 8 := by omega
  refine wp_region_po (fun w' => ∃ p : OnOf w1, w' = p.v) 19 [6, 7, 8, 13, 15] (by kernel_rfl) (by kernel_rfl) ⟨⟨_, Base.dr (Below.refl _ _)⟩, rfl⟩ ?_
  simp only [List.take_succ_cons, List.take_zero, List.drop_succ_cons, List.drop_zero]
  have on0 := @on_rd0; have on1 := @on_rd1; have on2 := @on_rd2; have on3 := @on_new1; have on4 := @on_new2; have on5 := @gr_rd0
  repeat ((with_reducible refine seq_read ?_ ?_); (focus rfl); (intro K hK); (unfold readsAt); go_simp; first | ((with_reducible refine hK _ ?_); clear hK K) | (rw [if_neg (by intro h; cases h)]; (with_reducible refine hK _ ?_); clear hK K))
  have hd0 := Base.dr (Below.refl _ w1)
  refine seq_eff (by rfl) (by first | rfl | go_simp) ?_
  intro K hK
  unfold effAt2
  go_simp
  refine ⟨rfl, (stTree_any (HM1.out.below hd0).st).mono ?_⟩; rintro e w2 ⟨rfl, rfl⟩
  refine ⟨_, rfl, ⟨⟨_, hd0⟩, rfl⟩, hK _ _ ?_⟩
  clear hK K
  repeat ((with_reducible refine seq_read ?_ ?_); (focus rfl); (intro K hK); (unfold readsAt); go_simp; first | ((with_reducible refine hK _ ?_); clear hK K) | (rw [if_neg (by intro h; cases h)]; (with_reducible refine hK _ ?_); clear hK K))
  refine seq_eff (by rfl) (by first | rfl | go_simp) ?_
  intro K hK
  unfold effAt2
  go_simp
  refine ⟨rfl, (vwNew_any (HM1.out.below hd0).st.tree (HM1.out.below hd0).st.base).mono ?_⟩; rintro e w2 ⟨rfl, hv2, hd2⟩
  have hd2 := Base.tr hd0 hd2
  refine ⟨_, rfl, ⟨⟨_, hd2⟩, rfl⟩, hK _ _ ?_⟩
  clear hK K
  repeat ((with_reducible refine seq_read ?_ ?_); (focus rfl); (intro K hK); (unfold readsAt); go_simp; first | ((with_reducible refine hK _ ?_); clear hK K) | (rw [if_neg (by intro h; cases h)]; (with_reducible refine hK _ ?_); clear hK K))
  refine seq_eff (by rfl) (by first | rfl | go_simp) ?_
  intro K hK
  unfold effAt2
  go_simp
  refine ⟨rfl, (opsNew_any hv2).mono ?_⟩; rintro e w3 ⟨rfl, hk3, hd3⟩
  have hd3' := Base.tr hd2 hd3
  refine ⟨_, rfl, ⟨⟨_, hd3'⟩, rfl⟩, hK _ _ ?_⟩
  clear hK K
  repeat ((with_reducible refine seq_read ?_ ?_); (focus rfl); (intro K hK); (unfold readsAt); go_simp; first | ((with_reducible refine hK _ ?_); clear hK K) | (rw [if_neg (by intro h; cases h)]; (with_reducible refine hK _ ?_); clear hK K))
  refine seq_eff (by rfl) (by first | rfl | go_simp) ?_
  intro K hK
  unfold effAt2
  go_simp
  refine ⟨rfl, (hsNow_any (HM1.out.below hd3').hs hs).mono ?_⟩; rintro e w4 ⟨rfl, hd4⟩
  have hd4' := Base.tr hd3' hd4
  refine ⟨_, rfl, ⟨⟨_, hd4'⟩, rfl⟩, hK _ _ ?_⟩
  clear hK K
  repeat ((with_reducible refine seq_read ?_ ?_); (focus rfl); (intro K hK); (unfold readsAt); go_simp; first | ((with_reducible refine hK _ ?_); clear hK K) | (rw [if_neg (by intro h; cases h)]; (with_reducible refine hK _ ?_); clear hK K))
  refine seq_eff (by rfl) (by first | rfl | go_simp) ?_
  intro K hK
  unfold effAt2
  go_simp
  have hd5 := Base.al hd4' (.cells #[.pointer (some ⟨w2.heap.size, 0, none⟩), .int .u64 ((M.g : Int) + (M.n : Int)), .bool false] 95)
  have hb5 := blk_new w4 (.cells #[.pointer (some ⟨w2.heap.size, 0, none⟩), .int .u64 ((M.g : Int) + (M.n : Int)), .bool false] 95)
  have hd45 := Base.al hd4 (.cells #[.pointer (some ⟨w2.heap.size, 0, none⟩), .int .u64 ((M.g : Int) + (M.n : Int)), .bool false] 95)
  refine ⟨⟨⟨_, hd5⟩, rfl⟩, hK _ _ ?_⟩
  clear hK K
  repeat ((with_reducible refine seq_read ?_ ?_); (focus rfl); (intro K hK); (unfold readsAt); go_simp; first | ((with_reducible refine hK _ ?_); clear hK K) | (rw [if_neg (by intro h; cases h)]; (with_reducible refine hK _ ?_); clear hK K))
  clear on0 on1 on2 on3 on4 on5
  with_reducible refine seq_nil ?_
  generalize w4.alloc (.cells #[.pointer (some ⟨w2.heap.size, 0, none⟩), .int .u64 ((M.g : Int) + (M.n : Int)), .bool false] 95) = w5 at *
  have hD5 : DlR w5 B ⟨w4.heap.size, w2.heap.size, vwOf M.T w1.drew.heap.size, 0, M.g + M.n⟩ := ⟨by show w5.heap[w4.heap.size]? = some (Obj.cells #[ptr0 w2.heap.size, .int .u64 ((M.g + M.n : Nat) : Int), .bool false] 95 (0, 0)); rw [Int.natCast_add]; exact hb5, by show B ≤ w4.heap.size; have := hd4'.size; omega, hk3.below hd45⟩
  have M5 := HM1.out.below hd5
  have hzd : w1.drew.heap.size = w1.heap.size := rfl
  have hM6 := M5.putC hi hD5 (fun j E hE _ => by
    have hE := HM1.out.dl j E hE
    have e1 := (Array.getElem?_eq_some_iff.1 hE.box).1
    have e2 := hE.dk.lt
    have e3 := hE.dk.vw.lt
    have z4 := hd4'.size
    have z2 := hd2.size
    exact ⟨by show w4.heap.size ≠ _; omega, by show w2.heap.size ≠ _; omega, by show w1.drew.heap.size ≠ _; omega⟩)
  have cM5 := M5.client hi
  rw [HC.out] at cM5
  unfold dlP at cM5
  have fz5 := frozen_blk M5.box (2 + i)
  have hR5 := blk_below hR2 hd5
  have hneR : w.heap.size + 1 ≠ M.mb := ne_type hR5 M5.box (by decide)
  have ho6 : Out (· = M.mb) w5 (w5.setCell ⟨M.mb, 2 + i, none⟩ (ptr0 w4.heap.size)) := Out.set (O := (· = M.mb)) (Out.refl _ w5) rfl _ _
  have hR6 := ho6.blk hR5 hneR
  have hl6 := M5.lo
  have hmB := M5.mb
  have hBB := M5.le
  have hb6 : Below B0 w (w5.setCell ⟨M.mb, 2 + i, none⟩ (ptr0 w4.heap.size)) := lowTr (Below.low (Base.tr hb3 hd5) (by omega)) (ho6.base (fun k hk => by rw [hk]; omega) (by have := hb3.size; have := hd5.size; omega))
  have HM6 := Lib.hid hM6
  have HB6 := Lib.hid hb6
  have HK6 : Hid (KeepR B w.heap.size w (w5.setCell ⟨M.mb, 2 + i, none⟩ (ptr0 w4.heap.size))) := Lib.hid ((KeepR.of_below (Base.tr hb3 hd5)).trans (KeepR.of_type ho6 M5.box (by decide)))
  clear hM6 hb6 hD5 M5 q0 q1 hd5 hb5 hd45 hd4' hd4 hk3 hd3 hd3' hv2 hd2 hl6 hR5
  go_wp2_with fail
  have hz5 : (w5.setCell ⟨M.mb, 2 + i, none⟩ (.pointer (some ⟨w4.heap.size, 0, none⟩))).heap.size = w5.heap.size := by simp [World.setCell]
  generalize w5.setCell ⟨M.mb, 2 + i, none⟩ (.pointer (some ⟨w4.heap.size, 0, none⟩)) = w6 at *
  refine (GF _).out.mono ?_; rintro e w7 ⟨rfl, hb7⟩
  have hR7 := blk_below hR6 hb7
  have HM7 := Lib.hid (HM6.out.below hb7)
  have HK7 := Lib.hid (HK6.out.trans (KeepR.of_below hb7))
  have HB7 := Lib.hid (lowTr HB6.out (Below.low hb7 (Nat.le_trans (Nat.le_trans hB0B hwB) HB6.out.size)))
  have z0 := cell_blk hR7 0
  have z1 := cell_blk hR7 1
  have z2 := cell_blk hR7 2
  have z3 := cell_blk hR7 3
  have z4 := cell_blk hR7 4
  have z5 := cell_blk hR7 5
  have z6 := cell_blk hR7 6
  have z7 := cell_blk hR7 7
  have fz := fun o => frozen_blk hR7 o
  have hl3 := (Array.getElem?_eq_some_iff.1 hR7).1
  have HR7 := Lib.hid hR7
  simp at z0 z1 z2 z3 z4 z5 z6 z7
  clear hR7 hR6 hb7 GF cM5 fz5 ho6 ci fzM hO2 hR2 hd0 hb3 hiI
  go_wp2_with fail
  have hs4 : ((((((((w7.setCell ⟨w.heap.size + 1, 0, none⟩ (.int .i64 0)).setCell ⟨w.heap.size + 1, 1, none⟩ (.int .i64 0)).setCell ⟨w.heap.size + 1, 2, none⟩ (.slice none 0 0)).setCell ⟨w.heap.size + 1, 3, none⟩ (.slice none 0 0)).setCell ⟨w.heap.size + 1, 4, none⟩ (.int .u8 0)).setCell ⟨w.heap.size + 1, 5, none⟩ (.int .u32 0)).setCell ⟨w.heap.size + 1, 6, none⟩ (.int .u32 0)).setCell ⟨w.heap.size + 1, 7, none⟩ (.int .u32 0)) = sets w7 (w.heap.size + 1) 0 (resL 0) := rfl
  rw [hs4]
  clear hs4
  have hR4 := sets_at HR7.out (resL 0) rfl
  have ho4 : Out (· = w.heap.size + 1) w7 (sets w7 (w.heap.size + 1) 0 (resL 0)) := Out.of_sets (Q := (· = w.heap.size + 1)) w7 rfl _ 0
  generalize sets w7 (w.heap.size + 1) 0 (resL 0) = w4 at *
  have r0 : w4.cell? ⟨w.heap.size + 1, 0, none⟩ = some (i64 (0 : Nat)) := cell_blk hR4 0
  have r1 : w4.cell? ⟨w.heap.size + 1, 1, none⟩ = some (.int .i64 0) := cell_blk hR4 1
  have r2 : w4.cell? ⟨w.heap.size + 1, 2, none⟩ = some (.slice none 0 0) := cell_blk hR4 2
  have r3 : w4.cell? ⟨w.heap.size + 1, 3, none⟩ = some (.slice none 0 0) := cell_blk hR4 3
  have r4 : w4.cell? ⟨w.heap.size + 1, 4, none⟩ = some (.int .u8 0) := cell_blk hR4 4
  have r5 : w4.cell? ⟨w.heap.size + 1, 5, none⟩ = some (.int .u32 0) := cell_blk hR4 5
  have r6 : w4.cell? ⟨w.heap.size + 1, 6, none⟩ = some (.int .u32 0) := cell_blk hR4 6
  have r7 : w4.cell? ⟨w.heap.size + 1, 7, none⟩ = some (.int .u32 0) := cell_blk hR4 7
  have hMz := HM7.out.outOne HR7.out (by omega) ho4 (by decide)
  exact bodyPost_ret (v := resV 0) (by simp [results, Tryz.results11, go_sem, r0, r1, r2, r3, r4, r5, r6, r7]) rfl ⟨rfl, _, _, _, hMz, lowTr HB7.out (ho4.base (fun k hk => by rw [hk]; omega) (Nat.le_trans (Nat.le_trans hB0B hwB) HB7.out.size)), HK7.out.trans (KeepR.of_far ho4 (fun k hk => by omega))⟩
end Go.Proofs.YthiimpleljaimaaGreatDoor

