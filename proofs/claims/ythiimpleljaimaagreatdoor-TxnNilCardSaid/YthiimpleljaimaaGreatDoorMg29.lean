/- Package dirs: full, Make of the file "/a". -/
import Derived.Test.YthiimpleljaimaaGreatDoorMg26
namespace Go.Proofs.YthiimpleljaimaaGreatDoor
open Go Go.RowKit Flo
attribute [local go_sem] run_store_complex

set_option maxHeartbeats 4000000 in
set_option maxRecDepth 100000 in
theorem full_two {w : World} {g : Nat} (h : w.heap[g]? = some (.cells #[.bool true, .bool true] 4 (0, 0))) : Gives 258 #[.slice (some ⟨g, 0, none⟩) 2 2] w (i64 0) := by
  have c0 : w.cell? ⟨g, 0, none⟩ = some (.bool true) := cell_blk h 0
  have c1 : w.cell? ⟨g, 1, none⟩ = some (.bool true) := cell_blk h 1
  have hlt := (Array.getElem?_eq_some_iff.1 h).1
  clear h
  go_enter Tryz.func258, Tryz.ntmps258
  go_wp2_with fail
  go_loopw [7] (fun iv wr => (iv = i64 0 ∨ iv = i64 1 ∨ iv = i64 2) ∧ wr = w) (fun iv _ => 2 - (intOf iv).toNat)
  case atStart => exact ⟨.inl rfl, rfl⟩
  case round =>
    obtain ⟨rfl | rfl | rfl, rfl⟩ := hrel
    · go_wp2_with fail
      exact ⟨⟨.inr (.inl rfl), trivial⟩, by simp [intOf]⟩
    · go_wp2_with fail
      exact ⟨⟨.inr (.inr rfl), trivial⟩, by simp [intOf]⟩
    · go_wp2_with fail
      go_ret
      exact ⟨rfl, rfl⟩
/-- A view behind the making of the file "/a". -/
abbrev VwV.made (V : VwV) (ino : Nat) (rv wv sv : Value) : VwV :=
  { V with reads := setT (keyE 1 nameA) { data := #[] } (setT (keyI 1) { data := #[] } V.reads), readsV := rv,
           writes := setT (keyE 1 nameA) (markB ++ toB (be 4 ino)) (setT (keyI ino) (markB ++ toB (nodeL 1 1 0 0)) V.writes), writesV := wv,
           shown := setT (keyE 1 nameA) (toB (be 4 ino)) (setT (keyI ino) (toB (nodeL 1 1 0 0)) V.shown), shownV := sv }
set_option maxHeartbeats 16000000 in
set_option maxRecDepth 100000 in
theorem makeA {w : World} {B : Nat} {V : VwV} (h : VwR w B V) (ino : Nat) (hi : ino < 4294967296) (hn1 : getT (keyI 1) V.shown = none) (hn2 : getT (keyE 1 nameA) V.shown = none) (hs : V.reads.size ≤ 400000) (hw : V.writes.size ≤ 40) (hs2 : V.shown.size ≤ 400000) :
    Calls Tryz.prog 209 #[V.ptr, .string pathA, .int .u8 1, .int .u32 (ino : Int)] w fun e w' => e = .returned (i64 0) ∧ ∃ rv wv sv, VwR w' B (V.made ino rv wv sv) ∧ Out (· = V.b) w w' := by
  have GF := Lib.hid (findA h hn1 hn2 hs)
  have GN := fun W => Lib.hid (nodeNew_file 1 W)
  have z1 := setT_size (keyI ino) (markB ++ toB (nodeL 1 1 0 0)) V.writes
  have z2 := setT_size (keyI ino) (toB (nodeL 1 1 0 0)) V.shown
  have GS : ∀ W rv, VwR W B { V with reads := setT (keyE 1 nameA) { data := #[] } (setT (keyI 1) { data := #[] } V.reads), readsV := rv } → Hid (Calls Tryz.prog 259 #[V.ptr, .int .u32 (ino : Int), nodeV 1 1 0 0] W fun e w' => e = .returned (.bool true) ∧ ∃ wv sv, VwR w' B { V with reads := setT (keyE 1 nameA) { data := #[] } (setT (keyI 1) { data := #[] } V.reads), readsV := rv, writes := setT (keyI ino) (markB ++ toB (nodeL 1 1 0 0)) V.writes, writesV := wv, shown := setT (keyI ino) (toB (nodeL 1 1 0 0)) V.shown, shownV := sv } ∧ Out (· = V.b) W w') := fun W rv hv =>
    Lib.hid (saveNew hv ino 1 1 0 0 hi (by decide) (by decide) (by decide) (by unfold vwRoomB; rw [Bool.or_eq_true]; exact .inr (decide_eq_true (by show V.writes.size < 48; omega))) (by show V.writes.size ≤ 500000; omega) (by show V.shown.size ≤ 500000; omega))
  have GH : ∀ W rv wv sv, VwR W B { V with reads := setT (keyE 1 nameA) { data := #[] } (setT (keyI 1) { data := #[] } V.reads), readsV := rv, writes := setT (keyI ino) (markB ++ toB (nodeL 1 1 0 0)) V.writes, writesV := wv, shown := setT (keyI ino) (toB (nodeL 1 1 0 0)) V.shown, shownV := sv } → Hid (Calls Tryz.prog 260 #[V.ptr, .int .u32 1, .string nameA, .int .u32 (ino : Int)] W fun e w' => e = .returned (.bool true) ∧ ∃ wv sv, VwR w' B (V.made ino rv wv sv) ∧ Out (· = V.b) W w') := fun W rv wv sv hv =>
    Lib.hid (hangNew hv 1 nameA ino (by decide) hi (by decide) (by unfold vwRoomB; rw [Bool.or_eq_true]; exact .inr (decide_eq_true (by show (setT _ _ V.writes).size < 48; omega))) (by show (setT _ _ V.writes).size ≤ 500000; omega) (by show (setT _ _ V.shown).size ≤ 500000; omega))
  have GU := fun (W : World) (g : Nat) (hg : W.heap[g]? = some (.cells #[.bool true, .bool true] 4 (0, 0))) => Lib.hid (full_two hg)
  have hlt := h.lt
  clear h hn1 hn2 hs hw hs2 z1 z2
  go_enter Tryz.func209, Tryz.ntmps209
  go_wp2_with fail
  refine GF.out.mono ?_; rintro e w1 ⟨rfl, rv, hv1, ho1⟩
  have HV1 := Lib.hid hv1
  have HO1 := Lib.hid ho1
  have hz1 := ho1.size
  clear hv1 ho1 GF
  go_wp2_with fail
  refine (GN _).out.mono ?_; rintro e w2 ⟨rfl, hb2⟩
  have hb3 := Base.tr (Base.al (Below.refl _ w1) (.cells #[.int .u32 1, .string nameA, .int .u32 0, .int .u8 0, .int .u32 0, .int .u32 0, .int .u32 0] 347)) hb2
  have hS2 : spotAt w2 w1.heap.size (spotL 1 nameA 0 0 0 0 0) := blk_below (blk_new w1 _) hb2
  have HV2 := Lib.hid (HV1.out.below hb3)
  have HO2 := Lib.hid (HO1.out.then hb3)
  have hz2 := hb3.size
  have HS2 := Lib.hid hS2
  clear hS2 hb2 hb3 HV1 HO1 GN
  go_wp2_with fail
  obtain ⟨w3, hw3⟩ : ∃ W, W = w2.alloc (.cells #[.int .u8 1, .int .u32 1, .int .u32 0, .int .u32 0] 42) := ⟨_, rfl⟩
  rw [← hw3]
  have hb3 : Below w2.heap.size w2 w3 := by rw [hw3]; exact Base.al (Below.refl _ _) _
  have hI3 : w3.heap[w2.heap.size]? = some (.cells #[.int .u8 1, .int .u32 1, .int .u32 0, .int .u32 0] 42 (0, 0)) := by rw [hw3]; exact blk_new w2 _
  have hS3 : spotAt w3 w1.heap.size (spotL 1 nameA 0 0 0 0 0) := blk_below HS2.out hb3
  have HV3 := Lib.hid (HV2.out.below hb3)
  have HO3 := Lib.hid (HO2.out.then hb3)
  have hlI := (Array.getElem?_eq_some_iff.1 hI3).1
  have hlS := (Array.getElem?_eq_some_iff.1 hS3).1
  have nI : ¬ w2.heap.size = V.b := by omega
  have nS : ¬ w1.heap.size = V.b := by omega
  have i0 := fun q : OutOf (· = V.b) w3 => out_rd (o := 0) hlI nI (cell_blk hI3 0) q
  have i1 := fun q : OutOf (· = V.b) w3 => out_rd (o := 1) hlI nI (cell_blk hI3 1) q
  have i2 := fun q : OutOf (· = V.b) w3 => out_rd (o := 2) hlI nI (cell_blk hI3 2) q
  have i3 := fun q : OutOf (· = V.b) w3 => out_rd (o := 3) hlI nI (cell_blk hI3 3) q
  have s0 := fun q : OutOf (· = V.b) w3 => out_rd (o := 0) hlS nS (cell_blk hS3 0) q
  have s1 := fun q : OutOf (· = V.b) w3 => out_rd (o := 1) hlS nS (cell_blk hS3 1) q
  simp at i0 i1 i2 i3 s0 s1
  have HI3 := Lib.hid hI3
  clear hw3 hb3 hI3 hS3 HV2 HO2 HS2
  refine wp_region_po (fun w' => ∃ p : OutOf (· = V.b) w3, w' = p.v) 14 [3, 10, 11, 12] (by kernel_rfl) (by kernel_rfl) ⟨⟨_, Out.of_below (Base.dr (Below.refl _ _))⟩, rfl⟩ ?_
  simp only [List.take_succ_cons, List.take_zero, List.drop_succ_cons, List.drop_zero]
  have on0 := @on_rd0; have on1 := @on_rd1; have on2 := @on_rd2; have on3 := @on_new1; have on4 := @on_new2; have on5 := @gr_rd0
  repeat ((with_reducible refine seq_read ?_ ?_); (focus rfl); (intro K hK); (unfold readsAt); go_simp; first | ((with_reducible refine hK _ ?_); clear hK K) | (rw [if_neg (by intro h; cases h)]; (with_reducible refine hK _ ?_); clear hK K))
  refine seq_eff (by rfl) (by first | rfl | go_simp) ?_
  intro K hK
  unfold effAt2
  go_simp
  refine ⟨rfl, (GS _ rv (HV3.out.below (Base.dr (Below.refl _ _)))).out.mono ?_⟩; rintro e w4 ⟨rfl, wv, sv, hv4, ho4⟩
  have ho4' := (Out.of_below (O := (· = V.b)) (Base.dr (Below.refl _ w3))).trans ho4
  refine ⟨_, rfl, ⟨⟨_, ho4'⟩, rfl⟩, hK _ _ ?_⟩
  clear hK K
  repeat ((with_reducible refine seq_read ?_ ?_); (focus rfl); (intro K hK); (unfold readsAt); go_simp; first | ((with_reducible refine hK _ ?_); clear hK K) | (rw [if_neg (by intro h; cases h)]; (with_reducible refine hK _ ?_); clear hK K))
  refine seq_eff (by rfl) (by first | rfl | go_simp) ?_
  intro K hK
  unfold effAt2
  go_simp
  refine ⟨rfl, (GH _ rv wv sv hv4).out.mono ?_⟩; rintro e w5 ⟨rfl, wv5, sv5, hv5, ho5⟩
  have ho5' := ho4'.trans ho5
  refine ⟨_, rfl, ⟨⟨_, ho5'⟩, rfl⟩, hK _ _ ?_⟩
  clear hK K
  repeat ((with_reducible refine seq_read ?_ ?_); (focus rfl); (intro K hK); (unfold readsAt); go_simp; first | ((with_reducible refine hK _ ?_); clear hK K) | (rw [if_neg (by intro h; cases h)]; (with_reducible refine hK _ ?_); clear hK K))
  refine seq_eff (by rfl) (by first | rfl | go_simp) ?_
  intro K hK
  unfold effAt2
  go_simp
  unfold effUpon2
  have ho6 : Out (· = V.b) w3 (w5.alloc (.cells #[.bool true, .bool true] 4)) := ho5'.then (Base.al (Below.refl _ _) _)
  refine ⟨⟨⟨_, ho6⟩, rfl⟩, hK _ _ ?_⟩
  clear hK K
  repeat ((with_reducible refine seq_read ?_ ?_); (focus rfl); (intro K hK); (unfold readsAt); go_simp; first | ((with_reducible refine hK _ ?_); clear hK K) | (rw [if_neg (by intro h; cases h)]; (with_reducible refine hK _ ?_); clear hK K))
  refine seq_eff (by rfl) (by first | rfl | go_simp) ?_
  intro K hK
  unfold effAt2
  go_simp
  refine ⟨rfl, (GU _ _ (blk_new w5 _)).out.mono ?_⟩; rintro e w6 ⟨rfl, rfl⟩
  refine ⟨_, rfl, ⟨⟨_, ho6⟩, rfl⟩, hK _ _ ?_⟩
  clear hK K
  repeat ((with_reducible refine seq_read ?_ ?_); (focus rfl); (intro K hK); (unfold readsAt); go_simp; first | ((with_reducible refine hK _ ?_); clear hK K) | (rw [if_neg (by intro h; cases h)]; (with_reducible refine hK _ ?_); clear hK K))
  clear on0 on1 on2 on3 on4 on5
  with_reducible refine seq_nil ?_
  have hI6 := ho6.blk HI3.out nI
  have HV6 := Lib.hid (hv5.below (Base.al (Below.refl _ w5) (.cells #[.bool true, .bool true] 4)))
  have HO6 := Lib.hid (HO3.out.trans ho6)
  generalize w5.alloc (.cells #[.bool true, .bool true] 4) = w6 at *
  have y0 : w6.cell? ⟨w2.heap.size, 0, none⟩ = some (.int .u8 1) := cell_blk hI6 0
  have hl6 := (Array.getElem?_eq_some_iff.1 hI6).1
  clear i0 i1 i2 i3 s0 s1 hv4 ho4 ho4' hv5 ho5 ho5' ho6 hI6 GS GH GU
  go_wp2_with fail
  go_ret
  exact ⟨rfl, rv, wv5, sv5, HV6.out, HO6.out⟩
end Go.Proofs.YthiimpleljaimaaGreatDoor

/- Package ops: a desk in memory; New, View, failed, Makes, how, create, Do of the making of "/a". -/
namespace Go.Proofs.YthiimpleljaimaaGreatDoor
open Go Go.RowKit Flo
attribute [local go_sem] run_store_complex

abbrev u32z : Value := .int .u32 0
abbrev deskL (v : Value) (f : Nat) : List Value := [v, u32z, u32z, u32z, u32z, u32z, u32z, u32z, u32z, u32z, u32z, u32z, u32z, u32z, u32z, u32z, u32z, .int .u32 (f : Int)]
/-- A desk without handles, in memory. -/
structure DkR (w : World) (B : Nat) (db : Nat) (V : VwV) (f : Nat) : Prop where
  box : w.heap[db]? = some (.cells (deskL V.ptr f).toArray 143 (0, 0))
  hb : B ≤ db
  vw : VwR w B V
theorem DkR.lt {w : World} {B db f : Nat} {V : VwV} (h : DkR w B db V f) : db < w.heap.size := (Array.getElem?_eq_some_iff.1 h.box).1
theorem DkR.below {w w' : World} {B db f : Nat} {V : VwV} (h : DkR w B db V f) (hb : Below w.heap.size w w') : DkR w' B db V f := ⟨blk_below h.box hb, h.hb, h.vw.below hb⟩
theorem DkR.ne {w : World} {B db f : Nat} {V : VwV} (h : DkR w B db V f) : db ≠ V.b := ne_type h.box h.vw.box (by decide)
/-- The fresh number is written. -/
theorem DkR.setF {w : World} {B db f : Nat} {V : VwV} (h : DkR w B db V f) (g : Nat) : DkR (w.setCell ⟨db, 17, none⟩ (.int .u32 (g : Int))) B db V g :=
  ⟨heap_setCell h.box 17 _, h.hb, h.vw.sets h.box (by decide) (by decide) (by decide) [.int .u32 (g : Int)] 17⟩
/-- What an operation is answered: its cells. -/
abbrev resL (e : Nat) : List Value := [i64 e, i64 0, .slice none 0 0, .slice none 0 0, .int .u8 0, u32z, u32z, u32z]
abbrev resV (e : Nat) : Value := .agg (resL e).toArray
/-- An operation's cells: a kind, a path, nothing else. -/
abbrev opL (k : Nat) (path : ByteArray) : List Value := [.int .u8 (k : Int), .string path, .string { data := #[] }, i64 0, i64 0, i64 0, .slice none 0 0]
abbrev opV (k : Nat) (path : ByteArray) : Value := .agg (opL k path).toArray

set_option maxHeartbeats 4000000 in
set_option maxRecDepth 100000 in
theorem opsNew_any {w : World} {B : Nat} {V : VwV} (h : VwR w B V) : Calls Tryz.prog 34 #[V.ptr] w fun e w' => e = .returned (.pointer (some ⟨w.heap.size, 0, none⟩)) ∧ DkR w' B w.heap.size V 0 ∧ Below w.heap.size w w' := by
  have H := Lib.hid h
  clear h
  go_enter Tryz.func34, Tryz.ntmps34
  go_wp2_with fail
  go_ret
  exact ⟨rfl, ⟨blk_new w _, H.out.baseLe, H.out.below (Base.al (Below.refl _ _) _)⟩, Base.al (Below.refl _ _) _⟩
set_option maxHeartbeats 4000000 in
set_option maxRecDepth 100000 in
theorem dkView_any {w : World} {B db f : Nat} {V : VwV} (h : DkR w B db V f) : Gives 42 #[.pointer (some ⟨db, 0, none⟩)] w V.ptr := by
  have c0 : w.cell? ⟨db, 0, none⟩ = some V.ptr := cell_blk h.box 0
  clear h
  go_enter Tryz.func42, Tryz.ntmps42
  go_wp2_with fail
  go_ret
  exact ⟨rfl, rfl⟩
set_option maxHeartbeats 4000000 in
set_option maxRecDepth 100000 in
theorem opsFailed_any (e : Nat) (w : World) : Makes 102 #[i64 e] w (resV e) := by
  go_enter Tryz.func102, Tryz.ntmps102
  go_wp2_with fail
  exact bodyPost_ret (v := resV e) (by simp [results, Tryz.results102, go_sem]) rfl ⟨rfl, Base.al (Below.refl _ _) _⟩
set_option maxHeartbeats 4000000 in
set_option maxRecDepth 100000 in
theorem opsMakes_create (path : ByteArray) (w : World) : Makes 69 #[opV 4 path] w (.bool true) := by
  go_enter Tryz.func69, Tryz.ntmps69
  go_wp2_with fail
  go_ret
  exact ⟨rfl, Base.al (Below.refl _ _) _⟩
set_option maxHeartbeats 4000000 in
set_option maxRecDepth 100000 in
theorem how_create (w : World) : Gives 103 #[.int .u8 4] w (.func (.func 142) #[] #[]) := by
  go_enter Tryz.func103, Tryz.ntmps103
  go_wp2_with fail
  go_ret
  exact ⟨rfl, rfl⟩
set_option maxHeartbeats 16000000 in
set_option maxRecDepth 100000 in
theorem createA {w : World} {B db f : Nat} {V : VwV} (h : DkR w B db V f) (hi : f < 4294967296) (hn1 : getT (keyI 1) V.shown = none) (hn2 : getT (keyE 1 nameA) V.shown = none) (hs : V.reads.size ≤ 400000) (hw : V.writes.size ≤ 40) (hs2 : V.shown.size ≤ 400000) :
    Calls Tryz.prog 142 #[.pointer (some ⟨db, 0, none⟩), opV 4 pathA] w fun e w' => e = .returned (resV 0) ∧ ∃ rv wv sv, DkR w' B db (V.made f rv wv sv) f ∧ Out (· = V.b) w w' := by
  have GM := fun W (hb : Below w.heap.size w W) => Lib.hid (makeA (h.vw.below hb) f hi hn1 hn2 hs hw hs2)
  have GF := fun W => Lib.hid (opsFailed_any 0 W)
  have hlt := h.lt
  have hlV := h.vw.lt
  have hne := h.ne
  have H := Lib.hid h
  clear h hn1 hn2 hs hw hs2
  go_enter Tryz.func142, Tryz.ntmps142
  go_wp2_with fail
  obtain ⟨w1, hw1⟩ : ∃ W, W = ((w.alloc (.cells (opL 4 pathA).toArray 24)).alloc (.cells #[.int .i64 0, .int .i64 0, .slice none 0 0, .slice none 0 0, .int .u8 0, .int .u32 0, .int .u32 0, .int .u32 0] 44)) := ⟨_, rfl⟩
  rw [← hw1]
  have hb1 : Below w.heap.size w w1 := by rw [hw1]; exact Base.al (Base.al (Below.refl _ _) _) _
  have hO1 : w1.heap[w.heap.size]? = some (.cells (opL 4 pathA).toArray 24 (0, 0)) := by rw [hw1]; exact blk_old (blk_new w _)
  have hR1 : w1.heap[w.heap.size + 1]? = some (.cells (resL 0).toArray 44 (0, 0)) := by rw [hw1]; exact blk_new1 w _ _
  have h1 := H.out.below hb1
  have hlO := (Array.getElem?_eq_some_iff.1 hO1).1
  have hlR := (Array.getElem?_eq_some_iff.1 hR1).1
  have nO : ¬ w.heap.size = V.b := by omega
  have nR : ¬ w.heap.size + 1 = V.b := by omega
  have q0 := fun q : OutOf (· = V.b) w1 => out_rd (o := 0) h1.lt hne (cell_blk h1.box 0) q
  have q17 := fun q : OutOf (· = V.b) w1 => out_rd (o := 17) h1.lt hne (cell_blk h1.box 17) q
  have p1 := fun q : OutOf (· = V.b) w1 => out_rd (o := 1) hlO nO (cell_blk hO1 1) q
  simp at q0 q17 p1
  have H1 := Lib.hid h1
  have HR1 := Lib.hid hR1
  have HB1 := Lib.hid hb1
  clear hw1 h1 hO1 hR1 hb1 H
  refine wp_region_po (fun w' => ∃ p : OutOf (· = V.b) w1, w' = p.v) 12 [10, 11] (by kernel_rfl) (by kernel_rfl) ⟨⟨_, Out.of_below (Base.dr (Below.refl _ _))⟩, rfl⟩ ?_
  simp only [List.take_succ_cons, List.take_zero, List.drop_succ_cons, List.drop_zero]
  have on0 := @on_rd0; have on1 := @on_rd1; have on2 := @on_rd2; have on3 := @on_new1; have on4 := @on_new2; have on5 := @gr_rd0
  repeat ((with_reducible refine seq_read ?_ ?_); (focus rfl); (intro K hK); (unfold readsAt); go_simp; first | ((with_reducible refine hK _ ?_); clear hK K) | (rw [if_neg (by intro h; cases h)]; (with_reducible refine hK _ ?_); clear hK K))
  refine seq_eff (by rfl) (by first | rfl | go_simp) ?_
  intro K hK
  unfold effAt2
  go_simp
  refine ⟨rfl, (GM _ (Base.dr HB1.out)).out.mono ?_⟩; rintro e w2 ⟨rfl, rv, wv, sv, hv2, ho2⟩
  have ho2' := (Out.of_below (O := (· = V.b)) (Base.dr (Below.refl _ w1))).trans ho2
  refine ⟨_, rfl, ⟨⟨_, ho2'⟩, rfl⟩, hK _ _ ?_⟩
  clear hK K
  repeat ((with_reducible refine seq_read ?_ ?_); (focus rfl); (intro K hK); (unfold readsAt); go_simp; first | ((with_reducible refine hK _ ?_); clear hK K) | (rw [if_neg (by intro h; cases h)]; (with_reducible refine hK _ ?_); clear hK K))
  refine seq_eff (by rfl) (by first | rfl | go_simp) ?_
  intro K hK
  unfold effAt2
  go_simp
  refine ⟨rfl, (GF _).out.mono ?_⟩; rintro e w3 ⟨rfl, hb3⟩
  have ho3' := ho2'.then hb3
  refine ⟨_, rfl, ⟨⟨_, ho3'⟩, rfl⟩, hK _ _ ?_⟩
  clear hK K
  repeat ((with_reducible refine seq_read ?_ ?_); (focus rfl); (intro K hK); (unfold readsAt); go_simp; first | ((with_reducible refine hK _ ?_); clear hK K) | (rw [if_neg (by intro h; cases h)]; (with_reducible refine hK _ ?_); clear hK K))
  clear on0 on1 on2 on3 on4 on5
  with_reducible refine seq_nil ?_
  have hR3 := ho3'.blk HR1.out nR
  have hD3 := ho3'.blk H1.out.box hne
  have z0 := cell_blk hR3 0
  have z1 := cell_blk hR3 1
  have z2 := cell_blk hR3 2
  have z3 := cell_blk hR3 3
  have z4 := cell_blk hR3 4
  have z5 := cell_blk hR3 5
  have z6 := cell_blk hR3 6
  have z7 := cell_blk hR3 7
  have fz := fun o => frozen_blk hR3 o
  have hl3 := (Array.getElem?_eq_some_iff.1 hR3).1
  have HV3 := Lib.hid (hv2.below hb3)
  have HD3 := Lib.hid hD3
  have HR3 := Lib.hid hR3
  have HO3 := Lib.hid ((Out.of_below (O := (· = V.b)) HB1.out).trans ho3')
  simp at z0 z1 z2 z3 z4 z5 z6 z7
  clear hD3 hR3 hv2 ho2 ho2' hb3 ho3' q0 q17 p1 GM GF
  go_wp2_with fail
  have hs : ((((((((w3.setCell ⟨w.heap.size + 1, 0, none⟩ (.int .i64 0)).setCell ⟨w.heap.size + 1, 1, none⟩ (.int .i64 0)).setCell ⟨w.heap.size + 1, 2, none⟩ (.slice none 0 0)).setCell ⟨w.heap.size + 1, 3, none⟩ (.slice none 0 0)).setCell ⟨w.heap.size + 1, 4, none⟩ (.int .u8 0)).setCell ⟨w.heap.size + 1, 5, none⟩ (.int .u32 0)).setCell ⟨w.heap.size + 1, 6, none⟩ (.int .u32 0)).setCell ⟨w.heap.size + 1, 7, none⟩ (.int .u32 0)) = sets w3 (w.heap.size + 1) 0 (resL 0) := rfl
  rw [hs]
  have hR4 := sets_at HR3.out (resL 0) rfl
  have hV4 := HV3.out.sets HR3.out (by decide) (by decide) (by decide) (resL 0) 0
  have hD4 := sets_old (g := w.heap.size + 1) (k := db) (by omega) (resL 0) w3 0 HD3.out
  have hO4 : Out (· = V.b) w (sets w3 (w.heap.size + 1) 0 (resL 0)) := outTr HO3.out (Out.of_sets (Q := (· = w.heap.size + 1)) w3 rfl _ 0) (fun k hk => .inr (by rw [hk]; omega))
  generalize sets w3 (w.heap.size + 1) 0 (resL 0) = w4 at *
  have c0 : w4.cell? ⟨w.heap.size + 1, 0, none⟩ = some (i64 (0 : Nat)) := cell_blk hR4 0
  have c1 : w4.cell? ⟨w.heap.size + 1, 1, none⟩ = some (i64 0) := cell_blk hR4 1
  have c2 : w4.cell? ⟨w.heap.size + 1, 2, none⟩ = some (.slice none 0 0) := cell_blk hR4 2
  have c3 : w4.cell? ⟨w.heap.size + 1, 3, none⟩ = some (.slice none 0 0) := cell_blk hR4 3
  have c4 : w4.cell? ⟨w.heap.size + 1, 4, none⟩ = some (.int .u8 0) := cell_blk hR4 4
  have c5 : w4.cell? ⟨w.heap.size + 1, 5, none⟩ = some u32z := cell_blk hR4 5
  have c6 : w4.cell? ⟨w.heap.size + 1, 6, none⟩ = some u32z := cell_blk hR4 6
  have c7 : w4.cell? ⟨w.heap.size + 1, 7, none⟩ = some u32z := cell_blk hR4 7
  exact bodyPost_ret (v := resV 0) (by simp [results, Tryz.results142, go_sem, c0, c1, c2, c3, c4, c5, c6, c7]) rfl ⟨rfl, rv, wv, sv, ⟨hD4, H1.out.hb, hV4⟩, hO4⟩
/-- The desk and its view. -/
abbrev dkO (db vb : Nat) (k : Nat) : Prop := k = db ∨ k = vb
set_option maxHeartbeats 16000000 in
set_option maxRecDepth 100000 in
theorem dkDo_createA {w : World} {B db f0 : Nat} {V : VwV} (h : DkR w B db V f0) (f : Nat) (hi : f < 4294967296) (hn1 : getT (keyI 1) V.shown = none) (hn2 : getT (keyE 1 nameA) V.shown = none) (hs : V.reads.size ≤ 400000) (hw : V.writes.size ≤ 40) (hs2 : V.shown.size ≤ 400000) :
    Calls Tryz.prog 70 #[.pointer (some ⟨db, 0, none⟩), opV 4 pathA, .int .u32 (f : Int)] w fun e w' => e = .returned (resV 0) ∧ ∃ rv wv sv, DkR w' B db (V.made f rv wv sv) f ∧ Out (dkO db V.b) w w' := by
  have GC := fun W (hd : DkR W B db V f) => Lib.hid (createA hd hi hn1 hn2 hs hw hs2)
  have GH := fun W => Lib.hid (how_create W)
  have hlt := h.lt
  have hlV := h.vw.lt
  have hne := h.ne
  have H := Lib.hid h
  have c17 : w.cell? ⟨db, 17, none⟩ = some (.int .u32 (f0 : Int)) := cell_blk h.box 17
  have fz := fun o => frozen_blk h.box o
  clear h hn1 hn2 hs hw hs2
  go_enter Tryz.func70, Tryz.ntmps70
  go_wp2_with fail
  have hF := H.out.setF f
  have hOF : Out (dkO db V.b) w (w.setCell ⟨db, 17, none⟩ (.int .u32 (f : Int))) := (Out.refl _ _).set (.inl rfl) _ _
  have hzF : (w.setCell ⟨db, 17, none⟩ (.int .u32 (f : Int))).heap.size = w.heap.size := by simp [World.setCell]
  rw [← hzF]
  rw [← hzF] at hlt hlV
  have HOF := Lib.hid hOF
  clear hzF hOF fz c17 H
  generalize w.setCell ⟨db, 17, none⟩ (.int .u32 (f : Int)) = wF at *
  obtain ⟨w1, hw1⟩ : ∃ W, W = ((wF.alloc (.cells (opL 4 pathA).toArray 24)).alloc (.cells #[.int .i64 0, .int .i64 0, .slice none 0 0, .slice none 0 0, .int .u8 0, .int .u32 0, .int .u32 0, .int .u32 0] 44)) := ⟨_, rfl⟩
  rw [← hw1]
  have hb1 : Below wF.heap.size wF w1 := by rw [hw1]; exact Base.al (Base.al (Below.refl _ _) _) _
  have hO1 : w1.heap[wF.heap.size]? = some (.cells (opL 4 pathA).toArray 24 (0, 0)) := by rw [hw1]; exact blk_old (blk_new wF _)
  have hR1 : w1.heap[wF.heap.size + 1]? = some (.cells (resL 0).toArray 44 (0, 0)) := by rw [hw1]; exact blk_new1 wF _ _
  have h1 := hF.below hb1
  have hlO := (Array.getElem?_eq_some_iff.1 hO1).1
  have hlR := (Array.getElem?_eq_some_iff.1 hR1).1
  have nO : ¬ wF.heap.size = V.b := by omega
  have nR : ¬ wF.heap.size + 1 = V.b := by omega
  have p0 := fun q : OutOf (· = V.b) w1 => out_rd (o := 0) hlO nO (cell_blk hO1 0) q
  have p1 := fun q : OutOf (· = V.b) w1 => out_rd (o := 1) hlO nO (cell_blk hO1 1) q
  have p2 := fun q : OutOf (· = V.b) w1 => out_rd (o := 2) hlO nO (cell_blk hO1 2) q
  have p3 := fun q : OutOf (· = V.b) w1 => out_rd (o := 3) hlO nO (cell_blk hO1 3) q
  have p4 := fun q : OutOf (· = V.b) w1 => out_rd (o := 4) hlO nO (cell_blk hO1 4) q
  have p5 := fun q : OutOf (· = V.b) w1 => out_rd (o := 5) hlO nO (cell_blk hO1 5) q
  have p6 := fun q : OutOf (· = V.b) w1 => out_rd (o := 6) hlO nO (cell_blk hO1 6) q
  simp at p0 p1 p2 p3 p4 p5 p6
  have H1 := Lib.hid h1
  have HR1 := Lib.hid hR1
  have HB1 := Lib.hid hb1
  clear hw1 h1 hO1 hR1 hb1 hF
  refine wp_region_po (fun w' => ∃ p : OutOf (· = V.b) w1, w' = p.v) 6 [2, 5] (by kernel_rfl) (by kernel_rfl) ⟨⟨_, Out.of_below (Base.dr (Below.refl _ _))⟩, rfl⟩ ?_
  simp only [List.take_succ_cons, List.take_zero, List.drop_succ_cons, List.drop_zero]
  have on0 := @on_rd0; have on1 := @on_rd1; have on2 := @on_rd2; have on3 := @on_new1; have on4 := @on_new2; have on5 := @gr_rd0
  repeat ((with_reducible refine seq_read ?_ ?_); (focus rfl); (intro K hK); (unfold readsAt); go_simp; first | ((with_reducible refine hK _ ?_); clear hK K) | (rw [if_neg (by intro h; cases h)]; (with_reducible refine hK _ ?_); clear hK K))
  refine seq_eff (by rfl) (by first | rfl | go_simp) ?_
  intro K hK
  unfold effAt2
  go_simp
  refine ⟨rfl, (GH _).out.mono ?_⟩; rintro e w2 ⟨rfl, rfl⟩
  refine ⟨_, rfl, ⟨⟨_, Out.of_below (Base.dr (Below.refl _ _))⟩, rfl⟩, hK _ _ ?_⟩
  clear hK K
  repeat ((with_reducible refine seq_read ?_ ?_); (focus rfl); (intro K hK); (unfold readsAt); go_simp; first | ((with_reducible refine hK _ ?_); clear hK K) | (rw [if_neg (by intro h; cases h)]; (with_reducible refine hK _ ?_); clear hK K))
  refine seq_eff (by rfl) (by first | rfl | go_simp) ?_
  intro K hK
  unfold effAt2
  go_simp
  refine ⟨rfl, (GC _ (H1.out.below (Base.dr (Below.refl _ _)))).out.mono ?_⟩; rintro e w3 ⟨rfl, rv, wv, sv, hd3, ho3⟩
  have ho3' := (Out.of_below (O := (· = V.b)) (Base.dr (Below.refl _ w1))).trans ho3
  refine ⟨_, rfl, ⟨⟨_, ho3'⟩, rfl⟩, hK _ _ ?_⟩
  clear hK K
  repeat ((with_reducible refine seq_read ?_ ?_); (focus rfl); (intro K hK); (unfold readsAt); go_simp; first | ((with_reducible refine hK _ ?_); clear hK K) | (rw [if_neg (by intro h; cases h)]; (with_reducible refine hK _ ?_); clear hK K))
  clear on0 on1 on2 on3 on4 on5
  with_reducible refine seq_nil ?_
  have hR3 := ho3'.blk HR1.out nR
  have z0 := cell_blk hR3 0
  have z1 := cell_blk hR3 1
  have z2 := cell_blk hR3 2
  have z3 := cell_blk hR3 3
  have z4 := cell_blk hR3 4
  have z5 := cell_blk hR3 5
  have z6 := cell_blk hR3 6
  have z7 := cell_blk hR3 7
  have fz := fun o => frozen_blk hR3 o
  have hl3 := (Array.getElem?_eq_some_iff.1 hR3).1
  have HD3 := Lib.hid hd3
  have HR3 := Lib.hid hR3
  have HO3 := Lib.hid (outTr (HOF.out.then HB1.out) ho3' (fun k hk => .inl (.inr hk)))
  have hzw := HOF.out.size
  simp at z0 z1 z2 z3 z4 z5 z6 z7
  clear hR3 hd3 ho3 ho3' p0 p1 p2 p3 p4 p5 p6 GC GH
  go_wp2_with fail
  have hs : ((((((((w3.setCell ⟨wF.heap.size + 1, 0, none⟩ (.int .i64 0)).setCell ⟨wF.heap.size + 1, 1, none⟩ (.int .i64 0)).setCell ⟨wF.heap.size + 1, 2, none⟩ (.slice none 0 0)).setCell ⟨wF.heap.size + 1, 3, none⟩ (.slice none 0 0)).setCell ⟨wF.heap.size + 1, 4, none⟩ (.int .u8 0)).setCell ⟨wF.heap.size + 1, 5, none⟩ (.int .u32 0)).setCell ⟨wF.heap.size + 1, 6, none⟩ (.int .u32 0)).setCell ⟨wF.heap.size + 1, 7, none⟩ (.int .u32 0)) = sets w3 (wF.heap.size + 1) 0 (resL 0) := rfl
  rw [hs]
  have hR4 := sets_at HR3.out (resL 0) rfl
  have hV4 := HD3.out.vw.sets HR3.out (by decide) (by decide) (by decide) (resL 0) 0
  have hD4 := sets_old (g := wF.heap.size + 1) (k := db) (by omega) (resL 0) w3 0 HD3.out.box
  have hO4 : Out (dkO db V.b) w (sets w3 (wF.heap.size + 1) 0 (resL 0)) := outTr HO3.out (Out.of_sets (Q := (· = wF.heap.size + 1)) w3 rfl _ 0) (fun k hk => .inr (by rw [hk]; omega))
  generalize sets w3 (wF.heap.size + 1) 0 (resL 0) = w4 at *
  have c0 : w4.cell? ⟨wF.heap.size + 1, 0, none⟩ = some (i64 (0 : Nat)) := cell_blk hR4 0
  have c1 : w4.cell? ⟨wF.heap.size + 1, 1, none⟩ = some (i64 0) := cell_blk hR4 1
  have c2 : w4.cell? ⟨wF.heap.size + 1, 2, none⟩ = some (.slice none 0 0) := cell_blk hR4 2
  have c3 : w4.cell? ⟨wF.heap.size + 1, 3, none⟩ = some (.slice none 0 0) := cell_blk hR4 3
  have c4 : w4.cell? ⟨wF.heap.size + 1, 4, none⟩ = some (.int .u8 0) := cell_blk hR4 4
  have c5 : w4.cell? ⟨wF.heap.size + 1, 5, none⟩ = some u32z := cell_blk hR4 5
  have c6 : w4.cell? ⟨wF.heap.size + 1, 6, none⟩ = some u32z := cell_blk hR4 6
  have c7 : w4.cell? ⟨wF.heap.size + 1, 7, none⟩ = some u32z := cell_blk hR4 7
  exact bodyPost_ret (v := resV 0) (by simp [results, Tryz.results70, go_sem, c0, c1, c2, c3, c4, c5, c6, c7]) rfl ⟨rfl, rv, wv, sv, ⟨hD4, HD3.out.hb, hV4⟩, hO4⟩
end Go.Proofs.YthiimpleljaimaaGreatDoor

