/- Package view: a view in memory; New, Get, Set. -/
import Derived.Test.YthiimpleljaimaaGreatDoorMg8
import Derived.Test.YthiimpleljaimaaGreatDoorMg21
import Derived.Test.YthiimpleljaimaaGreatDoorMg4
import Derived.Test.YthiimpleljaimaaGreatDoorMg17
import Derived.Deep.DeepMust
namespace Go.Proofs.YthiimpleljaimaaGreatDoor
open Go Go.RowKit Flo

structure VwV where
  b : Nat
  base : Tr
  shown : Tr
  writes : Tr
  reads : Tr
  baseV : Value
  shownV : Value
  writesV : Value
  readsV : Value
  rg : Value
  rgs : List (ByteArray × ByteArray)
abbrev VwV.ptr (V : VwV) : Value := .pointer (some ⟨V.b, 0, none⟩)
def VwV.cells (V : VwV) : Array Value := #[V.baseV, V.shownV, V.writesV, V.readsV, V.rg]
abbrev rgRow (p : ByteArray × ByteArray) : List Value := [.string p.1, .string p.2]
/-- A view in memory, in blocks from B on. -/
structure VwR (w : World) (B : Nat) (V : VwV) : Prop where
  box : w.heap[V.b]? = some (.cells V.cells 146 (0, 0))
  hb : B ≤ V.b
  base : TreeR w B V.base V.baseV
  shown : TreeR w B V.shown V.shownV
  writes : TreeR w B V.writes V.writesV
  reads : TreeR w B V.reads V.readsV
  own : w.ownsRow B 156 2 V.rg V.rgs.length (V.rgs.flatMap rgRow)
theorem VwR.lt {w : World} {B : Nat} {V : VwV} (h : VwR w B V) : V.b < w.heap.size := (Array.getElem?_eq_some_iff.1 h.box).1
theorem VwR.baseLe {w : World} {B : Nat} {V : VwV} (h : VwR w B V) : B ≤ w.heap.size := by have := h.lt; have := h.hb; omega
theorem VwR.keep {w w' : World} {B : Nat} {V : VwV} (h : VwR w B V) (hk : ∀ g cs t f, B ≤ g → (t = 101 ∨ t = 156 ∨ g = V.b) → w.heap[g]? = some (.cells cs t f) → w'.heap[g]? = some (.cells cs t f)) : VwR w' B V := by
  have ht : ∀ {t : Tr} {v : Value}, TreeR w B t v → TreeR w' B t v := fun h => h.keep fun g cs f hg hx => hk g cs _ f hg (.inl rfl) hx
  refine ⟨hk _ _ _ _ h.hb (.inr (.inr rfl)) h.box, h.hb, ht h.base, ht h.shown, ht h.writes, ht h.reads, h.own.1, ?_⟩
  rcases h.own.2 with hn | ⟨g, cap, cur, e, hbg, hgg, rest⟩
  · exact .inl hn
  · exact .inr ⟨g, cap, cur, e, hbg, hk _ _ _ _ hbg (.inr (.inl rfl)) hgg, rest⟩
theorem VwR.below {w w' : World} {B : Nat} {V : VwV} (h : VwR w B V) (hb : Below w.heap.size w w') : VwR w' B V := h.keep fun _ _ _ _ _ _ hx => blk_below hx hb
/-- The reads, the writes, what is shown are written. -/
theorem VwR.setT {w : World} {B : Nat} {V V' : VwV} (h : VwR w B V) (i : Nat) (v : Value) (hs : V' = { V with shown := V'.shown, shownV := V'.shownV, writes := V'.writes, writesV := V'.writesV, reads := V'.reads, readsV := V'.readsV }) (hc : V.cells.setIfInBounds i v = V'.cells)
    (h1 : TreeR w B V'.shown V'.shownV) (h2 : TreeR w B V'.writes V'.writesV) (h3 : TreeR w B V'.reads V'.readsV) : VwR (w.setCell ⟨V.b, i, none⟩ v) B V' := by
  have ht : ∀ {t : Tr} {u : Value}, TreeR w B t u → TreeR (w.setCell ⟨V.b, i, none⟩ v) B t u := fun h' => h'.keep fun g cs f _ hx => blk_set hx _ _ (ne_type hx h.box (by decide))
  rw [hs]
  refine ⟨?_, h.hb, ht h.base, ht h1, ht h2, ht h3, own_setT h.own h.box (by decide)⟩
  rw [← hs, ← hc]
  have := heap_setCell h.box i v
  rw [hs]
  exact this

set_option maxHeartbeats 4000000 in
set_option maxRecDepth 100000 in
theorem vwNew_any {w : World} {B : Nat} {t : Tr} {v : Value} (h : TreeR w B t v) (hB : B ≤ w.heap.size) : Calls Tryz.prog 35 #[v] w fun e w' => e = .returned (.pointer (some ⟨w.heap.size, 0, none⟩)) ∧ VwR w' B ⟨w.heap.size, t, t, .nil, .nil, v, v, .pointer none, .pointer none, .slice none 0 0, []⟩ ∧ Below w.heap.size w w' := by
  obtain ⟨q, rfl⟩ := h.ptr
  have H := Lib.hid h
  clear h
  go_enter Tryz.func35, Tryz.ntmps35
  go_wp2_with fail
  go_ret
  refine ⟨rfl, ⟨blk_new w _, hB, H.out.below (Base.al (Below.refl _ _) _), H.out.below (Base.al (Below.refl _ _) _), rfl, rfl, World.ownsRow_nil _ _ _ _⟩, Base.al (Below.refl _ _) _⟩

set_option maxHeartbeats 8000000 in
set_option maxRecDepth 100000 in
theorem vwGet_any {w : World} {B : Nat} {V : VwV} (h : VwR w B V) (key : ByteArray) (hs : V.reads.size ≤ 500000) : Calls Tryz.prog 72 #[V.ptr, .string key] w fun e w' => e = .returned (getV key V.shown) ∧ ∃ rv, VwR w' B { V with reads := setT key { data := #[] } V.reads, readsV := rv } ∧ Out (· = V.b) w w' := by
  obtain ⟨rq, hrq⟩ := h.reads.ptr
  obtain ⟨sq, hsq⟩ := h.shown.ptr
  have G1 := Lib.hid (trSet_any key { data := #[] } V.reads h.reads h.baseLe (by omega))
  rw [hrq] at G1
  have H := Lib.hid h
  have c3 : w.cell? ⟨V.b, 3, none⟩ = some (.pointer rq) := (cell_blk h.box 3).trans (by show some V.readsV = _; rw [hrq])
  have hlt := h.lt
  have HSQ := Lib.hid hsq
  clear h hs hrq hsq
  go_enter Tryz.func72, Tryz.ntmps72
  go_wp2_with fail
  refine G1.out.mono ?_; rintro e w1 ⟨q1, rfl, ht1, hb1⟩
  have h1 := H.out.below hb1
  have d3 : w1.cell? ⟨V.b, 3, none⟩ = some V.readsV := cell_blk h1.box 3
  have fz := fun o => frozen_blk h1.box o
  have hlt1 := h1.lt
  have h2 := h1.setT (V' := { V with reads := setT key { data := #[] } V.reads, readsV := .pointer q1 }) 3 (.pointer q1) rfl rfl h1.shown h1.writes ht1
  have c1 : (w1.setCell ⟨V.b, 3, none⟩ (.pointer q1)).cell? ⟨V.b, 1, none⟩ = some (.pointer sq) := (cell_blk h2.box 1).trans (by show some V.shownV = _; rw [HSQ.out])
  have G2 := Lib.hid (trGet_any h2.shown key)
  simp only [HSQ.out] at G2
  have H2 := Lib.hid h2
  have HO := Lib.hid ((Out.of_below (O := (· = V.b)) hb1).set rfl 3 (.pointer q1))
  clear h1 h2 ht1 hb1 H G1
  go_wp2_with fail
  refine G2.out.mono ?_; rintro e w3 ⟨rfl, rfl⟩
  go_wp2_with fail
  go_ret2
  exact ⟨rfl, _, H2.out, HO.out⟩

/-- There is room for a key's writing. -/
def vwRoomB (V : VwV) (key : ByteArray) : Bool := (getT key V.writes).isSome || decide (V.writes.size < 48)
set_option maxHeartbeats 4000000 in
set_option maxRecDepth 100000 in
theorem vwRoom_any {w : World} {B : Nat} {V : VwV} (h : VwR w B V) (key : ByteArray) : Gives 294 #[V.ptr, .string key] w (.bool (vwRoomB V key)) := by
  obtain ⟨wq, hwq⟩ := h.writes.ptr
  have c2 : w.cell? ⟨V.b, 2, none⟩ = some (.pointer wq) := (cell_blk h.box 2).trans (by show some V.writesV = _; rw [hwq])
  have G1 := Lib.hid (trGet_any h.writes key)
  have G2 := Lib.hid (trLen_any h.writes)
  rw [hwq] at G1 G2
  have hlt := h.lt
  unfold vwRoomB
  unfold getV at G1
  clear h hwq
  cases hg : (getT key V.writes).isSome with
  | true =>
    rw [hg] at G1
    generalize (getT key V.writes).getD { data := #[] } = gv at *
    clear hg
    go_enter Tryz.func294, Tryz.ntmps294
    go_wp2_with fail
    refine G1.out.mono ?_; rintro e w1 ⟨rfl, rfl⟩
    go_wp2_with fail
    go_ret
    exact ⟨rfl, rfl⟩
  | false =>
    rw [hg] at G1
    generalize (getT key V.writes).getD { data := #[] } = gv at *
    generalize V.writes.size = sz at *
    clear hg
    go_enter Tryz.func294, Tryz.ntmps294
    go_wp2_with fail
    refine G1.out.mono ?_; rintro e w1 ⟨rfl, rfl⟩
    go_wp2_with fail
    refine G2.out.mono ?_; rintro e w1 ⟨rfl, rfl⟩
    go_wp2_with fail
    go_ret
    exact ⟨by simp; omega, rfl⟩

def markB : ByteArray := { data := #[61] }
set_option maxHeartbeats 8000000 in
set_option maxRecDepth 100000 in
theorem vwSet_any {w : World} {B : Nat} {V : VwV} (h : VwR w B V) (key value : ByteArray) (hr : vwRoomB V key = true) (hs : V.writes.size ≤ 500000) (hs2 : V.shown.size ≤ 500000) (hv : value.size ≤ 1000000) : Calls Tryz.prog 284 #[V.ptr, .string key, .string value] w fun e w' => e = .returned (.bool true) ∧ ∃ wv sv, VwR w' B { V with writes := setT key (markB ++ value) V.writes, writesV := wv, shown := setT key value V.shown, shownV := sv } ∧ Out (· = V.b) w w' := by
  obtain ⟨wq, hwq⟩ := h.writes.ptr
  obtain ⟨sq, hsq⟩ := h.shown.ptr
  have G0 := Lib.hid (vwRoom_any h key)
  rw [hr] at G0
  have G1 := Lib.hid (trSet_any key (markB ++ value) V.writes h.writes h.baseLe (by omega))
  rw [hwq] at G1
  have H := Lib.hid h
  have c2 : w.cell? ⟨V.b, 2, none⟩ = some (.pointer wq) := (cell_blk h.box 2).trans (by show some V.writesV = _; rw [hwq])
  have hlt := h.lt
  have HSQ := Lib.hid hsq
  obtain ⟨mv, hmv⟩ : ∃ mv, markB ++ value = mv := ⟨_, rfl⟩
  rw [hmv] at G1
  have hmv' : ({ data := #[61] } : ByteArray) ++ value = mv := hmv
  have kov : (9223372036854775807 < 1 + value.size) = False := by simp; omega
  have kov2 : (9223372036854775807 < value.size + 1) = False := by simp; omega
  have HMV := Lib.hid hmv
  clear h hs hwq hsq hr hmv
  go_enter Tryz.func284, Tryz.ntmps284
  go_wp2_with fail
  refine G0.out.mono ?_; rintro e x0 ⟨rfl, rfl⟩
  go_wp2_with fail
  refine G1.out.mono ?_; rintro e w1 ⟨q1, rfl, ht1, hb1⟩
  have h1 := H.out.below hb1
  have d2 : w1.cell? ⟨V.b, 2, none⟩ = some V.writesV := cell_blk h1.box 2
  have fz := fun o => frozen_blk h1.box o
  have hlt1 := h1.lt
  have h2 := h1.setT (V' := { V with writes := setT key mv V.writes, writesV := .pointer q1 }) 2 (.pointer q1) rfl rfl h1.shown ht1 h1.reads
  have c1 : (w1.setCell ⟨V.b, 2, none⟩ (.pointer q1)).cell? ⟨V.b, 1, none⟩ = some (.pointer sq) := (cell_blk h2.box 1).trans (by show some V.shownV = _; rw [HSQ.out])
  have G2 := Lib.hid (trSet_any key value V.shown h2.shown h2.baseLe (by omega))
  simp only [HSQ.out] at G2
  have H2 := Lib.hid h2
  have HO := Lib.hid ((Out.of_below (O := (· = V.b)) hb1).set rfl 2 (.pointer q1))
  clear h1 h2 ht1 hb1 H G1
  go_wp2_with fail
  generalize w1.setCell ⟨V.b, 2, none⟩ (.pointer q1) = w2 at *
  refine G2.out.mono ?_; rintro e w3 ⟨q3, rfl, ht3, hb3⟩
  have h3 := H2.out.below hb3
  have e1 : w3.cell? ⟨V.b, 1, none⟩ = some V.shownV := cell_blk h3.box 1
  have fz3 := fun o => frozen_blk h3.box o
  have hlt3 := h3.lt
  have h4 := h3.setT (V' := { V with writes := setT key mv V.writes, writesV := .pointer q1, shown := setT key value V.shown, shownV := .pointer q3 }) 1 (.pointer q3) rfl rfl ht3 h3.writes h3.reads
  have H4 := Lib.hid h4
  have HO4 := Lib.hid ((HO.out.then hb3).set (O := (· = V.b)) rfl 1 (.pointer q3))
  clear h3 h4 ht3 hb3 H2 HO G2 c1 d2 fz
  go_wp2_with fail
  go_ret
  refine ⟨rfl, .pointer q1, .pointer q3, ?_, HO4.out⟩
  rw [HMV.out]
  exact H4.out
end Go.Proofs.YthiimpleljaimaaGreatDoor

/- Package tree: At; package view: all. -/
namespace Go.Proofs.YthiimpleljaimaaGreatDoor
open Go Go.RowKit Flo
attribute [local go_sem] run_store_complex

/-- A tree's keys and values, in order. -/
def inT : Tr → List Pair
  | .nil => []
  | .node k x l r => inT l ++ ⟨k, x, false⟩ :: inT r
theorem inT_len : ∀ t : Tr, (inT t).length = t.size
  | .nil => rfl
  | .node k x l r => by
    have h1 := inT_len l
    have h2 := inT_len r
    show (inT l ++ ⟨k, x, false⟩ :: inT r).length = 1 + l.size + r.size
    rw [List.length_append, List.length_cons]
    omega
theorem inT_left {k x : ByteArray} {l r : Tr} {j : Nat} (h : j < l.size) : (inT (.node k x l r))[j]? = (inT l)[j]? := by
  show (inT l ++ ⟨k, x, false⟩ :: inT r)[j]? = _
  rw [List.getElem?_append_left (by rw [inT_len]; exact h)]
theorem inT_mid {k x : ByteArray} {l r : Tr} : (inT (.node k x l r))[l.size]? = some ⟨k, x, false⟩ := by
  show (inT l ++ ⟨k, x, false⟩ :: inT r)[l.size]? = _
  rw [List.getElem?_append_right (by rw [inT_len]; exact Nat.le_refl _), inT_len, Nat.sub_self]
  rfl
theorem inT_right {k x : ByteArray} {l r : Tr} {j : Nat} (h : l.size < j) : (inT (.node k x l r))[j]? = (inT r)[j - (l.size + 1)]? := by
  show (inT l ++ ⟨k, x, false⟩ :: inT r)[j]? = _
  rw [List.getElem?_append_right (by rw [inT_len]; omega), inT_len, show j - l.size = (j - (l.size + 1)) + 1 by omega, List.getElem?_cons_succ]
abbrev pairL (p : Pair) : List Value := [.string p.key, .string p.value, .bool p.gone]
set_option maxHeartbeats 8000000 in
set_option maxRecDepth 100000 in
theorem trAt_any {w : World} {B : Nat} {t : Tr} {v : Value} (h : TreeR w B t v) (i : Nat) (p : Pair) (hp : (inT t)[i]? = some p) (hs : t.size ≤ 1000000) : Makes 28 #[v, i64 i] w (.tuple #[.agg (pairL p).toArray, .bool true]) := by
  obtain ⟨q, rfl⟩ := h.ptr
  have H0 := Lib.hid (h.below (Base.al (Below.refl _ w) (.cells #[.string { data := #[] }, .string { data := #[] }, .bool false] 71)))
  have HP := Lib.hid hp
  have hBk := blk_new w (.cells #[.string { data := #[] }, .string { data := #[] }, .bool false] 71)
  have hz0 : (w.alloc (.cells #[.string { data := #[] }, .string { data := #[] }, .bool false] 71)).heap.size = w.heap.size + 1 := by simp
  have hBl := Base.al (Below.refl _ w) (.cells #[.string { data := #[] }, .string { data := #[] }, .bool false] 71)
  clear h hp
  go_enter Tryz.func28, Tryz.ntmps28
  go_wp2_with fail
  generalize w.alloc (.cells #[.string { data := #[] }, .string { data := #[] }, .bool false] 71) = w0 at *
  go_loopw [0, 1] (fun tv iv wr => wr = w0 ∧ ∃ t' j, iv = .int .i64 (j : Nat) ∧ Hid (TreeR w0 B t' tv) ∧ Hid ((inT t')[j]? = some p) ∧ t'.size ≤ 1000000) (fun tv _ _ => szV w0 tv)
  case atStart => exact ⟨rfl, t, i, rfl, H0, HP, hs⟩
  case round =>
    clear H0 HP hs
    obtain ⟨rfl, t', j, rfl, ht, hj, hs'⟩ := hrel
    cases t' with
    | nil => have := hj.out; cases this
    | node k x l r =>
      have hsz := szV_tree ht.out
      obtain ⟨b, lq, rq, rfl, hb, c0, c1, c2, c3, c4, c5, h4, h5⟩ := ht.out.node
      have hes : (Tr.node k x l r).size = 1 + l.size + r.size := rfl
      have hjl : j < 1 + l.size + r.size := by
        have := (List.getElem?_eq_some_iff.1 hj.out).1
        rw [inT_len] at this
        exact this
      have GL := Lib.hid (trLen_any h4)
      have H4 := Lib.hid h4
      have H5 := Lib.hid h5
      have z4 := szV_tree h4
      have z5 := szV_tree h5
      have hsz' : szV wr (.pointer (some ⟨b, 0, none⟩)) = 1 + l.size + r.size := hsz
      by_cases c1' : j < l.size
      · have hj' : Hid ((inT l)[j]? = some p) := Lib.hid ((inT_left c1').symm.trans hj.out)
        have hm : szV wr (.pointer lq) < szV wr (.pointer (some ⟨b, 0, none⟩)) := by omega
        have hjI : (j : Int) < (l.size : Int) := by omega
        have hls : l.size ≤ 1000000 := by omega
        clear hj ht h4 h5 hsz hsz' z4 z5
        generalize 1 + l.size + r.size = n1 at *
        generalize 1 + max l.high r.high = n2 at *
        go_wp2_with fail
        refine GL.out.mono ?_; rintro e w1 ⟨rfl, rfl⟩
        go_wp2_with fail
        exact ⟨⟨trivial, l, j, rfl, H4, hj', hls⟩, hm⟩
      · by_cases c2' : l.size < j
        · have hj' : Hid ((inT r)[j - (l.size + 1)]? = some p) := Lib.hid ((inT_right c2').symm.trans hj.out)
          have hm : szV wr (.pointer rq) < szV wr (.pointer (some ⟨b, 0, none⟩)) := by omega
          have hjI : ¬ (j : Int) < (l.size : Int) := by omega
          have hjI2 : (l.size : Int) < (j : Int) := by omega
          have hrs : r.size ≤ 1000000 := by omega
          have k1 : IntKind.i64.wrap ((l.size : Int) + 1) = (l.size : Int) + 1 := by rw [IntKind.wrap_i64]; omega
          have k2 : IntKind.i64.wrap ((j : Int) - ((l.size : Int) + 1)) = ((j - (l.size + 1) : Nat) : Int) := by rw [IntKind.wrap_i64]; omega
          clear hj ht h4 h5 hsz hsz' z4 z5
          generalize 1 + l.size + r.size = n1 at *
          generalize 1 + max l.high r.high = n2 at *
          go_wp2_with fail
          refine GL.out.mono ?_; rintro e w1 ⟨rfl, rfl⟩
          go_wp2_with fail
          exact ⟨⟨trivial, r, j - (l.size + 1), rfl, H5, hj', hrs⟩, hm⟩
        · have hjn : j = l.size := by omega
          subst hjn
          have hpk : p = ⟨k, x, false⟩ := by
            have := hj.out
            rw [inT_mid] at this
            injection this with this
            exact this.symm
          subst hpk
          have u0 := fun p : OnOf wr => on_cell hb c0 p
          have u1 := fun p : OnOf wr => on_cell hb c1 p
          clear hj ht h4 h5 hsz hsz' z4 z5
          generalize 1 + l.size + r.size = n1 at *
          generalize 1 + max l.high r.high = n2 at *
          go_wp2_with fail
          refine GL.out.mono ?_; rintro e w1 ⟨rfl, rfl⟩
          go_wp2_with fail
          refine wp_region_po (fun w' => ∃ p : OnOf w1, w' = p.v) 9 [] (by kernel_rfl) (by kernel_rfl) ⟨⟨_, Base.dr (Below.refl _ _)⟩, rfl⟩ ?_
          simp only [List.take_succ_cons, List.take_zero, List.drop_succ_cons, List.drop_zero]
          have on0 := @on_rd0; have on1 := @on_rd1; have on2 := @on_rd2; have on3 := @on_new1; have on4 := @on_new2; have on5 := @gr_rd0
          repeat ((with_reducible refine seq_read ?_ ?_); (focus rfl); (intro K hK); (unfold readsAt); go_simp; first | ((with_reducible refine hK _ ?_); clear hK K) | (rw [if_neg (by intro h; cases h)]; (with_reducible refine hK _ ?_); clear hK K))
          clear on0 on1 on2 on3 on4 on5
          with_reducible refine seq_nil ?_
          have hB1 : w1.drew.heap[w.heap.size]? = some (.cells #[.string { data := #[] }, .string { data := #[] }, .bool false] 71 (0, 0)) := hBk
          have hBl1 : Below w.heap.size w w1.drew := Base.dr hBl
          generalize w1.drew = w2 at hB1 hBl1 ⊢
          have y0 : w2.cell? ⟨w.heap.size, 0, none⟩ = some (.string { data := #[] }) := cell_blk hB1 0
          have y1 : w2.cell? ⟨w.heap.size, 1, none⟩ = some (.string { data := #[] }) := cell_blk hB1 1
          have y2 : w2.cell? ⟨w.heap.size, 2, none⟩ = some (.bool false) := cell_blk hB1 2
          have fz := fun o => frozen_blk hB1 o
          have hlB := (Array.getElem?_eq_some_iff.1 hB1).1
          have HB1 := Lib.hid hB1
          have HBl := Lib.hid hBl1
          clear hB1 hBl1 u0 u1 GL
          go_wp2_with fail
          have hs : ((w2.setCell ⟨w.heap.size, 0, none⟩ (.string k)).setCell ⟨w.heap.size, 1, none⟩ (.string x)).setCell ⟨w.heap.size, 2, none⟩ (.bool false) = sets w2 w.heap.size 0 (pairL ⟨k, x, false⟩) := rfl
          rw [hs]
          have hR4 := sets_at HB1.out (pairL ⟨k, x, false⟩) rfl
          have hB4 := sets_below (Nat.le_refl _) (pairL ⟨k, x, false⟩) w2 0 HBl.out
          generalize sets w2 w.heap.size 0 (pairL ⟨k, x, false⟩) = w4 at *
          have d0 : w4.cell? ⟨w.heap.size, 0, none⟩ = some (.string k) := cell_blk hR4 0
          have d1 : w4.cell? ⟨w.heap.size, 1, none⟩ = some (.string x) := cell_blk hR4 1
          have d2 : w4.cell? ⟨w.heap.size, 2, none⟩ = some (.bool false) := cell_blk hR4 2
          exact bodyPost_ret (v := .tuple #[.agg (pairL ⟨k, x, false⟩).toArray, .bool true]) (by simp [results, Tryz.results28, go_sem, d0, d1, d2]) rfl ⟨rfl, hB4⟩
end Go.Proofs.YthiimpleljaimaaGreatDoor

/- Package view: all, Writes, Reads. -/
namespace Go.Proofs.YthiimpleljaimaaGreatDoor
open Go Go.RowKit Flo
attribute [local go_sem] run_store_complex

theorem info_PairS : (Tryz.prog.info? 71).map (fun i => (i.zero, i.size, i.bytes)) = some (some (.agg #[.string { data := #[] }, .string { data := #[] }, .bool false]), 3, 40) := by kernel_rfl
theorem inT_take {t : Tr} {k : Nat} {p : Pair} (h : (inT t)[k]? = some p) : (inT t).take (k + 1) = (inT t).take k ++ [p] := by
  obtain ⟨h1, h2⟩ := List.getElem?_eq_some_iff.1 h
  rw [List.take_succ_eq_append_getElem h1, h2]
set_option maxHeartbeats 8000000 in
set_option maxRecDepth 100000 in
theorem vwAll_any {w : World} {B : Nat} {t : Tr} {v : Value} (h : TreeR w B t v) (hs : t.size ≤ 100000) :
    Calls Tryz.prog 96 #[v] w fun e w' => ∃ u, e = .returned u ∧ w'.ownsRow w.heap.size 71 3 u t.size ((inT t).flatMap Pair.row) ∧ Below w.heap.size w w' := by
  obtain ⟨i0, hi, hz0, hz1, hz2⟩ := info_parts info_PairS
  obtain ⟨q, rfl⟩ := h.ptr
  have G := Lib.hid (trLen_any h)
  have GA := fun W (hb : Below w.heap.size w W) i p (hp : (inT t)[i]? = some p) => Lib.hid (trAt_any (h.below hb) i p hp (by omega))
  have HL := Lib.hid (inT_len t)
  generalize t.size = n at *
  clear h
  go_enter Tryz.func96, Tryz.ntmps96
  go_wp2_with fail
  refine G.out.mono ?_; rintro e w0 ⟨rfl, rfl⟩
  obtain ⟨w, rfl⟩ : ∃ w, w = w0 := ⟨_, rfl⟩
  go_wp2_with fail
  go_loopw [3, 9] (fun uv iv wr => ∃ k : Nat, k ≤ n ∧ iv = .int .i64 k ∧ Hid (wr.ownsRow w.heap.size 71 3 uv k (((inT t).take k).flatMap Pair.row)) ∧ Hid (Below w.heap.size w wr)) (fun _ iv _ => n - (intOf iv).toNat)
  case atStart => exact ⟨0, Nat.zero_le _, rfl, Lib.hid (World.ownsRow_nil _ _ _ _), Lib.hid (Below.refl _ _)⟩
  case round =>
    obtain ⟨k, hk, rfl, hown, hb⟩ := hrel
    have kwk : IntKind.i64.wrap ((k : Int) + 1) = (k : Int) + 1 := by rw [IntKind.wrap_i64]; omega
    by_cases hlt : k < n
    · have hkI : (k : Int) < (n : Int) := by omega
      obtain ⟨p, hp⟩ : ∃ p, (inT t)[k]? = some p := ⟨_, List.getElem?_eq_getElem (by rw [HL.out]; exact hlt)⟩
      have GAk := GA wr hb.out k p hp
      have HTK := Lib.hid (inT_take hp)
      obtain ⟨pk, pv, pg⟩ := p
      have HK := Lib.hid hlt
      clear hp GA
      go_wp2_with fail
      refine GAk.out.mono ?_; rintro e w1 ⟨rfl, hb1⟩
      have hb2 := Base.al (Base.tr hb.out hb1) (.cells #[.string pk, .string pv, .bool pg] 71)
      have hown2 := (own_below hown.out hb1).alloc (.cells #[.string pk, .string pv, .bool pg] 71)
      clear hb1 GAk
      go_wp2_with (at_builtin; go_must (refine wpList_append_own _ rfl _ _ 150 rfl w.heap.size 71 i0 (.agg #[.string { data := #[] }, .string { data := #[] }, .bool false]) 3 40 Tryz.underlying150 hi hz0 hz1 hz2 rfl (by decide) _ _ _ rfl (hown2.alloc _) ⟨(w1.heap.size + 1), 0, none⟩ 1 1 [.string pk, .string pv, .bool pg] rfl rfl ?c1 ?c2 ?c3 ?c4 ?c5 ?_))
      case c1 => exact news_at (by simp) _ _
      case c2 => simp [Value.oneCell']
      case c3 => unfold maxLen; omega
      case c4 => omega
      case c5 => have := hb2.size; (try simp at this); (try simp); omega
      intro v' w2 hown3 hgrow _
      have hb3 := Base.gr (Base.al hb2 _) hgrow (fun g hg => (hown2.lt g hg).1)
      have HO3 : Hid (w2.ownsRow w.heap.size 71 3 _ (k + 1) (((inT t).take (k + 1)).flatMap Pair.row)) := Lib.hid (by
        rw [HTK.out, List.flatMap_append]
        exact hown3)
      go_wp2_with fail
      exact ⟨⟨k + 1, by omega, by go_num, HO3, Lib.hid hb3⟩, by simp [intOf]; omega⟩
    · obtain rfl : k = n := by omega
      have HO : Hid (wr.ownsRow w.heap.size 71 3 _ k ((inT t).flatMap Pair.row)) := Lib.hid (by
        have := hown.out
        rw [List.take_of_length_le (by rw [HL.out]; exact Nat.le_refl _)] at this
        exact this)
      clear hown
      go_wp2_with fail
      go_ret
      exact ⟨_, rfl, HO.out, hb.out⟩
end Go.Proofs.YthiimpleljaimaaGreatDoor

