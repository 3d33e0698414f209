/- Package tree: join, Get, Set. -/
import Derived.Test.YthiimpleljaimaaGreatDoorMg7
namespace Go.Proofs.YthiimpleljaimaaGreatDoor
open Go Go.RowKit Flo

set_option maxHeartbeats 8000000 in
set_option maxRecDepth 100000 in
theorem join_any {w : World} {B : Nat} {k x : ByteArray} {l0 r0 l r : Tr} {p : Value} {lq rq : Option Addr} (h : TreeR w B (.node k x l0 r0) p) (hl : TreeR w B l (.pointer lq)) (hr : TreeR w B r (.pointer rq)) (hB : B ≤ w.heap.size) (hs : l.size + r.size ≤ 800000) :
    Calls Tryz.prog 156 #[p, .pointer lq, .pointer rq] w (TrPost w B (joinT k x l r)) := by
  obtain ⟨b0, rfl⟩ : ∃ b, p = .pointer (some ⟨b, 0, none⟩) := by
    obtain ⟨b, _, _, h1, _⟩ := h
    exact ⟨b, h1⟩
  have W1 := Lib.hid (with_any (l := l) (r := r) h hl hr hB (by omega))
  have HH := fun v (hv : Below w.heap.size w v) => Lib.hid (h.below hv)
  have HL := fun v (hv : Below w.heap.size w v) => Lib.hid (hl.below hv)
  have HR := fun v (hv : Below w.heap.size w v) => Lib.hid (hr.below hv)
  have HS := Lib.hid hs
  clear h hl hr hs
  go_enter Tryz.func156, Tryz.ntmps156
  go_wp2_with fail
  refine W1.out.mono ?_; rintro e w1 ⟨q1, rfl, ht1, hb1⟩
  have G1 := Lib.hid (lean_any ht1 (by have := HS.out; omega))
  have HT1 := Lib.hid ht1
  clear ht1 W1
  go_wp2_with fail
  refine G1.out.mono ?_; rintro e w2 ⟨rfl, hb2⟩
  have hb3 := Base.tr hb1 hb2
  by_cases c1 : (1 : Int) < (l.high : Int) - r.high
  · have d1 : decide ((1 : Int) < (l.high : Int) - (r.high : Int)) = true := decide_eq_true c1
    obtain ⟨lk, lx, ll, lr, rfl⟩ := Tr.node_of (t := l) (by omega)
    have G2 := Lib.hid (lean_any (HL _ hb3).out (by have := HS.out; have e : (Tr.node lk lx ll lr).size = 1 + ll.size + lr.size := rfl; omega))
    have C1 := Lib.hid c1
    clear c1
    go_wp2_with fail
    refine G2.out.mono ?_; rintro e w3 ⟨rfl, hb4⟩
    have hb5 := Base.tr hb3 hb4
    by_cases c2 : (ll.high : Int) - lr.high < 0
    · have d2 : decide ((ll.high : Int) - (lr.high : Int) < 0) = true := decide_eq_true c2
      obtain ⟨mk, mx, ml, mr, rfl⟩ := Tr.node_of (t := lr) (by omega)
      have hz : 1 + ll.size + (1 + ml.size + mr.size) + r.size ≤ 800000 := HS.out
      have G3 := Lib.hid (turnLeft_any (HL _ hb5).out (Nat.le_trans hB hb5.size) (by omega))
      have hv : joinT k x (.node lk lx ll (.node mk mx ml mr)) r = .node mk mx (.node lk lx ll ml) (.node k x mr r) := by
        unfold joinT
        rw [if_pos C1.out, if_pos (show leanT (.node lk lx ll (.node mk mx ml mr)) < 0 from c2)]
        rfl
      have HV := Lib.hid hv
      clear hv c2 G1 G2
      go_wp2_with fail
      refine G3.out.mono ?_; rintro e w4 ⟨q4, rfl, ht4, hb6⟩
      have hb7 := Base.tr hb5 hb6
      have G4 := Lib.hid (with_any (l := .node mk mx (.node lk lx ll ml) mr) (r := r) (HH _ hb7).out ht4 (HR _ hb7).out (Nat.le_trans hB hb7.size) (by show 1 + (1 + ll.size + ml.size) + mr.size + r.size ≤ 1000000; omega))
      clear ht4 G3
      go_wp2_with fail
      refine G4.out.mono ?_; rintro e w5 ⟨q5, rfl, ht5, hb8⟩
      have hb9 := Base.tr hb7 hb8
      have G5 := Lib.hid (turnRight_any ht5 (Nat.le_trans hB hb9.size) (by show (1 + ll.size + ml.size) + mr.size + r.size ≤ 900000; omega))
      clear ht5 G4
      go_wp2_with fail
      refine G5.out.mono ?_; rintro e w6 ⟨q6, rfl, ht6, hb10⟩
      have hb11 := Base.tr hb9 hb10
      have HT := Lib.hid ht6
      clear ht6 G5
      go_wp2_with fail
      go_ret
      exact ⟨_, rfl, by rw [HV.out]; exact HT.out, hb11⟩
    · have d2 : decide ((ll.high : Int) - (lr.high : Int) < 0) = false := decide_eq_false c2
      have hz : 1 + ll.size + lr.size + r.size ≤ 800000 := HS.out
      have G5 := Lib.hid (turnRight_any (HT1.out.below (Base.tr hb2 hb4)) (Nat.le_trans hB hb5.size) (by omega))
      have hv : joinT k x (.node lk lx ll lr) r = .node lk lx ll (.node k x lr r) := by
        unfold joinT
        rw [if_pos C1.out, if_neg (show ¬ leanT (.node lk lx ll lr) < 0 from c2)]
        rfl
      have HV := Lib.hid hv
      clear hv c2 G1 G2 HT1
      go_wp2_with fail
      refine G5.out.mono ?_; rintro e w6 ⟨q6, rfl, ht6, hb10⟩
      have hb11 := Base.tr hb5 hb10
      have HT := Lib.hid ht6
      clear ht6 G5
      go_wp2_with fail
      go_ret
      exact ⟨_, rfl, by rw [HV.out]; exact HT.out, hb11⟩
  · have d1 : decide ((1 : Int) < (l.high : Int) - (r.high : Int)) = false := decide_eq_false c1
    by_cases c3 : (l.high : Int) - r.high < -1
    · have d3 : decide ((l.high : Int) - (r.high : Int) < -1) = true := decide_eq_true c3
      obtain ⟨rk, rx, rl, rr, rfl⟩ := Tr.node_of (t := r) (by omega)
      have G2 := Lib.hid (lean_any (HR _ hb3).out (by have := HS.out; have e : (Tr.node rk rx rl rr).size = 1 + rl.size + rr.size := rfl; omega))
      have C1 := Lib.hid c1
      have C3 := Lib.hid c3
      clear c1 c3
      go_wp2_with fail
      refine G2.out.mono ?_; rintro e w3 ⟨rfl, hb4⟩
      have hb5 := Base.tr hb3 hb4
      by_cases c2 : 0 < (rl.high : Int) - rr.high
      · have d2 : decide (rr.high < rl.high) = true := decide_eq_true (by omega)
        obtain ⟨mk, mx, ml, mr, rfl⟩ := Tr.node_of (t := rl) (by omega)
        have hz : l.size + (1 + (1 + ml.size + mr.size) + rr.size) ≤ 800000 := HS.out
        have G3 := Lib.hid (turnRight_any (HR _ hb5).out (Nat.le_trans hB hb5.size) (by omega))
        have hv : joinT k x l (.node rk rx (.node mk mx ml mr) rr) = .node mk mx (.node k x l ml) (.node rk rx mr rr) := by
          unfold joinT
          rw [if_neg (by have := C1.out; omega), if_pos C3.out, if_pos (show 0 < leanT (.node rk rx (.node mk mx ml mr) rr) from c2)]
          rfl
        have HV := Lib.hid hv
        clear hv c2 G1 G2
        go_wp2_with fail
        refine G3.out.mono ?_; rintro e w4 ⟨q4, rfl, ht4, hb6⟩
        have hb7 := Base.tr hb5 hb6
        have G4 := Lib.hid (with_any (l := l) (r := .node mk mx ml (.node rk rx mr rr)) (HH _ hb7).out (HL _ hb7).out ht4 (Nat.le_trans hB hb7.size) (by show l.size + (1 + ml.size + (1 + mr.size + rr.size)) ≤ 1000000; omega))
        clear ht4 G3
        go_wp2_with fail
        refine G4.out.mono ?_; rintro e w5 ⟨q5, rfl, ht5, hb8⟩
        have hb9 := Base.tr hb7 hb8
        have G5 := Lib.hid (turnLeft_any ht5 (Nat.le_trans hB hb9.size) (by show l.size + ml.size + (1 + mr.size + rr.size) ≤ 900000; omega))
        clear ht5 G4
        go_wp2_with fail
        refine G5.out.mono ?_; rintro e w6 ⟨q6, rfl, ht6, hb10⟩
        have hb11 := Base.tr hb9 hb10
        have HT := Lib.hid ht6
        clear ht6 G5
        go_wp2_with fail
        go_ret
        exact ⟨_, rfl, by rw [HV.out]; exact HT.out, hb11⟩
      · have d2 : decide (rr.high < rl.high) = false := decide_eq_false (by omega)
        have hz : l.size + (1 + rl.size + rr.size) ≤ 800000 := HS.out
        have G5 := Lib.hid (turnLeft_any (HT1.out.below (Base.tr hb2 hb4)) (Nat.le_trans hB hb5.size) (by omega))
        have hv : joinT k x l (.node rk rx rl rr) = .node rk rx (.node k x l rl) rr := by
          unfold joinT
          rw [if_neg (by have := C1.out; omega), if_pos C3.out, if_neg (show ¬ 0 < leanT (.node rk rx rl rr) from c2)]
          rfl
        have HV := Lib.hid hv
        clear hv c2 G1 G2 HT1
        go_wp2_with fail
        refine G5.out.mono ?_; rintro e w6 ⟨q6, rfl, ht6, hb10⟩
        have hb11 := Base.tr hb5 hb10
        have HT := Lib.hid ht6
        clear ht6 G5
        go_wp2_with fail
        go_ret
        exact ⟨_, rfl, by rw [HV.out]; exact HT.out, hb11⟩
    · have d3 : decide ((l.high : Int) - (r.high : Int) < -1) = false := decide_eq_false c3
      have hv : joinT k x l r = .node k x l r := by
        unfold joinT
        rw [if_neg c1, if_neg c3]
      have HV := Lib.hid hv
      have HT := Lib.hid (HT1.out.below hb2)
      clear hv c1 c3 G1 HT1
      go_wp2_with fail
      go_ret
      exact ⟨_, rfl, by rw [HV.out]; exact HT.out, hb3⟩
end Go.Proofs.YthiimpleljaimaaGreatDoor

/- Package tree: Get, Set. -/
namespace Go.Proofs.YthiimpleljaimaaGreatDoor
open Go Go.RowKit Flo

/-- The size that stands in a tree's block. -/
def szV (w : World) (v : Value) : Nat := match v with
  | .pointer (some a) => ((w.cell? ⟨a.block, 4, none⟩).map intOf |>.getD 0).toNat
  | _ => 0
theorem szV_tree {w : World} {B : Nat} {t : Tr} {v : Value} (h : TreeR w B t v) : szV w v = t.size := by
  cases t with
  | nil =>
    obtain rfl : v = .pointer none := h
    rfl
  | node k x l r =>
    obtain ⟨b, lq, rq, rfl, hb, c0, c1, c2, c3, c4, c5, h4, h5⟩ := h.node
    unfold szV
    simp only [c4, Option.map_some, Option.getD_some]
    show (((1 + l.size + r.size : Nat) : Int)).toNat = 1 + l.size + r.size
    omega
theorem lt_refl (k : ByteArray) : Op.bytesLess k.toList k.toList = false := by
  have : ∀ l : List UInt8, Op.bytesLess l l = false := by
    intro l
    induction l with
    | nil => rfl
    | cons a l ih => unfold Op.bytesLess; simp [ih]
  exact this _
theorem beq_no {a b : ByteArray} (h : ¬ a = b) : (a.toList == b.toList) = false := beq_eq_false_iff_ne.2 (by rw [ByteArray.toList_eq, ByteArray.toList_eq]; intro e; exact h (ByteArray.ext (Array.toList_inj.1 e)))
abbrev getV (key : ByteArray) (t : Tr) : Value := .tuple #[.string ((getT key t).getD { data := #[] }), .bool (getT key t).isSome]

set_option maxHeartbeats 4000000 in
set_option maxRecDepth 100000 in
theorem trGet_any {w : World} {B : Nat} {t : Tr} {v : Value} (h : TreeR w B t v) (key : ByteArray) : Gives 105 #[v, .string key] w (getV key t) := by
  obtain ⟨R, hR⟩ : ∃ R, getT key t = R := ⟨_, rfl⟩
  unfold getV
  rw [hR]
  have HR := Lib.hid hR
  have H0 := Lib.hid h
  obtain ⟨q, rfl⟩ := h.ptr
  clear hR h
  go_enter Tryz.func105, Tryz.ntmps105
  go_wp2_with fail
  go_loopw [0] (fun tv wr => wr = w ∧ ∃ t', Hid (TreeR w B t' tv) ∧ Hid (getT key t' = R)) (fun tv _ => szV w tv)
  case atStart => exact ⟨rfl, t, H0, HR⟩
  case round =>
    clear H0 HR
    obtain ⟨rfl, t', ht, hr⟩ := hrel
    cases t' with
    | nil =>
      obtain rfl : _ = Value.pointer none := ht.out
      have hr' : R = none := hr.out.symm
      subst hr'
      go_wp2_with fail
      go_ret2
      exact ⟨rfl, rfl⟩
    | node k x l r =>
      have hsz := szV_tree ht.out
      obtain ⟨b, lq, rq, rfl, hb, c0, c1, c2, c3, c4, c5, h4, h5⟩ := ht.out.node
      by_cases hk : k = key
      · subst hk
        have hr' : R = some x := by rw [← hr.out]; unfold getT; rw [if_pos rfl]
        subst hr'
        clear hsz h4 h5 ht hr
        go_wp2_with fail
        go_ret2
        exact ⟨rfl, rfl⟩
      · have hr' := hr.out
        unfold getT at hr'
        rw [if_neg hk] at hr'
        have hkb : (k.toList == key.toList) = false := beq_no hk
        have H4 := Lib.hid h4
        have H5 := Lib.hid h5
        have z4 := szV_tree h4
        have z5 := szV_tree h5
        have hsz' : szV wr (.pointer (some ⟨b, 0, none⟩)) = 1 + l.size + r.size := hsz
        by_cases hl : ltB key k = true
        · have tl : Op.bytesLess key.toList k.toList = true := hl
          rw [if_pos hl] at hr'
          have HR := Lib.hid hr'
          clear hr' ht hr h4 h5 hsz hk
          have hm : szV wr (.pointer lq) < szV wr (.pointer (some ⟨b, 0, none⟩)) := by omega
          clear z4 z5 hsz'
          go_wp2_with fail
          exact ⟨⟨trivial, l, H4, HR⟩, hm⟩
        · have tl : Op.bytesLess key.toList k.toList = false := by simpa [ltB] using hl
          rw [if_neg hl] at hr'
          have HR := Lib.hid hr'
          clear hr' ht hr h4 h5 hsz hk
          have hm : szV wr (.pointer rq) < szV wr (.pointer (some ⟨b, 0, none⟩)) := by omega
          clear z4 z5 hsz'
          go_wp2_with fail
          exact ⟨⟨trivial, r, H5, HR⟩, hm⟩

set_option maxHeartbeats 8000000 in
set_option maxRecDepth 100000 in
theorem trSet_any (key val : ByteArray) {B : Nat} : ∀ (t : Tr) {w : World} {v : Value} (_ : TreeR w B t v) (_ : B ≤ w.heap.size) (_ : t.size ≤ 700000), Calls Tryz.prog 104 #[v, .string key, .string val] w (TrPost w B (setT key val t))
  | .nil, w, v, h, hB, hs => by
    obtain rfl : v = .pointer none := h
    clear hs
    go_enter Tryz.func104, Tryz.ntmps104
    go_wp2_with fail
    go_ret
    exact ⟨_, rfl, TreeR.mk hB (blk_new w _) rfl rfl, Base.al (Below.refl _ _) _⟩
  | .node k x l r, w, v, h, hB, hs => by
    have IL := fun W q (hb : Below w.heap.size w W) (hq : TreeR W B l (.pointer q)) => Lib.hid (trSet_any key val l hq (Nat.le_trans hB hb.size) (by have e : (Tr.node k x l r).size = 1 + l.size + r.size := rfl; omega))
    have IR := fun W q (hb : Below w.heap.size w W) (hq : TreeR W B r (.pointer q)) => Lib.hid (trSet_any key val r hq (Nat.le_trans hB hb.size) (by have e : (Tr.node k x l r).size = 1 + l.size + r.size := rfl; omega))
    have hz : 1 + l.size + r.size ≤ 700000 := hs
    have z1 := setT_size key val l
    have z2 := setT_size key val r
    obtain ⟨b, lq, rq, rfl, hb, c0, c1, c2, c3, c4, c5, h4, h5⟩ := h.node
    have J := fun W (hb : Below w.heap.size w W) l' r' q1 q2 (hl : TreeR W B l' (.pointer q1)) (hr : TreeR W B r' (.pointer q2)) (hs : l'.size + r'.size ≤ 800000) => Lib.hid (join_any (h.below hb) hl hr (Nat.le_trans hB hb.size) hs)
    have H4 := Lib.hid h4
    have H5 := Lib.hid h5
    clear h h4 h5 hs
    have q2 := fun p : OnOf w => on_cell hb c2 p
    have q3 := fun p : OnOf w => on_cell hb c3 p
    by_cases hl : ltB key k = true
    · have tl : Op.bytesLess key.toList k.toList = true := hl
      have hv : setT key val (.node k x l r) = joinT k x (setT key val l) r := by
        show (if ltB key k = true then _ else _) = _
        rw [if_pos hl]
      rw [hv]
      clear hl hv IR
      go_enter Tryz.func104, Tryz.ntmps104
      go_wp2_with fail
      refine wp_region_po (fun w' => ∃ p : OnOf w, w' = p.v) 14 [7, 12] (by kernel_rfl) (by kernel_rfl) ⟨⟨_, Base.dr (Below.refl _ _)⟩, rfl⟩ ?_
      simp only [List.take_succ_cons, List.take_zero, List.drop_succ_cons, List.drop_zero]
      have on0 := @on_rd0; have on1 := @on_rd1; have on2 := @on_rd2; have on3 := @on_new1; have on4 := @on_new2; have on5 := @gr_rd0
      repeat ((with_reducible refine seq_read ?_ ?_); (focus rfl); (intro K hK); (unfold readsAt); go_simp; first | ((with_reducible refine hK _ ?_); clear hK K) | (rw [if_neg (by intro h; cases h)]; (with_reducible refine hK _ ?_); clear hK K))
      refine seq_eff (by rfl) (by first | rfl | go_simp) ?_
      intro K hK
      unfold effAt2
      go_simp
      refine ⟨rfl, (IL _ _ (Base.dr (Below.refl _ _)) (H4.out.below (Base.dr (Below.refl _ _)))).out.mono ?_⟩; rintro e w1 ⟨q1, rfl, ht1, hb1⟩
      have hb3 := Base.tr (Base.dr (Below.refl _ w)) hb1
      refine ⟨_, rfl, ⟨⟨_, hb3⟩, rfl⟩, hK _ _ ?_⟩
      clear hK K
      repeat ((with_reducible refine seq_read ?_ ?_); (focus rfl); (intro K hK); (unfold readsAt); go_simp; first | ((with_reducible refine hK _ ?_); clear hK K) | (rw [if_neg (by intro h; cases h)]; (with_reducible refine hK _ ?_); clear hK K))
      refine seq_eff (by rfl) (by first | rfl | go_simp) ?_
      intro K hK
      unfold effAt2
      go_simp
      refine ⟨rfl, (J _ hb3 _ _ _ _ ht1 (H5.out.below hb3) (by omega)).out.mono ?_⟩; rintro e w2 ⟨q4, rfl, ht2, hb4⟩
      have hb5 := Base.tr hb3 hb4
      refine ⟨_, rfl, ⟨⟨_, hb5⟩, rfl⟩, hK _ _ ?_⟩
      clear hK K
      repeat ((with_reducible refine seq_read ?_ ?_); (focus rfl); (intro K hK); (unfold readsAt); go_simp; first | ((with_reducible refine hK _ ?_); clear hK K) | (rw [if_neg (by intro h; cases h)]; (with_reducible refine hK _ ?_); clear hK K))
      clear on0 on1 on2 on3 on4 on5
      with_reducible refine seq_nil ?_
      have HT := Lib.hid ht2
      clear ht1 ht2 IL J q2 q3
      go_wp2_with fail
      go_ret
      exact ⟨_, rfl, HT.out, hb5⟩
    · have tl : Op.bytesLess key.toList k.toList = false := by simpa [ltB] using hl
      by_cases hr : key = k
      rotate_left
      · have tr : (key.toList == k.toList) = false := beq_no hr
        have hv : setT key val (.node k x l r) = joinT k x l (setT key val r) := by
          show (if ltB key k = true then _ else if key = k then _ else _) = _
          rw [if_neg hl, if_neg hr]
        rw [hv]
        clear hl hr hv IL
        go_enter Tryz.func104, Tryz.ntmps104
        go_wp2_with fail
        refine wp_region_po (fun w' => ∃ p : OnOf w, w' = p.v) 14 [11, 12] (by kernel_rfl) (by kernel_rfl) ⟨⟨_, Base.dr (Below.refl _ _)⟩, rfl⟩ ?_
        simp only [List.take_succ_cons, List.take_zero, List.drop_succ_cons, List.drop_zero]
        have on0 := @on_rd0; have on1 := @on_rd1; have on2 := @on_rd2; have on3 := @on_new1; have on4 := @on_new2; have on5 := @gr_rd0
        repeat ((with_reducible refine seq_read ?_ ?_); (focus rfl); (intro K hK); (unfold readsAt); go_simp; first | ((with_reducible refine hK _ ?_); clear hK K) | (rw [if_neg (by intro h; cases h)]; (with_reducible refine hK _ ?_); clear hK K))
        refine seq_eff (by rfl) (by first | rfl | go_simp) ?_
        intro K hK
        unfold effAt2
        go_simp
        refine ⟨rfl, (IR _ _ (Base.dr (Below.refl _ _)) (H5.out.below (Base.dr (Below.refl _ _)))).out.mono ?_⟩; rintro e w1 ⟨q1, rfl, ht1, hb1⟩
        have hb3 := Base.tr (Base.dr (Below.refl _ w)) hb1
        refine ⟨_, rfl, ⟨⟨_, hb3⟩, rfl⟩, hK _ _ ?_⟩
        clear hK K
        repeat ((with_reducible refine seq_read ?_ ?_); (focus rfl); (intro K hK); (unfold readsAt); go_simp; first | ((with_reducible refine hK _ ?_); clear hK K) | (rw [if_neg (by intro h; cases h)]; (with_reducible refine hK _ ?_); clear hK K))
        refine seq_eff (by rfl) (by first | rfl | go_simp) ?_
        intro K hK
        unfold effAt2
        go_simp
        refine ⟨rfl, (J _ hb3 _ _ _ _ (H4.out.below hb3) ht1 (by omega)).out.mono ?_⟩; rintro e w2 ⟨q4, rfl, ht2, hb4⟩
        have hb5 := Base.tr hb3 hb4
        refine ⟨_, rfl, ⟨⟨_, hb5⟩, rfl⟩, hK _ _ ?_⟩
        clear hK K
        repeat ((with_reducible refine seq_read ?_ ?_); (focus rfl); (intro K hK); (unfold readsAt); go_simp; first | ((with_reducible refine hK _ ?_); clear hK K) | (rw [if_neg (by intro h; cases h)]; (with_reducible refine hK _ ?_); clear hK K))
        clear on0 on1 on2 on3 on4 on5
        with_reducible refine seq_nil ?_
        have HT := Lib.hid ht2
        clear ht1 ht2 IR J q2 q3
        go_wp2_with fail
        go_ret
        exact ⟨_, rfl, HT.out, hb5⟩
      · subst hr
        have hv : setT key val (.node key x l r) = .node key val l r := by
          show (if ltB key key = true then _ else if key = key then _ else _) = _
          rw [if_neg hl, if_pos rfl]
        rw [hv]
        have q4 := fun p : OnOf w => on_cell hb c4 p
        have q5 := fun p : OnOf w => on_cell hb c5 p
        have HN : ∀ W, Below w.heap.size w W → W.heap[w.heap.size]? = some (.cells #[.string key, .string val, .pointer lq, .pointer rq, i64 (1 + l.size + r.size : Nat), i64 (1 + max l.high r.high : Nat)] 101 (0, 0)) → Hid (TreeR W B (.node key val l r) (.pointer (some ⟨w.heap.size, 0, none⟩))) := fun W hb hw => Lib.hid (TreeR.mk hB hw (H4.out.below hb) (H5.out.below hb))
        generalize 1 + l.size + r.size = n1 at *
        generalize 1 + max l.high r.high = n2 at *
        clear hl hv IL IR J z1 z2
        go_enter Tryz.func104, Tryz.ntmps104
        go_wp2_with fail
        refine wp_region_po (fun w' => ∃ p : OnOf w, w' = p.v) 21 [19] (by kernel_rfl) (by kernel_rfl) ⟨⟨_, Base.dr (Below.refl _ _)⟩, rfl⟩ ?_
        simp only [List.take_succ_cons, List.take_zero, List.drop_succ_cons, List.drop_zero]
        have on0 := @on_rd0; have on1 := @on_rd1; have on2 := @on_rd2; have on3 := @on_new1; have on4 := @on_new2; have on5 := @gr_rd0
        repeat ((with_reducible refine seq_read ?_ ?_); (focus rfl); (intro K hK); (unfold readsAt); go_simp; first | ((with_reducible refine hK _ ?_); clear hK K) | (rw [if_neg (by intro h; cases h)]; (with_reducible refine hK _ ?_); clear hK K))
        refine seq_eff (by rfl) (by first | rfl | go_simp) ?_
        intro K hK
        unfold effAt2
        go_simp
        unfold effUpon2
        refine ⟨⟨⟨_, Base.dr (Base.al (Below.refl _ _) _)⟩, rfl⟩, hK _ _ ?_⟩
        clear hK K
        repeat ((with_reducible refine seq_read ?_ ?_); (focus rfl); (intro K hK); (unfold readsAt); go_simp; first | ((with_reducible refine hK _ ?_); clear hK K) | (rw [if_neg (by intro h; cases h)]; (with_reducible refine hK _ ?_); clear hK K))
        clear on0 on1 on2 on3 on4 on5
        with_reducible refine seq_nil ?_
        have HT := HN _ (Base.dr (Base.al (Below.refl _ _) _)) (blk_new w _)
        clear HN q2 q3 q4 q5
        go_wp2_with fail
        go_ret
        exact ⟨_, rfl, HT.out, Base.dr (Base.al (Below.refl _ _) _)⟩
end Go.Proofs.YthiimpleljaimaaGreatDoor

/- Package tree: Cut. -/
namespace Go.Proofs.YthiimpleljaimaaGreatDoor
open Go Go.RowKit Flo

set_option maxHeartbeats 8000000 in
set_option maxRecDepth 100000 in
theorem trCut_any {B : Nat} : ∀ (t : Tr) (key : ByteArray) {w : World} {v : Value} (_ : TreeR w B t v) (_ : B ≤ w.heap.size) (_ : t.size ≤ 700000), Calls Tryz.prog 121 #[v, .string key] w (TrPost w B (cutT key t))
  | .nil, key, w, v, h, hB, hs => by
    have G := Lib.hid (trGet_any h key)
    obtain rfl : v = .pointer none := h
    rw [cutT_nil]
    clear hs
    go_enter Tryz.func121, Tryz.ntmps121
    go_wp2_with fail
    refine G.out.mono ?_; rintro e w1 ⟨rfl, rfl⟩
    go_wp2_with fail
    go_ret
    exact ⟨_, rfl, rfl, Below.refl _ _⟩
  | .node k x l r, key, w, v, h, hB, hs => by
    have IL := fun W q ky (hb : Below w.heap.size w W) (hq : TreeR W B l (.pointer q)) => Lib.hid (trCut_any l ky hq (Nat.le_trans hB hb.size) (by have e : (Tr.node k x l r).size = 1 + l.size + r.size := rfl; omega))
    have IR := fun W q ky (hb : Below w.heap.size w W) (hq : TreeR W B r (.pointer q)) => Lib.hid (trCut_any r ky hq (Nat.le_trans hB hb.size) (by have e : (Tr.node k x l r).size = 1 + l.size + r.size := rfl; omega))
    have hz : 1 + l.size + r.size ≤ 700000 := hs
    have z1 := cutT_size l key
    have z2 := cutT_size r key
    have G0 := Lib.hid (trGet_any h key)
    have H0 := Lib.hid h
    obtain ⟨b, lq, rq, rfl, hb, c0, c1, c2, c3, c4, c5, h4, h5⟩ := h.node
    have J := fun W (hb : Below w.heap.size w W) l' r' q1 q2 (hl : TreeR W B l' (.pointer q1)) (hr : TreeR W B r' (.pointer q2)) (hs : l'.size + r'.size ≤ 800000) => Lib.hid (join_any (h.below hb) hl hr (Nat.le_trans hB hb.size) hs)
    have H4 := Lib.hid h4
    have H5 := Lib.hid h5
    clear h h4 h5 hs
    by_cases hn : getT key (.node k x l r) = none
    · rw [cutT_none hn]
      unfold getV at G0
      rw [hn] at G0
      clear hn IL IR J
      go_enter Tryz.func121, Tryz.ntmps121
      go_wp2_with fail
      refine G0.out.mono ?_; rintro e w1 ⟨rfl, rfl⟩
      go_wp2_with fail
      go_ret
      exact ⟨_, rfl, H0.out, Below.refl _ _⟩
    · obtain ⟨gv, hgv⟩ : ∃ gv, getT key (.node k x l r) = some gv := by
        cases hq : getT key (.node k x l r) with
        | none => exact absurd hq hn
        | some gv => exact ⟨gv, rfl⟩
      unfold getV at G0
      rw [hgv] at G0
      clear hgv
      have q2 := fun p : OnOf w => on_cell hb c2 p
      have q3 := fun p : OnOf w => on_cell hb c3 p
      by_cases hl : ltB key k = true
      · have tl : Op.bytesLess key.toList k.toList = true := hl
        rw [cutT_left hn hl]
        clear hl hn IR
        go_enter Tryz.func121, Tryz.ntmps121
        go_wp2_with fail
        refine G0.out.mono ?_; rintro e w1 ⟨rfl, rfl⟩
        go_wp2_with fail
        refine wp_region_po (fun w' => ∃ p : OnOf w1, w' = p.v) 13 [6, 11] (by kernel_rfl) (by kernel_rfl) ⟨⟨_, Base.dr (Below.refl _ _)⟩, rfl⟩ ?_
        simp only [List.take_succ_cons, List.take_zero, List.drop_succ_cons, List.drop_zero]
        have on0 := @on_rd0; have on1 := @on_rd1; have on2 := @on_rd2; have on3 := @on_new1; have on4 := @on_new2; have on5 := @gr_rd0
        repeat ((with_reducible refine seq_read ?_ ?_); (focus rfl); (intro K hK); (unfold readsAt); go_simp; first | ((with_reducible refine hK _ ?_); clear hK K) | (rw [if_neg (by intro h; cases h)]; (with_reducible refine hK _ ?_); clear hK K))
        refine seq_eff (by rfl) (by first | rfl | go_simp) ?_
        intro K hK
        unfold effAt2
        go_simp
        refine ⟨rfl, (IL _ _ _ (Base.dr (Below.refl _ _)) (H4.out.below (Base.dr (Below.refl _ _)))).out.mono ?_⟩; rintro e w1' ⟨q1, rfl, ht1, hb1⟩
        have hb3 := Base.tr (Base.dr (Below.refl _ w1)) hb1
        refine ⟨_, rfl, ⟨⟨_, hb3⟩, rfl⟩, hK _ _ ?_⟩
        clear hK K
        repeat ((with_reducible refine seq_read ?_ ?_); (focus rfl); (intro K hK); (unfold readsAt); go_simp; first | ((with_reducible refine hK _ ?_); clear hK K) | (rw [if_neg (by intro h; cases h)]; (with_reducible refine hK _ ?_); clear hK K))
        refine seq_eff (by rfl) (by first | rfl | go_simp) ?_
        intro K hK
        unfold effAt2
        go_simp
        refine ⟨rfl, (J _ hb3 _ _ _ _ ht1 (H5.out.below hb3) (by omega)).out.mono ?_⟩; rintro e w2 ⟨q4, rfl, ht2, hb4⟩
        have hb5 := Base.tr hb3 hb4
        refine ⟨_, rfl, ⟨⟨_, hb5⟩, rfl⟩, hK _ _ ?_⟩
        clear hK K
        repeat ((with_reducible refine seq_read ?_ ?_); (focus rfl); (intro K hK); (unfold readsAt); go_simp; first | ((with_reducible refine hK _ ?_); clear hK K) | (rw [if_neg (by intro h; cases h)]; (with_reducible refine hK _ ?_); clear hK K))
        clear on0 on1 on2 on3 on4 on5
        with_reducible refine seq_nil ?_
        have HT := Lib.hid ht2
        clear ht1 ht2 IL J q2 q3
        go_wp2_with fail
        go_ret
        exact ⟨_, rfl, HT.out, hb5⟩
      · have tl : Op.bytesLess key.toList k.toList = false := by simpa [ltB] using hl
        by_cases hk : key = k
        rotate_left
        · have tr : (key.toList == k.toList) = false := beq_no hk
          rw [cutT_right hn hl hk]
          clear hl hn hk IL
          go_enter Tryz.func121, Tryz.ntmps121
          go_wp2_with fail
          refine G0.out.mono ?_; rintro e w1 ⟨rfl, rfl⟩
          go_wp2_with fail
          refine wp_region_po (fun w' => ∃ p : OnOf w1, w' = p.v) 13 [10, 11] (by kernel_rfl) (by kernel_rfl) ⟨⟨_, Base.dr (Below.refl _ _)⟩, rfl⟩ ?_
          simp only [List.take_succ_cons, List.take_zero, List.drop_succ_cons, List.drop_zero]
          have on0 := @on_rd0; have on1 := @on_rd1; have on2 := @on_rd2; have on3 := @on_new1; have on4 := @on_new2; have on5 := @gr_rd0
          repeat ((with_reducible refine seq_read ?_ ?_); (focus rfl); (intro K hK); (unfold readsAt); go_simp; first | ((with_reducible refine hK _ ?_); clear hK K) | (rw [if_neg (by intro h; cases h)]; (with_reducible refine hK _ ?_); clear hK K))
          refine seq_eff (by rfl) (by first | rfl | go_simp) ?_
          intro K hK
          unfold effAt2
          go_simp
          refine ⟨rfl, (IR _ _ _ (Base.dr (Below.refl _ _)) (H5.out.below (Base.dr (Below.refl _ _)))).out.mono ?_⟩; rintro e w1' ⟨q1, rfl, ht1, hb1⟩
          have hb3 := Base.tr (Base.dr (Below.refl _ w1)) hb1
          refine ⟨_, rfl, ⟨⟨_, hb3⟩, rfl⟩, hK _ _ ?_⟩
          clear hK K
          repeat ((with_reducible refine seq_read ?_ ?_); (focus rfl); (intro K hK); (unfold readsAt); go_simp; first | ((with_reducible refine hK _ ?_); clear hK K) | (rw [if_neg (by intro h; cases h)]; (with_reducible refine hK _ ?_); clear hK K))
          refine seq_eff (by rfl) (by first | rfl | go_simp) ?_
          intro K hK
          unfold effAt2
          go_simp
          refine ⟨rfl, (J _ hb3 _ _ _ _ (H4.out.below hb3) ht1 (by omega)).out.mono ?_⟩; rintro e w2 ⟨q4, rfl, ht2, hb4⟩
          have hb5 := Base.tr hb3 hb4
          refine ⟨_, rfl, ⟨⟨_, hb5⟩, rfl⟩, hK _ _ ?_⟩
          clear hK K
          repeat ((with_reducible refine seq_read ?_ ?_); (focus rfl); (intro K hK); (unfold readsAt); go_simp; first | ((with_reducible refine hK _ ?_); clear hK K) | (rw [if_neg (by intro h; cases h)]; (with_reducible refine hK _ ?_); clear hK K))
          clear on0 on1 on2 on3 on4 on5
          with_reducible refine seq_nil ?_
          have HT := Lib.hid ht2
          clear ht1 ht2 IR J q2 q3
          go_wp2_with fail
          go_ret
          exact ⟨_, rfl, HT.out, hb5⟩
        · subst hk
          cases l with
          | nil =>
            rw [cutT_r hl]
            have hlq : lq = none := by have := H4.out; injection this
            subst hlq
            clear hl hn IL IR J
            go_enter Tryz.func121, Tryz.ntmps121
            go_wp2_with fail
            refine G0.out.mono ?_; rintro e w1 ⟨rfl, rfl⟩
            go_wp2_with fail
            go_ret
            exact ⟨_, rfl, H5.out, Below.refl _ _⟩
          | node lk lx ll lr =>
            obtain ⟨lb, _, _, elq, -⟩ := H4.out.node
            injection elq with elq
            subst elq
            cases r with
            | nil =>
              rw [cutT_l hl]
              have hrq : rq = none := by have := H5.out; injection this
              subst hrq
              clear hl hn IL IR J
              go_enter Tryz.func121, Tryz.ntmps121
              go_wp2_with fail
              refine G0.out.mono ?_; rintro e w1 ⟨rfl, rfl⟩
              go_wp2_with fail
              go_ret
              exact ⟨_, rfl, H4.out, Below.refl _ _⟩
            | node rk rx rl rr =>
              obtain ⟨rb, _, _, erq, -⟩ := H5.out.node
              injection erq with erq
              subst erq
              have z3 := cutT_size (.node rk rx rl rr) (minT rk rx rl).1
              rw [cutT_mid hl]
              obtain ⟨M, hM⟩ : ∃ M, minT rk rx rl = M := ⟨_, rfl⟩
              rw [hM] at z3
              rw [hM]
              have HM := Lib.hid hM
              clear hl hn IL J hM
              go_enter Tryz.func121, Tryz.ntmps121
              go_wp2_with fail
              refine G0.out.mono ?_; rintro e w1 ⟨rfl, rfl⟩
              go_wp2_with fail
              obtain ⟨wo, hwo⟩ : ∃ W, W = w1 := ⟨_, rfl⟩
              go_loopw [7] (fun nv wr => wr = wo ∧ ∃ nk nx nl nr, Hid (TreeR wo B (.node nk nx nl nr) nv) ∧ Hid (minT nk nx nl = M)) (fun nv _ => szV wo nv)
              case atStart => exact ⟨hwo.symm, _, _, _, _, by rw [hwo]; exact H5, HM⟩
              case round =>
                subst hwo
                obtain ⟨rfl, nk, nx, nl, nr, hnt, hmn⟩ := hrel
                have s0 := szV_tree hnt.out
                obtain ⟨nb, nlq, nrq, rfl, hnb, n0, n1, n2, n3, n4, n5, h6, h7⟩ := hnt.out.node
                cases nl with
                | nil =>
                  have hnlq : nlq = none := by injection h6
                  subst hnlq
                  have hM2 : (nk, nx) = M := hmn.out
                  subst hM2
                  have J2 := fun W (hb : Below wr.heap.size wr W) l' r' q1 q2 (hl : TreeR W B l' (.pointer q1)) (hr : TreeR W B r' (.pointer q2)) (hs : l'.size + r'.size ≤ 800000) => Lib.hid (join_any (hnt.out.below hb) hl hr (Nat.le_trans hB hb.size) hs)
                  have u0 := fun p : OnOf wr => on_cell hnb n0 p
                  clear h6 h7 hnt hmn s0 HM
                  go_wp2_with fail
                  refine wp_region_po (fun w' => ∃ p : OnOf wr, w' = p.v) 16 [13, 14] (by kernel_rfl) (by kernel_rfl) ⟨⟨_, Base.dr (Below.refl _ _)⟩, rfl⟩ ?_
                  simp only [List.take_succ_cons, List.take_zero, List.drop_succ_cons, List.drop_zero]
                  have on0 := @on_rd0; have on1 := @on_rd1; have on2 := @on_rd2; have on3 := @on_new1; have on4 := @on_new2; have on5 := @gr_rd0
                  repeat ((with_reducible refine seq_read ?_ ?_); (focus rfl); (intro K hK); (unfold readsAt); go_simp; first | ((with_reducible refine hK _ ?_); clear hK K) | (rw [if_neg (by intro h; cases h)]; (with_reducible refine hK _ ?_); clear hK K))
                  refine seq_eff (by rfl) (by first | rfl | go_simp) ?_
                  intro K hK
                  unfold effAt2
                  go_simp
                  refine ⟨rfl, (IR _ _ _ (Base.dr (Below.refl _ _)) (H5.out.below (Base.dr (Below.refl _ _)))).out.mono ?_⟩; rintro e w1' ⟨q1, rfl, ht1, hb1⟩
                  have hb3 := Base.tr (Base.dr (Below.refl _ wr)) hb1
                  refine ⟨_, rfl, ⟨⟨_, hb3⟩, rfl⟩, hK _ _ ?_⟩
                  clear hK K
                  repeat ((with_reducible refine seq_read ?_ ?_); (focus rfl); (intro K hK); (unfold readsAt); go_simp; first | ((with_reducible refine hK _ ?_); clear hK K) | (rw [if_neg (by intro h; cases h)]; (with_reducible refine hK _ ?_); clear hK K))
                  refine seq_eff (by rfl) (by first | rfl | go_simp) ?_
                  intro K hK
                  unfold effAt2
                  go_simp
                  refine ⟨rfl, (J2 _ hb3 _ _ _ _ (H4.out.below hb3) ht1 (by omega)).out.mono ?_⟩; rintro e w2 ⟨q4, rfl, ht2, hb4⟩
                  have hb5 := Base.tr hb3 hb4
                  refine ⟨_, rfl, ⟨⟨_, hb5⟩, rfl⟩, hK _ _ ?_⟩
                  clear hK K
                  repeat ((with_reducible refine seq_read ?_ ?_); (focus rfl); (intro K hK); (unfold readsAt); go_simp; first | ((with_reducible refine hK _ ?_); clear hK K) | (rw [if_neg (by intro h; cases h)]; (with_reducible refine hK _ ?_); clear hK K))
                  clear on0 on1 on2 on3 on4 on5
                  with_reducible refine seq_nil ?_
                  have HT := Lib.hid ht2
                  clear ht1 ht2 IR J2 q2 q3 u0
                  go_wp2_with fail
                  go_ret
                  exact ⟨_, rfl, HT.out, hb5⟩
                | node mk mx ml mr =>
                  obtain ⟨mb, _, _, emq, -⟩ := h6.node
                  injection emq with emq
                  subst emq
                  have s1 := szV_tree h6
                  have hm : szV wr (.pointer (some ⟨mb, 0, none⟩)) < szV wr (.pointer (some ⟨nb, 0, none⟩)) := by
                    rw [s0, s1]
                    show 1 + ml.size + mr.size < 1 + (1 + ml.size + mr.size) + nr.size
                    omega
                  have H6 := Lib.hid h6
                  have HM2 : Hid (minT mk mx ml = M) := Lib.hid hmn.out
                  clear h6 h7 hnt hmn s0 s1 HM
                  go_wp2_with fail
                  exact ⟨⟨trivial, _, _, _, _, H6, HM2⟩, hm⟩
end Go.Proofs.YthiimpleljaimaaGreatDoor

