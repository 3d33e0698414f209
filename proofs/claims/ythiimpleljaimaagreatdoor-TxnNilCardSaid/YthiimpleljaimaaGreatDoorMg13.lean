/- The reference's Get of an item. -/
import Derived.Test.YthiimpleljaimaaGreatDoorRingGet
import Derived.Test.YthiimpleljaimaaGreatDoorMg2
namespace Go.Proofs.YthiimpleljaimaaGreatDoor
open Go.RowKit Flo
attribute [local go_sem] run_store_complex

theorem read_ex (l : List Nat) : ∃ R : Read, R.of l := by
  obtain ⟨a, ha⟩ : ∃ a, pNum l 8 0 0 = a := ⟨_, rfl⟩
  obtain ⟨b, hb⟩ : ∃ b, pNum l 8 a.2.1 a.2.2 = b := ⟨_, rfl⟩
  obtain ⟨c, hc⟩ : ∃ c, pNum l 1 b.2.1 b.2.2 = c := ⟨_, rfl⟩
  obtain ⟨d, hd⟩ : ∃ d, pNum l 1 c.2.1 c.2.2 = d := ⟨_, rfl⟩
  obtain ⟨e, he⟩ : ∃ e, pNum l 3 d.2.1 d.2.2 = e := ⟨_, rfl⟩
  obtain ⟨f, hf⟩ : ∃ f, pNum l 1 e.2.1 e.2.2 = f := ⟨_, rfl⟩
  obtain ⟨g, hg⟩ : ∃ g, pTxt l 48 f.2.1 f.2.2 = g := ⟨_, rfl⟩
  obtain ⟨h, hh⟩ : ∃ h, pTxt l 64 g.2.1 g.2.2 = h := ⟨_, rfl⟩
  exact ⟨⟨a, b, c, d, e, f, g, h⟩, ⟨ha, hb, hc, hd, he, hf, hg, hh⟩⟩
theorem pNum_yes {l : List Nat} {k a : Nat} (h : a + k ≤ l.length) : pNum l k a 0 = (beVal ((l.drop a).take k), a + k, 0) := by
  unfold pNum pGet; rw [if_pos rfl, if_neg (by omega)]
theorem pNum_no {l : List Nat} {k a : Nat} (h : l.length < a + k) : pNum l k a 0 = (0, 0, 3) := by
  unfold pNum pGet; rw [if_pos rfl, if_pos h]
theorem pNum_err {l : List Nat} {k a e : Nat} (h : e ≠ 0) : pNum l k a e = (0, a, e) := if_neg h
theorem pTxt_err {l : List Nat} {k a e : Nat} (h : e ≠ 0) : pTxt l k a e = ([], a, e) := if_neg h
theorem beVal_one {l : List Nat} {a : Nat} (h : a < l.length) : beVal ((l.drop a).take 1) = l[a] := by
  have : (l.drop a).take 1 = [l[a]] := by rw [List.drop_eq_getElem_cons h]; rfl
  rw [this]; simp [beVal]
theorem beVal_three {l : List Nat} {a : Nat} (h : a + 2 < l.length) : beVal ((l.drop a).take 3) = l[a] * 65536 + l[a + 1] * 256 + l[a + 2] := by
  have : (l.drop a).take 3 = [l[a], l[a + 1], l[a + 2]] := by
    rw [List.drop_eq_getElem_cons (by omega : a < l.length), List.take_succ_cons, List.drop_eq_getElem_cons (by omega : a + 1 < l.length), List.take_succ_cons, List.drop_eq_getElem_cons (by omega : a + 1 + 1 < l.length), List.take_succ_cons, List.take_zero]
  rw [this]
  simp [beVal]
  omega
/-- What is read of 22 bytes and more. -/
structure Long (R : Read) (l : List Nat) (h : 22 ≤ l.length) : Prop where
  n1 : R.n1 = (beVal ((l.drop 0).take 8), 8, 0)
  n2 : R.n2 = (beVal ((l.drop 8).take 8), 16, 0)
  n3 : R.n3 = (l[16], 17, 0)
  n4 : R.n4 = (l[17], 18, 0)
  n5 : R.n5 = (l[18] * 65536 + l[19] * 256 + l[20], 21, 0)
  n6 : R.n6 = (l[21], 22, 0)
  n7 : R.n7 = pText l 22 48
  n8 : R.n8 = if R.n7.2.2 = 0 then pText l R.n7.2.1 64 else ([], R.n7.2.1, R.n7.2.2)
theorem read_long {R : Read} {l : List Nat} (hR : R.of l) (h : 22 ≤ l.length) : Long R l h := by
  obtain ⟨h1, h2, h3, h4, h5, h6, h7, h8⟩ := hR
  have e1 := h1.symm.trans (pNum_yes (l := l) (k := 8) (a := 0) (by omega))
  rw [e1] at h2
  have e2 := h2.symm.trans (pNum_yes (l := l) (k := 8) (a := 8) (by omega))
  rw [e2] at h3
  have e3 := h3.symm.trans (pNum_yes (l := l) (k := 1) (a := 16) (by omega))
  rw [e3] at h4
  have e4 := h4.symm.trans (pNum_yes (l := l) (k := 1) (a := 17) (by omega))
  rw [e4] at h5
  have e5 := h5.symm.trans (pNum_yes (l := l) (k := 3) (a := 18) (by omega))
  rw [e5] at h6
  have e6 := h6.symm.trans (pNum_yes (l := l) (k := 1) (a := 21) (by omega))
  rw [e6] at h7
  refine ⟨e1, e2, ?_, ?_, ?_, ?_, h7.symm, h8.symm⟩
  · rw [e3, beVal_one (by omega)]
  · rw [e4, beVal_one (by omega)]
  · rw [e5, beVal_three (by omega)]
  · rw [e6, beVal_one (by omega)]
theorem read_short {R : Read} {l : List Nat} (hR : R.of l) (h : l.length < 22) : R.n6.1 = 0 ∧ R.n8.2.2 = 3 := by
  obtain ⟨h1, h2, h3, h4, h5, h6, h7, h8⟩ := hR
  have step : ∀ {n m : Nat × Nat × Nat} {k : Nat}, n.2.2 = 3 → pNum l k n.2.1 n.2.2 = m → m.2.2 = 3 ∧ m.1 = 0 := by
    intro n m k hn hm
    rw [hn, pNum_err (by decide)] at hm
    subst hm
    exact ⟨rfl, rfl⟩
  have fin : R.n6.2.2 = 3 → R.n8.2.2 = 3 := by
    intro e
    rw [e, pTxt_err (by decide)] at h7
    rw [← h7, pTxt_err (by show (3 : Nat) ≠ 0; decide)] at h8
    rw [← h8]
  by_cases c1 : l.length < 8
  · have e1 := h1.symm.trans (pNum_no (l := l) (k := 8) (a := 0) (by omega))
    have s1 : R.n1.2.2 = 3 := by rw [e1]
    have s2 := step s1 h2
    have s3 := step s2.1 h3
    have s4 := step s3.1 h4
    have s5 := step s4.1 h5
    have s6 := step s5.1 h6
    exact ⟨s6.2, fin s6.1⟩
  · have e1 := h1.symm.trans (pNum_yes (l := l) (k := 8) (a := 0) (by omega))
    rw [e1] at h2
    by_cases c2 : l.length < 16
    · have e2 := h2.symm.trans (pNum_no (l := l) (k := 8) (a := 8) (by omega))
      have s2 : R.n2.2.2 = 3 := by rw [e2]
      have s3 := step s2 h3
      have s4 := step s3.1 h4
      have s5 := step s4.1 h5
      have s6 := step s5.1 h6
      exact ⟨s6.2, fin s6.1⟩
    · have e2 := h2.symm.trans (pNum_yes (l := l) (k := 8) (a := 8) (by omega))
      rw [e2] at h3
      by_cases c3 : l.length < 17
      · have e3 := h3.symm.trans (pNum_no (l := l) (k := 1) (a := 16) (by omega))
        have s3 : R.n3.2.2 = 3 := by rw [e3]
        have s4 := step s3 h4
        have s5 := step s4.1 h5
        have s6 := step s5.1 h6
        exact ⟨s6.2, fin s6.1⟩
      · have e3 := h3.symm.trans (pNum_yes (l := l) (k := 1) (a := 16) (by omega))
        rw [e3] at h4
        by_cases c4 : l.length < 18
        · have e4 := h4.symm.trans (pNum_no (l := l) (k := 1) (a := 17) (by omega))
          have s4 : R.n4.2.2 = 3 := by rw [e4]
          have s5 := step s4 h5
          have s6 := step s5.1 h6
          exact ⟨s6.2, fin s6.1⟩
        · have e4 := h4.symm.trans (pNum_yes (l := l) (k := 1) (a := 17) (by omega))
          rw [e4] at h5
          by_cases c5 : l.length < 21
          · have e5 := h5.symm.trans (pNum_no (l := l) (k := 3) (a := 18) (by omega))
            have s5 : R.n5.2.2 = 3 := by rw [e5]
            have s6 := step s5 h6
            exact ⟨s6.2, fin s6.1⟩
          · have e5 := h5.symm.trans (pNum_yes (l := l) (k := 3) (a := 18) (by omega))
            rw [e5] at h6
            have e6 := h6.symm.trans (pNum_no (l := l) (k := 1) (a := 21) (by omega))
            have s6 : R.n6.2.2 = 3 := by rw [e6]
            exact ⟨by rw [e6], fin s6⟩

/-- Where the reference's Get stands: its item, its none, its result. -/
structure Sg (w W : World) (C : List Value) : Prop where
  it : W.heap[w.heap.size + 1 + 1]? = some (.cells C.toArray 129 (0, 0))
  no : W.heap[w.heap.size + 1]? = some (.cells #[.int .u64 0, .int .u64 0, i64 0, i64 0, cx 0 0, .bool false, .string { data := #[] }, .string { data := #[] }] 129 (0, 0))
  res : W.heap[w.heap.size]? = some (.cells #[.int .u64 0, .int .u64 0, i64 0, i64 0, cx 0 0, .bool false, .string { data := #[] }, .string { data := #[] }] 129 (0, 0))
  below : Below w.heap.size w W
theorem Sg.set {w W : World} {C : List Value} (h : Sg w W C) (i : Nat) (x : Value) : Sg w (W.setCell ⟨w.heap.size + 1 + 1, i, none⟩ x) (C.set i x) := by
  refine ⟨?_, ?_, ?_, below_set h.below (by omega) _ _⟩
  · have := heap_setCell h.it i x
    simpa using this
  · rw [Below.heap_setCell _ _ _ _ (by show w.heap.size + 1 ≠ w.heap.size + 1 + 1; omega)]; exact h.no
  · rw [Below.heap_setCell _ _ _ _ (by show w.heap.size ≠ w.heap.size + 1 + 1; omega)]; exact h.res
theorem Sg.later {w W W' : World} {C : List Value} (h : Sg w W C) (hb : Below W.heap.size W W') : Sg w W' C :=
  ⟨blk_below h.it hb, blk_below h.no hb, blk_below h.res hb, Base.tr h.below hb⟩

end Go.Proofs.YthiimpleljaimaaGreatDoor

/- An item's bytes read back, and what was read written again (the plain part). -/
namespace Go.Proofs.YthiimpleljaimaaGreatDoor
open Go.RowKit Flo

theorem be_one {n : Nat} (h : n < 256) : be 1 n = [n] := by
  show [n / 256 ^ 0 % 256] = [n]
  rw [Nat.pow_zero, Nat.div_one, Nat.mod_eq_of_lt h]
theorem be_three {s o : Nat} (hs : s < 256) (ho : o < 65536) : be 3 (s * 65536 + o) = [s, o / 256, o % 256] := by
  show [(s * 65536 + o) / 256 ^ 2 % 256, (s * 65536 + o) / 256 ^ 1 % 256, (s * 65536 + o) / 256 ^ 0 % 256] = _
  have e1 : (s * 65536 + o) / 256 ^ 2 % 256 = s := by omega
  have e2 : (s * 65536 + o) / 256 ^ 1 % 256 = o / 256 := by omega
  have e3 : (s * 65536 + o) / 256 ^ 0 % 256 = o % 256 := by omega
  rw [e1, e2, e3]
theorem itemB_flat {seq ver idx cnt s o : Nat} {g : Bool} {k v : ByteArray} (hi : idx < 256) (hc : cnt < 256) (hs : s < 256) (ho : o < 65536) :
    itemB seq ver idx cnt s o g k v = be 8 seq ++ (be 8 ver ++ (be 1 idx ++ (be 1 cnt ++ (be 3 (s * 65536 + o) ++ (be 1 (if g then 1 else 0) ++ ((sb k).length :: (sb k ++ ((sb v).length :: (sb v ++ []))))))))) := by
  have hg : be 1 (if g then 1 else 0) = [if g then 1 else 0] := be_one (by split <;> omega)
  rw [be_one hi, be_one hc, be_three hs ho, hg, sb_len, sb_len]
  unfold itemB headIt
  simp

/-- What is read of an item's bytes. -/
theorem read_itemB {R : Read} {seq ver idx cnt s o : Nat} {g : Bool} {k v : ByteArray} (hR : R.of (itemB seq ver idx cnt s o g k v)) (h1 : seq < 2 ^ 64) (h2 : ver < 2 ^ 64) (hi : idx < 256) (hc : cnt < 256) (hs : s < 256) (ho : o < 65536)
    (hk : k.size ≤ 48) (hv : v.size ≤ 64) :
    R.n1.1 = seq ∧ R.n2.1 = ver ∧ R.n3.1 = idx ∧ R.n4.1 = cnt ∧ R.n5.1 = s * 65536 + o ∧ R.n6.1 = (if g then 1 else 0) ∧ R.n7.1 = sb k ∧ R.n8.1 = sb v ∧ R.n8.2.2 = 0 ∧ R.n8.2.1 = (itemB seq ver idx cnt s o g k v).length := by
  have hf := itemB_flat (seq := seq) (ver := ver) (g := g) (k := k) (v := v) hi hc hs ho
  generalize hl : itemB seq ver idx cnt s o g k v = l at *
  obtain ⟨r1, r2, r3, r4, r5, r6, r7, r8⟩ := hR
  have d0 : l.drop 0 = be 8 seq ++ (be 8 ver ++ (be 1 idx ++ (be 1 cnt ++ (be 3 (s * 65536 + o) ++ (be 1 (if g then 1 else 0) ++ ((sb k).length :: (sb k ++ ((sb v).length :: (sb v ++ []))))))))) := hf
  obtain ⟨p1, q1, t1⟩ := pGet_put d0 (Nat.zero_le _) (by omega)
  have e1 : R.n1 = (seq, 0 + 8, 0) := by rw [← r1]; exact p1
  rw [e1] at r2
  obtain ⟨p2, q2, t2⟩ := pGet_put q1 t1 (by omega)
  have e2 : R.n2 = (ver, 0 + 8 + 8, 0) := by rw [← r2]; exact p2
  rw [e2] at r3
  obtain ⟨p3, q3, t3⟩ := pGet_put q2 t2 (by omega)
  have e3 : R.n3 = (idx, 0 + 8 + 8 + 1, 0) := by rw [← r3]; exact p3
  rw [e3] at r4
  obtain ⟨p4, q4, t4⟩ := pGet_put q3 t3 (by omega)
  have e4 : R.n4 = (cnt, 0 + 8 + 8 + 1 + 1, 0) := by rw [← r4]; exact p4
  rw [e4] at r5
  obtain ⟨p5, q5, t5⟩ := pGet_put q4 t4 (by omega)
  have e5 : R.n5 = (s * 65536 + o, 0 + 8 + 8 + 1 + 1 + 3, 0) := by rw [← r5]; exact p5
  rw [e5] at r6
  obtain ⟨p6, q6, t6⟩ := pGet_put q5 t5 (by split <;> omega)
  have e6 : R.n6 = ((if g then 1 else 0), 0 + 8 + 8 + 1 + 1 + 3 + 1, 0) := by rw [← r6]; exact p6
  rw [e6] at r7
  obtain ⟨p7, q7, t7⟩ := pText_put (most := 48) q6 t6 (by rw [sb_len]; exact hk)
  have e7 : R.n7 = (sb k, 0 + 8 + 8 + 1 + 1 + 3 + 1 + 1 + (sb k).length, 0) := by rw [← r7]; exact p7
  rw [e7] at r8
  obtain ⟨p8, q8, t8⟩ := pText_put (most := 64) q7 t7 (by rw [sb_len]; exact hv)
  have e8 : R.n8 = (sb v, 0 + 8 + 8 + 1 + 1 + 3 + 1 + 1 + (sb k).length + 1 + (sb v).length, 0) := by rw [← r8]; exact p8
  have hend := congrArg List.length q8
  rw [List.length_drop] at hend
  simp only [List.length_nil] at hend
  rw [e1, e2, e3, e4, e5, e6, e7, e8]
  refine ⟨rfl, rfl, rfl, rfl, rfl, rfl, rfl, rfl, rfl, ?_⟩
  show 0 + 8 + 8 + 1 + 1 + 3 + 1 + 1 + (sb k).length + 1 + (sb v).length = l.length
  omega

theorem plc_in {s o : Nat} (hs : s ≤ 254) (ho : o ≤ 65535) : plc (s * 65536 + o) = (near (s : Nat), near (o : Nat)) := by
  unfold plc
  rw [if_neg (by omega), show (s * 65536 + o) / 65536 = s by omega, show (s * 65536 + o) % 65536 = o by omega]
theorem toB_inj_sb (k : ByteArray) : toB (sb k) = k := toB_sb k

/-- An item that may be, put and got. -/
theorem put_get {x : Item} {seq ver idx cnt s o : Nat} (h : Plain x seq ver idx cnt s o) (hm : mayB x = true) {R : Read} (hR : R.of (itemB seq ver idx cnt s o x.gone x.key x.value)) :
    R.err (itemB seq ver idx cnt s o x.gone x.key x.value).length = 0 ∧ itemEq R.item x = true := by
  obtain ⟨e1, e2, e3, e4, e5, e6, e7, e8, e9, e10⟩ := read_itemB hR h.seq2 h.ver2 (by have := h.idx1; have := h.cnt2; omega) (by have := h.cnt2; omega) (by have := h.s2; omega) (by have := h.o2; omega) h.key2 h.val2
  have hit : R.item = ⟨seq, ver, idx, cnt, near (s : Nat), near (o : Nat), x.gone, x.key, x.value⟩ := by
    unfold Read.item
    rw [e1, e2, e3, e4, e5, e6, e7, e8, plc_in h.s2 h.o2, toB_sb, toB_sb]
    congr 1
    cases x.gone <;> rfl
  have v1 := nearest_int s (by have := h.s2; omega)
  have v2 := nearest_int o (by have := h.o2; omega)
  have w1 := part_of h.hs
  have w2 := part_of h.ho
  have hp : placeOk R.item.a R.item.b = true := by
    rw [hit]
    have p1 : part? (near ((s : Nat) : Int)) = some s := part_some (nearest_Whole (n := s) (by have := h.s2; omega))
    have p2 : part? (near ((o : Nat) : Int)) = some o := part_some (nearest_Whole (n := o) (by have := h.o2; omega))
    unfold placeOk parts?
    show (match ((part? (near ((s : Nat) : Int))).bind fun s => (part? (near ((o : Nat) : Int))).map fun o => (s, o)) with | some (s, o) => decide (s ≤ 254) && decide (o ≤ 65535) | none => false) = true
    rw [p1, p2]
    simp [h.s2, h.o2]
  have hmay : mayB R.item = true := by
    rw [mayB_rest] at hm ⊢
    rw [Bool.and_eq_true] at hm ⊢
    refine ⟨hp, ?_⟩
    have hr := hm.2
    rw [restB_iff] at hr ⊢
    rw [hit]
    rw [h.hcnt, h.hidx] at hr
    exact hr
  constructor
  · unfold Read.err
    rw [if_neg (by rw [e6]; split <;> omega), if_neg (by rw [e9]; simp), if_neg (by rw [e10]; omega), if_neg (by rw [hmay]; simp)]
  · rw [hit]
    unfold itemEq cxEq
    have c1 : (FloatKind.f64.format.order (near (s : Nat)) x.a == some Ordering.eq) = true := eqF_same v1 w1.1
    have c2 : (FloatKind.f64.format.order (near (o : Nat)) x.b == some Ordering.eq) = true := eqF_same v2 w2.1
    simp only [c1, c2, h.hseq, h.hver, h.hidx, h.hcnt]
    simp

theorem plc_back {n s o : Nat} (hn : n < 16777216) (hs : part? (plc n).1 = some s) (ho : part? (plc n).2 = some o) : n = s * 65536 + o ∧ o < 65536 := by
  unfold plc at hs ho
  by_cases h : n = 16777215
  · rw [if_pos h] at hs
    have hw := (part_of hs).1
    have hv := nearest_intZ (-1) (by decide)
    rw [show floatOfInt .f64 (-1) = 13830554455654793216 from by decide] at hv
    have e : (-1 : Int) * unit = (s : Int) * unit := Option.some.inj (hv.symm.trans hw)
    have := Int.eq_of_mul_eq_mul_right (by have := unit_pos; omega) e
    omega
  · rw [if_neg h] at hs ho
    have p1 : part? (near ((n / 65536 : Nat) : Int)) = some (n / 65536) := part_some (nearest_Whole (n := n / 65536) (by omega))
    have p2 : part? (near ((n % 65536 : Nat) : Int)) = some (n % 65536) := part_some (nearest_Whole (n := n % 65536) (by omega))
    have h1 := p1.symm.trans hs
    have h2 := p2.symm.trans ho
    injection h1 with h1
    injection h2 with h2
    omega
theorem mem_of_text {l t : List Nat} {a most e : Nat} (h : pText l a most = (t, e, 0)) : ∀ b ∈ t, b ∈ l := by
  obtain ⟨_, _, _, hd⟩ := pText_back h
  intro b hb
  have : b ∈ l.drop a := by rw [hd]; exact List.mem_cons_of_mem _ (List.mem_append_left _ hb)
  exact List.mem_of_mem_drop this

/-- What was read with no error, written again. -/
theorem get_put {R : Read} {l : List Nat} (hR : R.of l) (hl : ∀ b ∈ l, b < 256) (h0 : R.err l.length = 0) :
    mayB R.item = true ∧ ∃ seq ver idx cnt s o, Plain R.item seq ver idx cnt s o ∧ itemB seq ver idx cnt s o R.item.gone R.item.key R.item.value = l := by
  have hlen : 22 ≤ l.length := by
    rcases Nat.lt_or_ge l.length 22 with h | h
    · obtain ⟨r6, r8⟩ := read_short hR h
      unfold Read.err at h0
      rw [if_neg (by omega), if_pos (by omega), r8] at h0
      cases h0
    · exact h
  have L := read_long hR hlen
  unfold Read.err at h0
  split at h0
  · cases h0
  rename_i g6
  split at h0
  · rename_i h; exact absurd h0 h
  rename_i g8
  split at h0
  · cases h0
  rename_i ga
  split at h0
  · cases h0
  rename_i gm
  have hmay : mayB R.item = true := by simpa using gm
  have e8 : R.n8.2.2 = 0 := by omega
  have e7 : R.n7.2.2 = 0 := by
    rcases Nat.eq_zero_or_pos R.n7.2.2 with h | h
    · exact h
    · have := L.n8
      rw [if_neg (by omega)] at this
      rw [this] at e8
      exact e8
  have t8 := L.n8
  rw [if_pos e7] at t8
  have k7 : pText l 22 48 = (R.n7.1, R.n7.2.1, 0) := by rw [← L.n7]; exact Prod.ext rfl (Prod.ext rfl e7)
  have k8 : pText l R.n7.2.1 64 = (R.n8.1, R.n8.2.1, 0) := by rw [← t8]; exact Prod.ext rfl (Prod.ext rfl e8)
  obtain ⟨a7, b7, c7, d7⟩ := pText_back k7
  obtain ⟨a8, b8, c8, d8⟩ := pText_back k8
  have hend : R.n8.2.1 = l.length := by omega
  obtain ⟨g1, g2, g3, g4, g5, g6', -, -⟩ := hR
  have y1 : pGet l 0 8 = (R.n1.1, 8, 0) := by rw [L.n1]; unfold pGet; rw [if_neg (by omega)]
  have y2 : pGet l 8 8 = (R.n2.1, 16, 0) := by rw [L.n2]; unfold pGet; rw [if_neg (by omega)]
  have y3 : pGet l 16 1 = (R.n3.1, 17, 0) := by rw [L.n3]; unfold pGet; rw [if_neg (by omega), beVal_one (by omega)]
  have y4 : pGet l 17 1 = (R.n4.1, 18, 0) := by rw [L.n4]; unfold pGet; rw [if_neg (by omega), beVal_one (by omega)]
  have y5 : pGet l 18 3 = (R.n5.1, 21, 0) := by rw [L.n5]; unfold pGet; rw [if_neg (by omega), beVal_three (by omega)]
  have y6 : pGet l 21 1 = (R.n6.1, 22, 0) := by rw [L.n6]; unfold pGet; rw [if_neg (by omega), beVal_one (by omega)]
  have z1 := (pGet_back hl y1).2.2
  have z2 := (pGet_back hl y2).2.2
  have z3 := (pGet_back hl y3).2.2
  have z4 := (pGet_back hl y4).2.2
  have z5 := (pGet_back hl y5).2.2
  have z6 := (pGet_back hl y6).2.2
  have u1 : R.n1.1 < 256 ^ 8 := by rw [← g1]; exact pNum_lt hl
  have u2 : R.n2.1 < 256 ^ 8 := by rw [← g2]; exact pNum_lt hl
  have u5 : R.n5.1 < 256 ^ 3 := by rw [← g5]; exact pNum_lt hl
  have i1 : R.item.seq = (R.n1.1 : Int) := rfl
  have i2 : R.item.ver = (R.n2.1 : Int) := rfl
  have i3 : R.item.index = (R.n3.1 : Int) := rfl
  have i4 : R.item.count = (R.n4.1 : Int) := rfl
  obtain ⟨seq, ver, idx, cnt, s, o, hP⟩ := plain_of hmay (by rw [i1]; omega) (by rw [i1]; omega) (by rw [i2]; omega) (by rw [i2]; omega)
  refine ⟨hmay, seq, ver, idx, cnt, s, o, hP, ?_⟩
  have j1 : R.n1.1 = seq := by have := hP.hseq; rw [i1] at this; omega
  have j2 : R.n2.1 = ver := by have := hP.hver; rw [i2] at this; omega
  have j3 : R.n3.1 = idx := by have := hP.hidx; rw [i3] at this; omega
  have j4 : R.n4.1 = cnt := by have := hP.hcnt; rw [i4] at this; omega
  obtain ⟨j5, ho⟩ := plc_back u5 hP.hs hP.ho
  have hidx := hP.idx1
  have hcnt := hP.cnt2
  have hs2 := hP.s2
  rw [itemB_flat (by omega) (by omega) (by omega) ho]
  have kk : sb R.item.key = R.n7.1 := sb_toB _ (fun b hb => hl b (mem_of_text k7 b hb))
  have kv : sb R.item.value = R.n8.1 := sb_toB _ (fun b hb => hl b (mem_of_text k8 b hb))
  have kg : (if R.item.gone then 1 else 0) = R.n6.1 := by
    show (if ((R.n6.1 : Int) == 1) = true then 1 else 0) = R.n6.1
    by_cases h : R.n6.1 = 1
    · rw [h]; rfl
    · have : R.n6.1 = 0 := by omega
      rw [this]; rfl
  rw [kk, kv, kg, ← j1, ← j2, ← j3, ← j4, ← j5]
  have d9 : l.drop R.n8.2.1 = [] := List.drop_eq_nil_of_le (by omega)
  rw [d9] at d8
  rw [← d8, ← d7, ← z6, ← z5, ← z4, ← z3, ← z2, ← z1]
  rfl
theorem itemB_lt {x : Item} {seq ver idx cnt s o : Nat} (h : Plain x seq ver idx cnt s o) : ∀ b ∈ itemB seq ver idx cnt s o x.gone x.key x.value, b < 256 := by
  have h1 := h.idx1
  have h2 := h.cnt2
  have h3 := h.s2
  have h4 := h.o2
  have h5 := h.key2
  have h6 := h.val2
  have hg : (if x.gone then 1 else 0) < 256 := by split <;> omega
  have app : ∀ {a b : List Nat}, (∀ x ∈ a, x < 256) → (∀ x ∈ b, x < 256) → ∀ x ∈ a ++ b, x < 256 := fun ha hb x hx => (List.mem_append.1 hx).elim (ha x) (hb x)
  have con : ∀ {a : Nat} {b : List Nat}, a < 256 → (∀ x ∈ b, x < 256) → ∀ x ∈ a :: b, x < 256 := fun ha hb x hx => (List.mem_cons.1 hx).elim (fun e => e ▸ ha) (hb x)
  have nil : ∀ x ∈ ([] : List Nat), x < 256 := fun x hx => nomatch hx
  unfold itemB headIt
  exact app (app (app (app (be_lt _ _) (be_lt _ _)) (con (by omega) (con (by omega) (con (by omega) (con (by omega) (con (by omega) (con hg nil))))))) (con (by omega) (sb_lt _))) (con (by omega) (sb_lt _))
theorem itemB_short {x : Item} {seq ver idx cnt s o : Nat} (h : Plain x seq ver idx cnt s o) : (itemB seq ver idx cnt s o x.gone x.key x.value).length ≤ 1000 := by
  have h5 := h.key2
  have h6 := h.val2
  unfold itemB headIt
  simp [be_len, sb_len]
  omega
theorem pText_err_le (l : List Nat) (a m : Nat) : (pText l a m).2.2 ≤ 4 := by
  unfold pText
  repeat' split
  all_goals simp
theorem err_le {R : Read} {l : List Nat} (hR : R.of l) : R.err l.length ≤ 4 := by
  have h8 : R.n8.2.2 ≤ 4 := by
    rcases Nat.lt_or_ge l.length 22 with h | h
    · have := (read_short hR h).2; omega
    · have L := read_long hR h
      rw [L.n8]
      split
      · exact pText_err_le _ _ _
      · show R.n7.2.2 ≤ 4
        rw [L.n7]
        exact pText_err_le _ _ _
  unfold Read.err
  repeat' split
  all_goals omega
theorem zero_self : itemEq zeroIt zeroIt = true := by
  have h : cxEq 0 0 0 0 = true := by unfold cxEq; decide
  unfold itemEq
  show (_ && _ && _ && _ && cxEq 0 0 0 0 && _ && _ && _) = true
  rw [h]
  simp
end Go.Proofs.YthiimpleljaimaaGreatDoor

