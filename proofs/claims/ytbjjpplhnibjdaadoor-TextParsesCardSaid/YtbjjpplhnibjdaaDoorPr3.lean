/- flintref26.Print: the document's line. -/
import Derived.Test.YtbjjpplhnibjdaaDoorPr2
namespace Go.Proofs.YtbjjpplhnibjdaaDoor
open Go Go.RowKit

theorem class_fin : ∀ k, k ≤ 16 → k ≠ 0 → (hasT k, partsL k) = ((1, false, false, false, false), [112]) ∨ (hasT k, partsL k) = ((2, false, false, false, false), [112, 111]) ∨ (hasT k, partsL k) = ((0, true, false, false, false), [104]) ∨ (hasT k, partsL k) = ((0, true, true, true, false), [104, 102, 110]) ∨ (hasT k, partsL k) = ((0, true, true, false, true), [104, 102, 100]) ∨ (hasT k, partsL k) = ((0, true, false, true, false), [104, 110]) ∨ (hasT k, partsL k) = ((0, false, false, false, false), []) := by
  intro k h h0
  rcases kind_cases h with rfl | rfl | rfl | rfl | rfl | rfl | rfl | rfl | rfl | rfl | rfl | rfl | rfl | rfl | rfl | rfl | rfl
  all_goals first | exact absurd rfl h0 | exact .inl rfl | exact .inr (.inl rfl) | exact .inr (.inr (.inl rfl)) | exact .inr (.inr (.inr (.inl rfl))) | exact .inr (.inr (.inr (.inr (.inl rfl)))) | exact .inr (.inr (.inr (.inr (.inr (.inl rfl))))) | exact .inr (.inr (.inr (.inr (.inr (.inr rfl)))))

set_option maxHeartbeats 16000000 in
set_option maxRecDepth 100000 in
theorem rprint_no (o : OpT) (v : Value) (w : World) (ha : OpArg w o v) (hk : o.kind = 0 ∨ 16 < o.kind) :
    Calls Tryd.prog 10 #[.agg (o.cells v)] w fun e w' => e = .returned (.tuple #[.string (toB []), i64 28]) ∧ Below w.heap.size w w' := by
  have GW := fun W => Lib.hid (rword_any o.kind ha.kind W)
  have hwk : wordOf o.kind = [] := by
    unfold wordOf
    rcases hk with h | h
    · rw [h]; rfl
    · rw [if_neg (by omega)]
  rw [hwk] at GW
  have tE : (toB []).toList.isEmpty = true := by rw [ByteArray.toList_eq]; rfl
  have kw : IntKind.i64.wrap (o.kind : Int) = (o.kind : Int) := by rw [IntKind.wrap_i64]; have := ha.kind; omega
  unfold OpT.cells
  go_enter Tryd.func10, Tryd.ntmps10
  go_wp2_with fail
  refine (GW _).out.mono ?_; rintro e1 w1 ⟨rfl, hb1⟩
  go_wp2_with fail
  go_ret2
  exact ⟨rfl, Base.tr (Base.al (Below.refl _ w) _) hb1⟩

set_option maxHeartbeats 16000000 in
set_option maxRecDepth 100000 in
theorem rprint_ok (o : OpT) (v : Value) (w : World) (ha : OpArg w o v) (hk0 : o.kind ≠ 0) (hk : o.kind ≤ 16) :
    Calls Tryd.prog 10 #[.agg (o.cells v)] w fun e w' => e = .returned (.tuple #[.string (toB (wordOf o.kind ++ printB (partsL o.kind) o)), i64 0]) ∧ Below w.heap.size w w' := by
  have GW := fun W => Lib.hid (rword_any o.kind ha.kind W)
  have GH := fun W => Lib.hid (has_any o.kind W)
  have tE : (toB (wordOf o.kind)).toList.isEmpty = false := by
    have : ∀ k, k ≤ 16 → k ≠ 0 → ((wordOf k).map UInt8.ofNat).isEmpty = false := by decide
    rw [ByteArray.toList_eq]
    exact this o.kind hk hk0
  have hwl := wordOf_len o.kind hk
  have kw : IntKind.i64.wrap (o.kind : Int) = (o.kind : Int) := by rw [IntKind.wrap_i64]; have := ha.kind; omega
  have hc := class_fin o.kind hk hk0
  have HA := Lib.hid ha
  obtain ⟨R, hR⟩ : ∃ R, wordOf o.kind ++ printB (partsL o.kind) o = R := ⟨_, rfl⟩
  rw [hR]
  generalize wordOf o.kind = wd at *
  generalize partsL o.kind = ps at *
  generalize hasT o.kind = hs at *
  have hB0 := Base.al (Below.refl _ w) (.cells (o.cells v) 25)
  have kg0 := blk_new w (.cells (o.cells v) 25)
  have hx0 : (w.alloc (.cells (o.cells v) 25)) = (w.alloc (.cells #[bv o.kind, .string (toB o.path), .string (toB o.other), i64 o.handle, i64 o.from_, i64 o.n, v] 25)) := rfl
  have HB0 := Lib.hid hB0
  have KG0 := Lib.hid kg0
  clear hB0 kg0 hx0 hk hk0 ha
  rcases hc with hc | hc | hc | hc | hc | hc | hc
  · obtain ⟨rfl, rfl⟩ := Prod.mk.inj hc
    have hl0 : wd.length ≤ 8 := hwl
    have G0 := fun W => rquote_any (toB o.path) W (by rw [toB_size]; have := HA.out.path; omega)
    rw [sb_toB _ HA.out.pathB] at G0
    have hq0 : (quoteL o.path).length ≤ 10000 := by have := quoteL_len o.path; have := HA.out.path; omega
    obtain ⟨q0, hqq0⟩ : ∃ q, quoteL o.path = q := ⟨_, rfl⟩
    rw [hqq0] at G0 hq0
    obtain ⟨a0, ha0⟩ : ∃ a, wd ++ [32] = a := ⟨_, rfl⟩
    obtain ⟨b0, hb0⟩ : ∃ b, a0 ++ q0 = b := ⟨_, rfl⟩
    have hla0 : a0.length = wd.length + 1 := by rw [← ha0]; simp
    have hlb0 : b0.length = a0.length + q0.length := by rw [← hb0]; simp
    have n0a : (9223372036854775807 < (toB wd).size + 1) = False := nocat wd [32] (by simp; omega)
    have e0a : toB wd ++ ({ data := #[32] } : ByteArray) = toB a0 := by rw [← ha0]; exact toB_cat wd [32]
    have n0b := nocat a0 q0 (by omega)
    have e0b : toB a0 ++ toB q0 = toB b0 := by rw [← hb0]; exact toB_cat a0 q0
    have hfin : b0 = R := by rw [← hR, ← hb0, ← ha0]; simp [printB, partS, hqq0]
    have HF := Lib.hid hfin
    clear hfin hR hwl hc hl0 hqq0 ha0 hb0 hla0 hlb0 hq0
    have HG0 := fun W => Lib.hid (G0 W)
    clear G0
    unfold OpT.cells
    go_enter Tryd.func10, Tryd.ntmps10
    go_wp2_with fail
    refine (GW _).out.mono ?_; rintro e1 x1 ⟨rfl, hw1⟩
    have KG1 := Lib.hid (blk_below KG0.out hw1)
    have HB1 := Lib.hid (Base.tr HB0.out hw1)
    clear hw1
    have c1k : x1.cell? ⟨w.heap.size, 0, none⟩ = some (bv o.kind) := cell_blk KG1.out 0
    have hz1 : w.heap.size < x1.heap.size := (Array.getElem?_eq_some_iff.1 KG1.out).1
    have c1f : x1.cell? ⟨w.heap.size, 1, none⟩ = some (.string (toB o.path)) := cell_blk KG1.out 1
    go_wp2_with fail
    refine (GH _).out.mono ?_; rintro e2 x2 ⟨rfl, rfl⟩
    unfold hasV
    go_wp2_with fail
    refine (HG0 _).out.mono ?_; rintro e3 y0 ⟨rfl, hw2⟩
    have KG2 := Lib.hid (blk_below KG1.out hw2)
    have HB2 := Lib.hid (Base.tr HB1.out hw2)
    clear hw2
    go_wp2_with fail
    go_ret2
    exact ⟨by rw [← HF.out]; rfl, HB2.out⟩
  · obtain ⟨rfl, rfl⟩ := Prod.mk.inj hc
    have hl0 : wd.length ≤ 8 := hwl
    have G0 := fun W => rquote_any (toB o.path) W (by rw [toB_size]; have := HA.out.path; omega)
    rw [sb_toB _ HA.out.pathB] at G0
    have hq0 : (quoteL o.path).length ≤ 10000 := by have := quoteL_len o.path; have := HA.out.path; omega
    obtain ⟨q0, hqq0⟩ : ∃ q, quoteL o.path = q := ⟨_, rfl⟩
    rw [hqq0] at G0 hq0
    obtain ⟨a0, ha0⟩ : ∃ a, wd ++ [32] = a := ⟨_, rfl⟩
    obtain ⟨b0, hb0⟩ : ∃ b, a0 ++ q0 = b := ⟨_, rfl⟩
    have hla0 : a0.length = wd.length + 1 := by rw [← ha0]; simp
    have hlb0 : b0.length = a0.length + q0.length := by rw [← hb0]; simp
    have n0a : (9223372036854775807 < (toB wd).size + 1) = False := nocat wd [32] (by simp; omega)
    have e0a : toB wd ++ ({ data := #[32] } : ByteArray) = toB a0 := by rw [← ha0]; exact toB_cat wd [32]
    have n0b := nocat a0 q0 (by omega)
    have e0b : toB a0 ++ toB q0 = toB b0 := by rw [← hb0]; exact toB_cat a0 q0
    have G1 := fun W => rquote_any (toB o.other) W (by rw [toB_size]; have := HA.out.other; omega)
    rw [sb_toB _ HA.out.otherB] at G1
    have hq1 : (quoteL o.other).length ≤ 10000 := by have := quoteL_len o.other; have := HA.out.other; omega
    obtain ⟨q1, hqq1⟩ : ∃ q, quoteL o.other = q := ⟨_, rfl⟩
    rw [hqq1] at G1 hq1
    obtain ⟨a1, ha1⟩ : ∃ a, b0 ++ [32] = a := ⟨_, rfl⟩
    obtain ⟨b1, hb1⟩ : ∃ b, a1 ++ q1 = b := ⟨_, rfl⟩
    have hla1 : a1.length = b0.length + 1 := by rw [← ha1]; simp
    have hlb1 : b1.length = a1.length + q1.length := by rw [← hb1]; simp
    have n1a : (9223372036854775807 < (toB b0).size + 1) = False := nocat b0 [32] (by simp; omega)
    have e1a : toB b0 ++ ({ data := #[32] } : ByteArray) = toB a1 := by rw [← ha1]; exact toB_cat b0 [32]
    have n1b := nocat a1 q1 (by omega)
    have e1b : toB a1 ++ toB q1 = toB b1 := by rw [← hb1]; exact toB_cat a1 q1
    have hfin : b1 = R := by rw [← hR, ← hb1, ← ha1, ← hb0, ← ha0]; simp [printB, partS, hqq0, hqq1]
    have HF := Lib.hid hfin
    clear hfin hR hwl hc hl0 hqq0 ha0 hb0 hla0 hlb0 hq0 hqq1 ha1 hb1 hla1 hlb1 hq1
    have HG0 := fun W => Lib.hid (G0 W)
    have HG1 := fun W => Lib.hid (G1 W)
    clear G0 G1
    unfold OpT.cells
    go_enter Tryd.func10, Tryd.ntmps10
    go_wp2_with fail
    refine (GW _).out.mono ?_; rintro e1 x1 ⟨rfl, hw1⟩
    have KG1 := Lib.hid (blk_below KG0.out hw1)
    have HB1 := Lib.hid (Base.tr HB0.out hw1)
    clear hw1
    have c1k : x1.cell? ⟨w.heap.size, 0, none⟩ = some (bv o.kind) := cell_blk KG1.out 0
    have hz1 : w.heap.size < x1.heap.size := (Array.getElem?_eq_some_iff.1 KG1.out).1
    have c1f : x1.cell? ⟨w.heap.size, 1, none⟩ = some (.string (toB o.path)) := cell_blk KG1.out 1
    go_wp2_with fail
    refine (GH _).out.mono ?_; rintro e2 x2 ⟨rfl, rfl⟩
    unfold hasV
    go_wp2_with fail
    refine (HG0 _).out.mono ?_; rintro e3 y0 ⟨rfl, hw2⟩
    have KG2 := Lib.hid (blk_below KG1.out hw2)
    have HB2 := Lib.hid (Base.tr HB1.out hw2)
    clear hw2
    have c2f : y0.cell? ⟨w.heap.size, 2, none⟩ = some (.string (toB o.other)) := cell_blk KG2.out 2
    have hz2 : w.heap.size < y0.heap.size := (Array.getElem?_eq_some_iff.1 KG2.out).1
    go_wp2_with fail
    refine (HG1 _).out.mono ?_; rintro e3 y1 ⟨rfl, hw3⟩
    have KG3 := Lib.hid (blk_below KG2.out hw3)
    have HB3 := Lib.hid (Base.tr HB2.out hw3)
    clear hw3
    go_wp2_with fail
    go_ret2
    exact ⟨by rw [← HF.out]; rfl, HB3.out⟩
  · obtain ⟨rfl, rfl⟩ := Prod.mk.inj hc
    have hl0 : wd.length ≤ 8 := hwl
    have G0 := fun W => decimal_any o.handle HA.out.handle.1 HA.out.handle.2 W
    have hq0 : (decI o.handle).length ≤ 10000 := by have := decI_len o.handle HA.out.handle; omega
    obtain ⟨q0, hqq0⟩ : ∃ q, decI o.handle = q := ⟨_, rfl⟩
    rw [hqq0] at G0 hq0
    obtain ⟨a0, ha0⟩ : ∃ a, wd ++ [32] = a := ⟨_, rfl⟩
    obtain ⟨b0, hb0⟩ : ∃ b, a0 ++ q0 = b := ⟨_, rfl⟩
    have hla0 : a0.length = wd.length + 1 := by rw [← ha0]; simp
    have hlb0 : b0.length = a0.length + q0.length := by rw [← hb0]; simp
    have n0a : (9223372036854775807 < (toB wd).size + 1) = False := nocat wd [32] (by simp; omega)
    have e0a : toB wd ++ ({ data := #[32] } : ByteArray) = toB a0 := by rw [← ha0]; exact toB_cat wd [32]
    have n0b := nocat a0 q0 (by omega)
    have e0b : toB a0 ++ toB q0 = toB b0 := by rw [← hb0]; exact toB_cat a0 q0
    have hfin : b0 = R := by rw [← hR, ← hb0, ← ha0]; simp [printB, partS, hqq0]
    have HF := Lib.hid hfin
    clear hfin hR hwl hc hl0 hqq0 ha0 hb0 hla0 hlb0 hq0
    have HG0 := fun W => Lib.hid (G0 W)
    clear G0
    unfold OpT.cells
    go_enter Tryd.func10, Tryd.ntmps10
    go_wp2_with fail
    refine (GW _).out.mono ?_; rintro e1 x1 ⟨rfl, hw1⟩
    have KG1 := Lib.hid (blk_below KG0.out hw1)
    have HB1 := Lib.hid (Base.tr HB0.out hw1)
    clear hw1
    have c1k : x1.cell? ⟨w.heap.size, 0, none⟩ = some (bv o.kind) := cell_blk KG1.out 0
    have hz1 : w.heap.size < x1.heap.size := (Array.getElem?_eq_some_iff.1 KG1.out).1
    have c1f : x1.cell? ⟨w.heap.size, 3, none⟩ = some (i64 o.handle) := cell_blk KG1.out 3
    go_wp2_with fail
    refine (GH _).out.mono ?_; rintro e2 x2 ⟨rfl, rfl⟩
    unfold hasV
    go_wp2_with fail
    refine (HG0 _).out.mono ?_; rintro e3 y0 ⟨rfl, rfl⟩
    go_wp2_with fail
    go_ret2
    exact ⟨by rw [← HF.out]; rfl, HB1.out⟩
  · obtain ⟨rfl, rfl⟩ := Prod.mk.inj hc
    have hl0 : wd.length ≤ 8 := hwl
    have G0 := fun W => decimal_any o.handle HA.out.handle.1 HA.out.handle.2 W
    have hq0 : (decI o.handle).length ≤ 10000 := by have := decI_len o.handle HA.out.handle; omega
    obtain ⟨q0, hqq0⟩ : ∃ q, decI o.handle = q := ⟨_, rfl⟩
    rw [hqq0] at G0 hq0
    obtain ⟨a0, ha0⟩ : ∃ a, wd ++ [32] = a := ⟨_, rfl⟩
    obtain ⟨b0, hb0⟩ : ∃ b, a0 ++ q0 = b := ⟨_, rfl⟩
    have hla0 : a0.length = wd.length + 1 := by rw [← ha0]; simp
    have hlb0 : b0.length = a0.length + q0.length := by rw [← hb0]; simp
    have n0a : (9223372036854775807 < (toB wd).size + 1) = False := nocat wd [32] (by simp; omega)
    have e0a : toB wd ++ ({ data := #[32] } : ByteArray) = toB a0 := by rw [← ha0]; exact toB_cat wd [32]
    have n0b := nocat a0 q0 (by omega)
    have e0b : toB a0 ++ toB q0 = toB b0 := by rw [← hb0]; exact toB_cat a0 q0
    have G1 := fun W => decimal_any o.from_ HA.out.from_.1 HA.out.from_.2 W
    have hq1 : (decI o.from_).length ≤ 10000 := by have := decI_len o.from_ HA.out.from_; omega
    obtain ⟨q1, hqq1⟩ : ∃ q, decI o.from_ = q := ⟨_, rfl⟩
    rw [hqq1] at G1 hq1
    obtain ⟨a1, ha1⟩ : ∃ a, b0 ++ [32] = a := ⟨_, rfl⟩
    obtain ⟨b1, hb1⟩ : ∃ b, a1 ++ q1 = b := ⟨_, rfl⟩
    have hla1 : a1.length = b0.length + 1 := by rw [← ha1]; simp
    have hlb1 : b1.length = a1.length + q1.length := by rw [← hb1]; simp
    have n1a : (9223372036854775807 < (toB b0).size + 1) = False := nocat b0 [32] (by simp; omega)
    have e1a : toB b0 ++ ({ data := #[32] } : ByteArray) = toB a1 := by rw [← ha1]; exact toB_cat b0 [32]
    have n1b := nocat a1 q1 (by omega)
    have e1b : toB a1 ++ toB q1 = toB b1 := by rw [← hb1]; exact toB_cat a1 q1
    have G2 := fun W => decimal_any o.n HA.out.n.1 HA.out.n.2 W
    have hq2 : (decI o.n).length ≤ 10000 := by have := decI_len o.n HA.out.n; omega
    obtain ⟨q2, hqq2⟩ : ∃ q, decI o.n = q := ⟨_, rfl⟩
    rw [hqq2] at G2 hq2
    obtain ⟨a2, ha2⟩ : ∃ a, b1 ++ [32] = a := ⟨_, rfl⟩
    obtain ⟨b2, hb2⟩ : ∃ b, a2 ++ q2 = b := ⟨_, rfl⟩
    have hla2 : a2.length = b1.length + 1 := by rw [← ha2]; simp
    have hlb2 : b2.length = a2.length + q2.length := by rw [← hb2]; simp
    have n2a : (9223372036854775807 < (toB b1).size + 1) = False := nocat b1 [32] (by simp; omega)
    have e2a : toB b1 ++ ({ data := #[32] } : ByteArray) = toB a2 := by rw [← ha2]; exact toB_cat b1 [32]
    have n2b := nocat a2 q2 (by omega)
    have e2b : toB a2 ++ toB q2 = toB b2 := by rw [← hb2]; exact toB_cat a2 q2
    have hfin : b2 = R := by rw [← hR, ← hb2, ← ha2, ← hb1, ← ha1, ← hb0, ← ha0]; simp [printB, partS, hqq0, hqq1, hqq2]
    have HF := Lib.hid hfin
    clear hfin hR hwl hc hl0 hqq0 ha0 hb0 hla0 hlb0 hq0 hqq1 ha1 hb1 hla1 hlb1 hq1 hqq2 ha2 hb2 hla2 hlb2 hq2
    have HG0 := fun W => Lib.hid (G0 W)
    have HG1 := fun W => Lib.hid (G1 W)
    have HG2 := fun W => Lib.hid (G2 W)
    clear G0 G1 G2
    unfold OpT.cells
    go_enter Tryd.func10, Tryd.ntmps10
    go_wp2_with fail
    refine (GW _).out.mono ?_; rintro e1 x1 ⟨rfl, hw1⟩
    have KG1 := Lib.hid (blk_below KG0.out hw1)
    have HB1 := Lib.hid (Base.tr HB0.out hw1)
    clear hw1
    have c1k : x1.cell? ⟨w.heap.size, 0, none⟩ = some (bv o.kind) := cell_blk KG1.out 0
    have hz1 : w.heap.size < x1.heap.size := (Array.getElem?_eq_some_iff.1 KG1.out).1
    have c1f : x1.cell? ⟨w.heap.size, 3, none⟩ = some (i64 o.handle) := cell_blk KG1.out 3
    go_wp2_with fail
    refine (GH _).out.mono ?_; rintro e2 x2 ⟨rfl, rfl⟩
    unfold hasV
    go_wp2_with fail
    refine (HG0 _).out.mono ?_; rintro e3 y0 ⟨rfl, rfl⟩
    have c1f0 : y0.cell? ⟨w.heap.size, 4, none⟩ = some (i64 o.from_) := cell_blk KG1.out 4
    go_wp2_with fail
    refine (HG1 _).out.mono ?_; rintro e3 y1 ⟨rfl, rfl⟩
    have c1f1 : y1.cell? ⟨w.heap.size, 5, none⟩ = some (i64 o.n) := cell_blk KG1.out 5
    go_wp2_with fail
    refine (HG2 _).out.mono ?_; rintro e3 y2 ⟨rfl, rfl⟩
    go_wp2_with fail
    go_ret2
    exact ⟨by rw [← HF.out]; rfl, HB1.out⟩
  · obtain ⟨rfl, rfl⟩ := Prod.mk.inj hc
    have hl0 : wd.length ≤ 8 := hwl
    have G0 := fun W => decimal_any o.handle HA.out.handle.1 HA.out.handle.2 W
    have hq0 : (decI o.handle).length ≤ 10000 := by have := decI_len o.handle HA.out.handle; omega
    obtain ⟨q0, hqq0⟩ : ∃ q, decI o.handle = q := ⟨_, rfl⟩
    rw [hqq0] at G0 hq0
    obtain ⟨a0, ha0⟩ : ∃ a, wd ++ [32] = a := ⟨_, rfl⟩
    obtain ⟨b0, hb0⟩ : ∃ b, a0 ++ q0 = b := ⟨_, rfl⟩
    have hla0 : a0.length = wd.length + 1 := by rw [← ha0]; simp
    have hlb0 : b0.length = a0.length + q0.length := by rw [← hb0]; simp
    have n0a : (9223372036854775807 < (toB wd).size + 1) = False := nocat wd [32] (by simp; omega)
    have e0a : toB wd ++ ({ data := #[32] } : ByteArray) = toB a0 := by rw [← ha0]; exact toB_cat wd [32]
    have n0b := nocat a0 q0 (by omega)
    have e0b : toB a0 ++ toB q0 = toB b0 := by rw [← hb0]; exact toB_cat a0 q0
    have G1 := fun W => decimal_any o.from_ HA.out.from_.1 HA.out.from_.2 W
    have hq1 : (decI o.from_).length ≤ 10000 := by have := decI_len o.from_ HA.out.from_; omega
    obtain ⟨q1, hqq1⟩ : ∃ q, decI o.from_ = q := ⟨_, rfl⟩
    rw [hqq1] at G1 hq1
    obtain ⟨a1, ha1⟩ : ∃ a, b0 ++ [32] = a := ⟨_, rfl⟩
    obtain ⟨b1, hb1⟩ : ∃ b, a1 ++ q1 = b := ⟨_, rfl⟩
    have hla1 : a1.length = b0.length + 1 := by rw [← ha1]; simp
    have hlb1 : b1.length = a1.length + q1.length := by rw [← hb1]; simp
    have n1a : (9223372036854775807 < (toB b0).size + 1) = False := nocat b0 [32] (by simp; omega)
    have e1a : toB b0 ++ ({ data := #[32] } : ByteArray) = toB a1 := by rw [← ha1]; exact toB_cat b0 [32]
    have n1b := nocat a1 q1 (by omega)
    have e1b : toB a1 ++ toB q1 = toB b1 := by rw [← hb1]; exact toB_cat a1 q1
    have G2 := fun W => rquote_any (toB o.data) W (by rw [toB_size]; have := HA.out.data; omega)
    rw [sb_toB _ HA.out.dataB] at G2
    have hq2 : (quoteL o.data).length ≤ 10000 := by have := quoteL_len o.data; have := HA.out.data; omega
    obtain ⟨q2, hqq2⟩ : ∃ q, quoteL o.data = q := ⟨_, rfl⟩
    rw [hqq2] at G2 hq2
    obtain ⟨a2, ha2⟩ : ∃ a, b1 ++ [32] = a := ⟨_, rfl⟩
    obtain ⟨b2, hb2⟩ : ∃ b, a2 ++ q2 = b := ⟨_, rfl⟩
    have hla2 : a2.length = b1.length + 1 := by rw [← ha2]; simp
    have hlb2 : b2.length = a2.length + q2.length := by rw [← hb2]; simp
    have n2a : (9223372036854775807 < (toB b1).size + 1) = False := nocat b1 [32] (by simp; omega)
    have e2a : toB b1 ++ ({ data := #[32] } : ByteArray) = toB a2 := by rw [← ha2]; exact toB_cat b1 [32]
    have n2b := nocat a2 q2 (by omega)
    have e2b : toB a2 ++ toB q2 = toB b2 := by rw [← hb2]; exact toB_cat a2 q2
    have hfin : b2 = R := by rw [← hR, ← hb2, ← ha2, ← hb1, ← ha1, ← hb0, ← ha0]; simp [printB, partS, hqq0, hqq1, hqq2]
    have HF := Lib.hid hfin
    clear hfin hR hwl hc hl0 hqq0 ha0 hb0 hla0 hlb0 hq0 hqq1 ha1 hb1 hla1 hlb1 hq1 hqq2 ha2 hb2 hla2 hlb2 hq2
    have HG0 := fun W => Lib.hid (G0 W)
    have HG1 := fun W => Lib.hid (G1 W)
    have HG2 := fun W => Lib.hid (G2 W)
    clear G0 G1 G2
    unfold OpT.cells
    go_enter Tryd.func10, Tryd.ntmps10
    go_wp2_with fail
    refine (GW _).out.mono ?_; rintro e1 x1 ⟨rfl, hw1⟩
    have KG1 := Lib.hid (blk_below KG0.out hw1)
    have HB1 := Lib.hid (Base.tr HB0.out hw1)
    clear hw1
    have c1k : x1.cell? ⟨w.heap.size, 0, none⟩ = some (bv o.kind) := cell_blk KG1.out 0
    have hz1 : w.heap.size < x1.heap.size := (Array.getElem?_eq_some_iff.1 KG1.out).1
    have c1f : x1.cell? ⟨w.heap.size, 3, none⟩ = some (i64 o.handle) := cell_blk KG1.out 3
    go_wp2_with fail
    refine (GH _).out.mono ?_; rintro e2 x2 ⟨rfl, rfl⟩
    unfold hasV
    go_wp2_with fail
    refine (HG0 _).out.mono ?_; rintro e3 y0 ⟨rfl, rfl⟩
    have c1f0 : y0.cell? ⟨w.heap.size, 4, none⟩ = some (i64 o.from_) := cell_blk KG1.out 4
    go_wp2_with fail
    refine (HG1 _).out.mono ?_; rintro e3 y1 ⟨rfl, rfl⟩
    have c1f1 : y1.cell? ⟨w.heap.size, 6, none⟩ = some (v) := cell_blk KG1.out 6
    have hcv : (convert 23 9 v).run Tryd.prog y1 = .ok (.string (toB o.data)) y1 := conv_slice HA.out.sl (Sl.below HA.out.byt HB1.out)
    go_wp2_with fail
    refine (HG2 _).out.mono ?_; rintro e3 y2 ⟨rfl, hw4⟩
    have KG2 := Lib.hid (blk_below KG1.out hw4)
    have HB2 := Lib.hid (Base.tr HB1.out hw4)
    clear hw4
    go_wp2_with fail
    go_ret2
    exact ⟨by rw [← HF.out]; rfl, HB2.out⟩
  · obtain ⟨rfl, rfl⟩ := Prod.mk.inj hc
    have hl0 : wd.length ≤ 8 := hwl
    have G0 := fun W => decimal_any o.handle HA.out.handle.1 HA.out.handle.2 W
    have hq0 : (decI o.handle).length ≤ 10000 := by have := decI_len o.handle HA.out.handle; omega
    obtain ⟨q0, hqq0⟩ : ∃ q, decI o.handle = q := ⟨_, rfl⟩
    rw [hqq0] at G0 hq0
    obtain ⟨a0, ha0⟩ : ∃ a, wd ++ [32] = a := ⟨_, rfl⟩
    obtain ⟨b0, hb0⟩ : ∃ b, a0 ++ q0 = b := ⟨_, rfl⟩
    have hla0 : a0.length = wd.length + 1 := by rw [← ha0]; simp
    have hlb0 : b0.length = a0.length + q0.length := by rw [← hb0]; simp
    have n0a : (9223372036854775807 < (toB wd).size + 1) = False := nocat wd [32] (by simp; omega)
    have e0a : toB wd ++ ({ data := #[32] } : ByteArray) = toB a0 := by rw [← ha0]; exact toB_cat wd [32]
    have n0b := nocat a0 q0 (by omega)
    have e0b : toB a0 ++ toB q0 = toB b0 := by rw [← hb0]; exact toB_cat a0 q0
    have G1 := fun W => decimal_any o.n HA.out.n.1 HA.out.n.2 W
    have hq1 : (decI o.n).length ≤ 10000 := by have := decI_len o.n HA.out.n; omega
    obtain ⟨q1, hqq1⟩ : ∃ q, decI o.n = q := ⟨_, rfl⟩
    rw [hqq1] at G1 hq1
    obtain ⟨a1, ha1⟩ : ∃ a, b0 ++ [32] = a := ⟨_, rfl⟩
    obtain ⟨b1, hb1⟩ : ∃ b, a1 ++ q1 = b := ⟨_, rfl⟩
    have hla1 : a1.length = b0.length + 1 := by rw [← ha1]; simp
    have hlb1 : b1.length = a1.length + q1.length := by rw [← hb1]; simp
    have n1a : (9223372036854775807 < (toB b0).size + 1) = False := nocat b0 [32] (by simp; omega)
    have e1a : toB b0 ++ ({ data := #[32] } : ByteArray) = toB a1 := by rw [← ha1]; exact toB_cat b0 [32]
    have n1b := nocat a1 q1 (by omega)
    have e1b : toB a1 ++ toB q1 = toB b1 := by rw [← hb1]; exact toB_cat a1 q1
    have hfin : b1 = R := by rw [← hR, ← hb1, ← ha1, ← hb0, ← ha0]; simp [printB, partS, hqq0, hqq1]
    have HF := Lib.hid hfin
    clear hfin hR hwl hc hl0 hqq0 ha0 hb0 hla0 hlb0 hq0 hqq1 ha1 hb1 hla1 hlb1 hq1
    have HG0 := fun W => Lib.hid (G0 W)
    have HG1 := fun W => Lib.hid (G1 W)
    clear G0 G1
    unfold OpT.cells
    go_enter Tryd.func10, Tryd.ntmps10
    go_wp2_with fail
    refine (GW _).out.mono ?_; rintro e1 x1 ⟨rfl, hw1⟩
    have KG1 := Lib.hid (blk_below KG0.out hw1)
    have HB1 := Lib.hid (Base.tr HB0.out hw1)
    clear hw1
    have c1k : x1.cell? ⟨w.heap.size, 0, none⟩ = some (bv o.kind) := cell_blk KG1.out 0
    have hz1 : w.heap.size < x1.heap.size := (Array.getElem?_eq_some_iff.1 KG1.out).1
    have c1f : x1.cell? ⟨w.heap.size, 3, none⟩ = some (i64 o.handle) := cell_blk KG1.out 3
    go_wp2_with fail
    refine (GH _).out.mono ?_; rintro e2 x2 ⟨rfl, rfl⟩
    unfold hasV
    go_wp2_with fail
    refine (HG0 _).out.mono ?_; rintro e3 y0 ⟨rfl, rfl⟩
    have c1f0 : y0.cell? ⟨w.heap.size, 5, none⟩ = some (i64 o.n) := cell_blk KG1.out 5
    go_wp2_with fail
    refine (HG1 _).out.mono ?_; rintro e3 y1 ⟨rfl, rfl⟩
    go_wp2_with fail
    go_ret2
    exact ⟨by rw [← HF.out]; rfl, HB1.out⟩
  · obtain ⟨rfl, rfl⟩ := Prod.mk.inj hc
    have hl0 : wd.length ≤ 8 := hwl
    have hfin : wd = R := by rw [← hR]; simp [printB]
    have HF := Lib.hid hfin
    clear hfin hR hwl hc hl0
    unfold OpT.cells
    go_enter Tryd.func10, Tryd.ntmps10
    go_wp2_with fail
    refine (GW _).out.mono ?_; rintro e1 x1 ⟨rfl, hw1⟩
    have KG1 := Lib.hid (blk_below KG0.out hw1)
    have HB1 := Lib.hid (Base.tr HB0.out hw1)
    clear hw1
    have c1k : x1.cell? ⟨w.heap.size, 0, none⟩ = some (bv o.kind) := cell_blk KG1.out 0
    have hz1 : w.heap.size < x1.heap.size := (Array.getElem?_eq_some_iff.1 KG1.out).1
    go_wp2_with fail
    refine (GH _).out.mono ?_; rintro e2 x2 ⟨rfl, rfl⟩
    unfold hasV
    go_wp2_with fail
    go_ret2
    exact ⟨by rw [← HF.out]; rfl, HB1.out⟩
end Go.Proofs.YtbjjpplhnibjdaaDoor
