/- TextParses: which operation any line is is the document's, or it is refused with its error; it is printed as it stood. -/
import Derived.Test.YtbjjpplhnibjdaaDoorTextPrints
import Derived.Test.YtbjjpplhnibjdaaDoorPs9
namespace Go.Proofs.YtbjjpplhnibjdaaDoor
open Go Go.RowKit

def ansO : Except Nat OpT → OpT
  | .ok o => o
  | .error _ => zeroT 0
def ansE : Except Nat OpT → Nat
  | .ok _ => 0
  | .error k => k
def ParseAns (o : OpT) (E : Nat) (w : World) (e : Ending) (w' : World) : Prop :=
  ∃ v, e = .returned (.tuple #[.agg (o.cells v), i64 E]) ∧ (∃ A n c, v = .slice A n c) ∧ Byt w' v o.data ∧ Below w.heap.size w w'
theorem parse_ans (s : ByteArray) (w : World) (hw : WordsIn w) (hsz : s.size ≤ 3000) : Calls Tryd.prog 6 #[.string s] w (ParseAns (ansO (tParse (sb s))) (ansE (tParse (sb s))) w) := by
  refine (parse_any s w hw (by omega)).mono ?_
  intro e w' h
  cases hx : tParse (sb s) with
  | ok o =>
    rw [hx] at h
    obtain ⟨v, rfl, hown, hb⟩ := h
    obtain ⟨A, c, rfl⟩ := own_val3 hown
    exact ⟨_, rfl, ⟨_, _, _, rfl⟩, own_Byt hown, hb⟩
  | error k =>
    rw [hx] at h
    obtain ⟨rfl, hb⟩ := h
    exact ⟨_, rfl, ⟨_, _, _, rfl⟩, Sl.nil _ _, hb⟩
theorem rparse_ans (s : ByteArray) (w : World) (hsz : s.size ≤ 3000) : Calls Tryd.prog 16 #[.string s] w (ParseAns (ansO (tParse (sb s))) (ansE (tParse (sb s))) w) := by
  refine (rparse_any s w hsz).mono ?_
  intro e w' h
  cases hx : tParse (sb s) with
  | ok o =>
    rw [hx] at h
    obtain ⟨v, rfl, hs, hy, hb⟩ := h
    exact ⟨_, rfl, hs, hy, hb⟩
  | error k =>
    rw [hx] at h
    obtain ⟨rfl, hb⟩ := h
    exact ⟨_, rfl, ⟨_, _, _, rfl⟩, Sl.nil _ _, hb⟩
theorem tParse_err0 {l : List Nat} {k : Nat} (h : tParse l = .error k) : k ≠ 0 := by
  unfold tParse at h
  split at h
  · injection h with h; omega
  · unfold tOp at h
    split at h
    · injection h with h; omega
    · rename_i i hi
      rw [← dEnd_is (partsL (i + 1)) _ _ (partsL_is (i + 1) (by have := (wordIdx_some hi).1; omega)).2] at h
      unfold dEnd at h
      split at h
      · split at h
        · injection h with h; omega
        · cases h
      · rename_i hk
        injection h with h
        rw [← h]; exact hk
theorem parse_arg {s : ByteArray} {o : OpT} {v : Value} {w : World} (hx : tParse (sb s) = .ok o) (hs : s.size ≤ 3000) (hsl : ∃ A n c, v = .slice A n c) (hy : Byt w v o.data) : OpArg w o v := by
  have hf := parse_fit (sb_lt s) hx
  have hk := (print_parse hx).2.1
  rw [sb_len] at hf
  have h1 := hf.path; have h2 := hf.other; have h3 := hf.data
  have n1 := hf.handle; have n2 := hf.from_; have n3 := hf.n
  unfold smallB at n1 n2 n3
  rw [Bool.and_eq_true, decide_eq_true_iff, decide_eq_true_iff] at n1 n2 n3
  exact ⟨by omega, by omega, hf.pathB, by omega, hf.otherB, by omega, hf.dataB, hy, hsl, by omega, by omega, by omega⟩

set_option maxHeartbeats 16000000 in
set_option maxRecDepth 100000 in
theorem textParses_long (s : ByteArray) (w : World) (hw : WordsIn w) (hs : 3000 < s.size) : Makes 5 #[.string s] w (.bool true) := by
  have HF := fun W hW => Lib.hid (fixed26 W hW)
  have t0 : decide ((3000 : Int) < (s.size : Int)) = true := decide_eq_true (by omega)
  clear hs
  go_enter Tryd.func5, Tryd.ntmps5
  go_wp2_with fail
  refine (HF _ hw).out.mono ?_; rintro e1 w1 ⟨rfl, hb1⟩
  go_wp2_with fail
  go_ret
  exact ⟨rfl, hb1⟩

set_option maxHeartbeats 16000000 in
set_option maxRecDepth 100000 in
theorem textParses_short (s : ByteArray) (w : World) (hw : WordsIn w) (hs : s.size ≤ 3000) (ht : ∀ W, Below w.heap.size w W → Pow10 W) : Makes 5 #[.string s] w (.bool true) := by
  have GP0 := fun W hW => parse_ans s W hW hs
  have GR0 := fun W => rparse_ans s W hs
  have HF := fun W hW => Lib.hid (fixed26 W hW)
  have HX : Hid ((ansE (tParse (sb s)) = 0 ∧ tParse (sb s) = .ok (ansO (tParse (sb s)))) ∨ ansE (tParse (sb s)) ≠ 0) := Lib.hid (by
    cases hx : tParse (sb s) with
    | ok o => exact .inl ⟨rfl, rfl⟩
    | error k => exact .inr (tParse_err0 hx))
  obtain ⟨o, ho⟩ : ∃ o, ansO (tParse (sb s)) = o := ⟨_, rfl⟩
  obtain ⟨E, hE⟩ : ∃ E, ansE (tParse (sb s)) = E := ⟨_, rfl⟩
  rw [ho, hE] at GP0 GR0 HX
  have GP := fun W hW => Lib.hid (GP0 W hW)
  have GR := fun W => Lib.hid (GR0 W)
  have t0 : decide ((3000 : Int) < (s.size : Int)) = false := decide_eq_false (by omega)
  have HW := Lib.hid hw
  have HT := Lib.hid ht
  have HS := Lib.hid hs
  clear GP0 GR0 ho hE hw ht hs
  go_enter Tryd.func5, Tryd.ntmps5
  go_wp2_with fail
  refine (GP _ HW.out).out.mono ?_; rintro e1 w1 ⟨v1, rfl, ⟨A1, n1, k1, rfl⟩, y1, hb1⟩
  unfold OpT.cells
  have hn1 := blk_new w1 (.cells (o.cells (.slice A1 n1 k1)) 25)
  have hb1a := Base.al hb1 (.cells (o.cells (.slice A1 n1 k1)) 25)
  have y1a := Sl.below y1 (Base.al (Below.refl _ w1) (.cells (o.cells (.slice A1 n1 k1)) 25))
  unfold OpT.cells at hn1 hb1a y1a
  have K1 := Lib.hid (And.intro hn1 (And.intro hb1a y1a))
  clear hn1 hb1a y1a y1 hb1
  go_wp2_with fail
  refine (GR _).out.mono ?_; rintro e2 w2 ⟨v2, rfl, ⟨A2, n2, k2, rfl⟩, y2, hb2⟩
  unfold OpT.cells
  have g1 := blk_below K1.out.1 hb2
  have b2 := Base.tr K1.out.2.1 hb2
  have y12 := Sl.below K1.out.2.2 hb2
  have hal := fun (x : Obj) => Base.al (Below.refl _ w2) x
  have hn2 := blk_new w2 (.cells (o.cells (.slice A2 n2 k2)) 25)
  have g1a := blk_below g1 (hal (.cells (o.cells (.slice A2 n2 k2)) 25))
  have b2a := Base.tr b2 (hal (.cells (o.cells (.slice A2 n2 k2)) 25))
  have y1a := Sl.below y12 (hal (.cells (o.cells (.slice A2 n2 k2)) 25))
  have y2a := Sl.below y2 (hal (.cells (o.cells (.slice A2 n2 k2)) 25))
  unfold OpT.cells at hn2 g1a b2a y1a y2a
  have K2 := Lib.hid (And.intro hn2 (And.intro g1a (And.intro b2a (And.intro y1a y2a))))
  clear hn2 g1a b2a y1a y2a g1 b2 y12 hal y2 hb2 K1
  go_wp2_with fail
  refine (HF _ (HW.out.below K2.out.2.2.1)).out.mono ?_; rintro e3 w3 ⟨rfl, hb3⟩
  have g2 := blk_below K2.out.1 hb3
  have g1 := blk_below K2.out.2.1 hb3
  have b3 := Base.tr K2.out.2.2.1 hb3
  have y1 := Sl.below K2.out.2.2.2.1 hb3
  have y2 := Sl.below K2.out.2.2.2.2 hb3
  have c0 := cell_blk g1 0
  have c1 := cell_blk g1 1
  have c2 := cell_blk g1 2
  have c3 := cell_blk g1 3
  have c4 := cell_blk g1 4
  have c5 := cell_blk g1 5
  have c6 := cell_blk g1 6
  have d0 := cell_blk g2 0
  have d1 := cell_blk g2 1
  have d2 := cell_blk g2 2
  have d3 := cell_blk g2 3
  have d4 := cell_blk g2 4
  have d5 := cell_blk g2 5
  have d6 := cell_blk g2 6
  have GS := Lib.hid (same_refl o (.slice A1 n1 k1) (.slice A2 n2 k2) w3 ⟨_, _, _, rfl⟩ y1 ⟨_, _, _, rfl⟩ y2)
  unfold OpT.cells at GS
  have K3 := Lib.hid (And.intro g1 (And.intro b3 y1))
  clear g1 g2 b3 y1 y2 hb3 K2 GP GR HF
  go_wp2_with fail
  refine GS.out.mono ?_; rintro e4 w4 ⟨rfl, hb4⟩
  have g1 := blk_below K3.out.1 hb4
  have b4 := Base.tr K3.out.2.1 hb4
  have y4 := Sl.below K3.out.2.2 hb4
  clear c0 c1 c2 c3 c4 c5 c6 d0 d1 d2 d3 d4 d5 d6 K3 GS
  have tE : ((E : Int) == (E : Int)) = true := beq_self_eq_true _
  have tE2 : ((E : Int) != (E : Int)) = false := by simp
  rcases HX.out with ⟨rfl, hx⟩ | hne
  · have c0 := cell_blk g1 0
    have c1 := cell_blk g1 1
    have c2 := cell_blk g1 2
    have c3 := cell_blk g1 3
    have c4 := cell_blk g1 4
    have c5 := cell_blk g1 5
    have c6 := cell_blk g1 6
    have hpp := print_parse hx
    have GQ := print_any o (.slice A1 n1 k1) w4 (parse_arg hx HS.out ⟨_, _, _, rfl⟩ y4) (HW.out.below b4) (fun W' hb' => HT.out W' (Base.tr b4 hb'))
    rw [hpp.1, toB_sb, show printE o = 0 by unfold printE; rw [if_neg (by omega)]] at GQ
    unfold OpT.cells at GQ
    have HQ := Lib.hid GQ
    have B4 := Lib.hid b4
    clear GQ hpp hx g1 b4 y4 hb4 HX
    go_wp2_with fail
    refine HQ.out.mono ?_; rintro e5 w5 ⟨rfl, hb5⟩
    go_wp2_with fail
    go_ret
    exact ⟨rfl, Base.tr B4.out hb5⟩
  · have t1 : ((E : Int) == 0) = false := by rw [beq_eq_false_iff_ne]; omega
    have B4 := Lib.hid b4
    clear hne g1 b4 y4 hb4 HX
    go_wp2_with fail
    go_ret
    exact ⟨rfl, B4.out⟩
end Go.Proofs.YtbjjpplhnibjdaaDoor
