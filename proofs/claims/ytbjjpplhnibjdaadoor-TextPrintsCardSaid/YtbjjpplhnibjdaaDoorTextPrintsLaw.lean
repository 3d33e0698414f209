/- TextPrints: for every operation the law returns true: its row, and its card. -/
import Derived.Test.YtbjjpplhnibjdaaDoorTextLaid
import Derived.Test.YtbjjpplhnibjdaaDoorFlat
import Derived.Test.YtbjjpplhnibjdaaDoorOpenS
namespace Go.Proofs.YtbjjpplhnibjdaaDoor
open Go Go.ChangeShapes Go.WideShapes Go.ChangeAt Go.RowKit

section
variable {H : Type} {enc : TypeId × Value → H} {w : World} {spare : Nat → Bool} {held : Bool}
theorem leaf_u8 {r : List Value} (h : leaves enc Tryd.prog w 0 spare held [.int .u8] r) : ∃ x : Nat, r = [bv x] ∧ x < 256 := by
  match r, h with
  | [_], ⟨⟨a, rfl, hw⟩, _⟩ =>
    have h2 : 0 ≤ a ∧ a ≤ 255 := by
      simp [Lit.wf] at hw
      exact hw
    exact ⟨a.toNat, by show [Value.int .u8 a] = [Value.int .u8 ((a.toNat : Nat) : Int)]; rw [Int.toNat_of_nonneg h2.1], by omega⟩
theorem wf_i64 {a : Int} (hw : (Lit.int .i64 a).wf = true) : -9223372036854775808 ≤ a ∧ a ≤ 9223372036854775807 := by
  simp [Lit.wf] at hw
  exact hw
theorem leaf_opT {r : List Value} (h : leaves enc Tryd.prog w 0 (fun _ => true) held [.int .u8, .str, .str, .int .i64, .int .i64, .int .i64, .sl 23] r) :
    ∃ (k : Nat) (s1 s2 : ByteArray) (a b c : Int) (A : Option Addr) (l : List Nat) (cap : Nat), r = [bv k, .string s1, .string s2, i64 a, i64 b, i64 c, .slice A l.length cap] ∧ k ≤ 255 ∧ (-9223372036854775808 ≤ a ∧ a ≤ 9223372036854775807) ∧ (-9223372036854775808 ≤ b ∧ b ≤ 9223372036854775807) ∧ (-9223372036854775808 ≤ c ∧ c ≤ 9223372036854775807) ∧ Byt w (.slice A l.length cap) l ∧ ∀ x ∈ l, x < 256 := by
  obtain ⟨_, r1, rfl, ⟨k, rfl, hk⟩, q1⟩ := leaves_cons h
  obtain ⟨_, r2, rfl, ⟨s1, rfl, _⟩, q2⟩ := leaves_cons q1
  obtain ⟨_, r3, rfl, ⟨s2, rfl, _⟩, q3⟩ := leaves_cons q2
  obtain ⟨_, r4, rfl, ⟨a, rfl, ha⟩, q4⟩ := leaves_cons q3
  obtain ⟨_, r5, rfl, ⟨b, rfl, hb⟩, q5⟩ := leaves_cons q4
  obtain ⟨_, r6, rfl, ⟨c, rfl, hc⟩, q6⟩ := leaves_cons q5
  obtain ⟨v, r7, rfl, ⟨m, y, hy⟩, q7⟩ := leaves_cons q6
  rw [leaves_nil q7]
  have h2 : 0 ≤ k ∧ k ≤ 255 := by
    simp [Lit.wf] at hk
    exact hk
  obtain ⟨rows, z0, l0, _, A, cap, rfl⟩ := open_flat (n := 3) (ls := [.int .u8]) (k := 1) Tryd.underlying23 (by kernel_rfl) rfl (by kernel_rfl) (by decide) hy
  obtain ⟨l, rfl, hl⟩ := rows_of (fun r h => leaf_u8 h) rows l0
  refine ⟨k.toNat, s1, s2, a, b, c, A, l, cap, ?_, by omega, wf_i64 ha, wf_i64 hb, wf_i64 hc, ?_, hl⟩
  · show [Value.int .u8 k, _, _, _, _, _, _] = [Value.int .u8 ((k.toNat : Nat) : Int), _, _, _, _, _, _]
    rw [Int.toNat_of_nonneg h2.1, List.length_map]
  · rw [List.length_map] at z0; exact z0
end
set_option maxRecDepth 100000 in
theorem textPrints_law : LawCallsL laidT 4 Tryd.f4 := by
  intro H enc W base args ds p hval hA hsz hfz hL
  rw [Tryd.params4] at hA hval hsz
  obtain ⟨v0, vs0, d0, ds0, p0, q0, hargs, rfl, rfl, h0, r0⟩ := trodAll_cons hA
  obtain ⟨rfl, rfl, rfl⟩ := trodAll_nil r0
  obtain rfl : args = #[v0] := by cases args; simp_all
  obtain ⟨cs, rfl, hlv⟩ := open_flat_struct (n := 4) (ls := [.int .u8, .str, .str, .int .i64, .int .i64, .int .i64, .sl 23]) Tryd.underlying25 (by kernel_rfl) (hval 0 25 v0 rfl rfl) h0
  obtain ⟨k, s1, s2, a, b, c, A, l, cap, hr, hk, ha, hb, hc, hy, hl⟩ := leaf_opT hlv
  have hcs : cs = #[bv k, .string s1, .string s2, i64 a, i64 b, i64 c, .slice A l.length cap] := Array.toList_inj.1 hr
  subst hcs
  obtain ⟨hw, ht⟩ := laidT_gives hL
  cases hg : greatB s1.size s2.size l.length with
  | true => exact textPrints_great k s1 s2 a b c A l.length cap W hw hg
  | false =>
    unfold greatB at hg
    simp at hg
    have hT := Lib.tabBelow_of_tabIs ht
    have := textPrints_small ⟨k, sb s1, sb s2, a, b, c, l⟩ A cap W ⟨hk, by rw [sb_len]; omega, sb_lt s1, by rw [sb_len]; omega, sb_lt s2, by show l.length ≤ 3000; omega, hl, hy, ⟨_, _, _, rfl⟩, ha, hb, hc⟩ ⟨by show (sb s1).length ≤ 600; rw [sb_len]; omega, by show (sb s2).length ≤ 600; rw [sb_len]; omega, by show l.length ≤ 1500; omega⟩ hw (fun W' hb' => hT W' hb')
    unfold OpT.cells at this
    simp only [toB_sb] at this
    exact this

set_option maxRecDepth 100000 in
/-- The door's own heap meets the condition. -/
theorem door_metT (os : Os) (args : Array Value) : laidMetH Tryd.prog laidT ((World.doorLaid Tryd.prog 400 os).forCall (fun _ _ => 0) ⟨#[], args, []⟩).memory :=
  laidMetH_of_parts3 (fuel := 8) (laidMet_of_run' 8 (by kernel_rfl) (by kernel_rfl)) (by kernel_rfl) (by kernel_rfl)

set_option maxRecDepth 100000 in
theorem textPrintsRow_holds : Rows.TextPrintsSaid :=
  OpenClaim.holds_of_wide 4 Tryd.f4 rfl rfl rfl rfl rfl rfl rfl ⟨rfl, rfl, rfl, rfl, rfl⟩ rfl rfl rfl rfl rfl (by kernel_rfl) Tryd.func4 (by kernel_rfl)
    (of_decide_eq_true (by kernel_rfl)) (by unfold Func.isWrapper; first | (rw [if_pos (by decide +kernel)]; kernel_rfl) | (rw [if_neg (by decide +kernel)]; exact ⟨rfl, rfl⟩))
    (fun os started H enc _ => law_lifted_laid (fn := Tryd.f4) (spec := Rows.textPrintsSpec) (laid := laidT) Tryd.func4 (by kernel_rfl) rfl rfl Tryd.underlying4 (of_decide_eq_true (by kernel_rfl))
      (k := 1) (by kernel_rfl) (fun H ds h => by match ds, h with | [_], _ => rfl) os started H enc
      (ChangeSpec.witness_shaped (enc := enc) (C := Tryd.checked) (os := os) (X := fun w _ => laidMetH Tryd.prog laidT w) false (World.doorLaid Tryd.prog 400 os) #[.agg #[.int .u8 0, .string ByteArray.empty, .string ByteArray.empty, .int .i64 0, .int .i64 0, .int .i64 0, .slice none 0 0]] 8 rfl (World.shaped_of_RefB (by kernel_rfl) (by kernel_rfl)) (by kernel_rfl) (by kernel_rfl) (by kernel_rfl) (door_metT os _)) textPrints_law)

set_option maxRecDepth 100000 in
theorem TextPrintsCard_holds : Rows.TextPrintsCardSaid :=
  Claim7.holds_tied_plain_at .later [] [.data, .data, .data, .widerDeep] true (true, "650e7ae6ae80aeacd2b37c88e36e5c4ab70b54db6bace4ba39d71e4565957fae") true
    textPrintsRow_holds (fun _ h => by cases h) (by kernel_rfl) (fun _ h => by cases h) textPrints_row_tie rfl ⟨rfl, rfl⟩ (by kernel_rfl) rfl
    (fun f fn hf hfn => by
      obtain rfl : f = 4 := Option.some.inj ((show Tryd.prog.funcNamed "flint/flintlaw26.TextPrints" = some 4 by kernel_rfl).symm.trans hf) |>.symm
      obtain rfl : fn = Tryd.f4 := (Option.some.inj (Tryd.func4.symm.trans hfn)).symm
      exact ⟨by kernel_rfl, fun j t ht => by
        rw [Tryd.params4] at ht
        have hm : t ∈ [25] := by simpa using Array.mem_of_getElem? ht
        have hall : ([25].all fun u => !Tryd.prog.wantsStandIn u) = true := by kernel_rfl
        exact (show Tryd.prog.wantsStandIn t = false by simpa using List.all_eq_true.1 hall t hm)⟩)
    (by kernel_rfl)
#print axioms TextPrintsCard_holds
end Go.Proofs.YtbjjpplhnibjdaaDoor
