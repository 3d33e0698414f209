/- TextParses: for every line the law returns true: its row, and its card. -/
import Derived.Test.YtbjjpplhnibjdaaDoorTextLaid
import Derived.Test.YtbjjpplhnibjdaaDoorTextParses
import Derived.Test.YtbjjpplhnibjdaaDoorFlat
import Derived.Test.YtbjjpplhnibjdaaDoorOpenS
namespace Go.Proofs.YtbjjpplhnibjdaaDoor
open Go Go.ChangeShapes Go.WideShapes Go.ChangeAt Go.RowKit

set_option maxRecDepth 100000 in
theorem textParses_law : LawCallsL laidT 5 Tryd.f5 := by
  intro H enc W base args ds p hval hA hsz hfz hL
  rw [Tryd.params5] at hA hval hsz
  obtain ⟨v0, vs0, d0, ds0, p0, q0, hargs, rfl, rfl, h0, r0⟩ := trodAll_cons hA
  obtain ⟨rfl, rfl, rfl⟩ := trodAll_nil r0
  obtain rfl : args = #[v0] := by cases args; simp_all
  obtain ⟨s, rfl, _, _, _⟩ := Go.ChangeMaps.open_string Tryd.underlying9 (hval 0 9 v0 rfl rfl) h0
  obtain ⟨hw, ht⟩ := laidT_gives hL
  have hT := Lib.tabBelow_of_tabIs ht
  by_cases hs : s.size ≤ 3000
  · exact textParses_short s W hw hs (fun W' hb' => hT W' hb')
  · exact textParses_long s W hw (by omega)

set_option maxRecDepth 100000 in
/-- The door's own heap meets the condition. -/
theorem door_metT (os : Os) (args : Array Value) : laidMetH Tryd.prog laidT ((World.doorLaid Tryd.prog 400 os).forCall (fun _ _ => 0) ⟨#[], args, []⟩).memory :=
  laidMetH_of_parts3 (fuel := 8) (laidMet_of_run' 8 (by kernel_rfl) (by kernel_rfl)) (by kernel_rfl) (by kernel_rfl)

set_option maxRecDepth 100000 in
theorem textParsesRow_holds : Rows.TextParsesSaid :=
  OpenClaim.holds_of_wide 5 Tryd.f5 rfl rfl rfl rfl rfl rfl rfl ⟨rfl, rfl, rfl, rfl, rfl⟩ rfl rfl rfl rfl rfl (by kernel_rfl) Tryd.func5 (by kernel_rfl)
    (of_decide_eq_true (by kernel_rfl)) (by unfold Func.isWrapper; first | (rw [if_pos (by decide +kernel)]; kernel_rfl) | (rw [if_neg (by decide +kernel)]; exact ⟨rfl, rfl⟩))
    (fun os started H enc _ => law_lifted_laid (fn := Tryd.f5) (spec := Rows.textParsesSpec) (laid := laidT) Tryd.func5 (by kernel_rfl) rfl rfl Tryd.underlying4 (of_decide_eq_true (by kernel_rfl))
      (k := 1) (by kernel_rfl) (fun H ds h => by match ds, h with | [_], _ => rfl) os started H enc
      (ChangeSpec.witness_shaped (enc := enc) (C := Tryd.checked) (os := os) (X := fun w _ => laidMetH Tryd.prog laidT w) false (World.doorLaid Tryd.prog 400 os) #[.string ByteArray.empty] 8 rfl (World.shaped_of_RefB (by kernel_rfl) (by kernel_rfl)) (by kernel_rfl) (by kernel_rfl) (by kernel_rfl) (door_metT os _)) textParses_law)

set_option maxRecDepth 100000 in
theorem TextParsesCard_holds : Rows.TextParsesCardSaid :=
  Claim7.holds_tied_plain_at .later [] [.data, .data, .data, .widerDeep] true (true, "650e7ae6ae80aeacd2b37c88e36e5c4ab70b54db6bace4ba39d71e4565957fae") true
    textParsesRow_holds (fun _ h => by cases h) (by kernel_rfl) (fun _ h => by cases h) textParses_row_tie rfl ⟨rfl, rfl⟩ (by kernel_rfl) rfl
    (fun f fn hf hfn => by
      obtain rfl : f = 5 := Option.some.inj ((show Tryd.prog.funcNamed "flint/flintlaw26.TextParses" = some 5 by kernel_rfl).symm.trans hf) |>.symm
      obtain rfl : fn = Tryd.f5 := (Option.some.inj (Tryd.func5.symm.trans hfn)).symm
      exact ⟨by kernel_rfl, fun j t ht => by
        rw [Tryd.params5] at ht
        have hm : t ∈ [9] := by simpa using Array.mem_of_getElem? ht
        have hall : ([9].all fun u => !Tryd.prog.wantsStandIn u) = true := by kernel_rfl
        exact (show Tryd.prog.wantsStandIn t = false by simpa using List.all_eq_true.1 hall t hm)⟩)
    (by kernel_rfl)
#print axioms TextParsesCard_holds
end Go.Proofs.YtbjjpplhnibjdaaDoor
