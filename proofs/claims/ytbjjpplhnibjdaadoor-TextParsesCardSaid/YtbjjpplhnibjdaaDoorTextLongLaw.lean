/- TextLong: for every number the law returns true: its row, and its card. -/
import Derived.Test.YtbjjpplhnibjdaaDoorTextL9
import Derived.Test.YtbjjpplhnibjdaaDoorRowL
import Derived.OpenShut
import Derived.Test.YtbjjpplhnibjdaaDoorTie
import Derived.Test.YtbjjpplhnibjdaaDoorCards
import Derived.SevenTiedAt
namespace Go.Proofs.YtbjjpplhnibjdaaDoor
open Go Go.ChangeShapes Go.WideShapes Go.ChangeAt Go.RowKit

theorem gWords : Tryd.prog.globalNamed "flint/text.words" = some 0 := by kernel_rfl
theorem tWords : (Tryd.prog.globals[0]?).map (·.type) = some 53 := by kernel_rfl
theorem laidWords {H : Type} : (Rows.laid_flint_text_words : DataW H) = .agg (wordsL.map fun x => .lit (.string (x.map UInt8.ofNat))) := rfl
theorem toB_of_toList {s : ByteArray} {x : List Nat} (h : s.data.toList = x.map UInt8.ofNat) : s = toB x := by
  obtain ⟨⟨l⟩⟩ := s
  have : l = x.map UInt8.ofNat := h
  rw [this]
  rfl

set_option maxRecDepth 100000 in
theorem words_of_laid {W : World} (h : laidMetH Tryd.prog [("flint/text.words", Rows.laid_flint_text_words)] W) : WordsIn W := by
  rw [MakeChecks.laidMetH_plain _ _ _ (by kernel_rfl)] at h
  obtain ⟨ps, ⟨g0, t0, cs0, f0, p0, q0, hg0, ht0, hv0, hd0, _, _⟩, _, _⟩ := h
  obtain rfl := Option.some.inj (gWords.symm.trans hg0)
  obtain rfl := Option.some.inj (tWords.symm.trans ht0)
  obtain ⟨xs, m, _, ex, _, hl, hel⟩ := DataW.trod_array Tryd.underlying53 hd0
  have c9 : Tryd.prog.cellsOf 9 = 1 := by kernel_rfl
  have hw17 : wordsL.length = 17 := by decide
  have hx : ∀ r, r < 17 → W.cell? ⟨0, r, none⟩ = some (.string (toB (wordsL.getD r []))) := fun r hr => by
    have hE := hel r hr
    rw [c9, Nat.mul_one, List.getElem?_eq_getElem (by omega)] at hE
    obtain ⟨z, e1, e2, _⟩ := DataW.trod_string Tryd.underlying9 hE
    have e3 : (xs.map (·.1)) = wordsL.map fun x => .lit (.string (x.map UInt8.ofNat)) := (DataW.agg.inj ((laidWords (H := Unit)).symm.trans (Prod.mk.inj ex).1)).symm
    have e4 : (xs.map (·.1))[r]? = (wordsL.map fun x => (DataW.lit (.string (x.map UInt8.ofNat)) : DataW Unit))[r]? := by rw [e3]
    rw [List.getElem?_map, List.getElem?_map, List.getElem?_eq_getElem (by omega : r < xs.length), List.getElem?_eq_getElem (by omega : r < wordsL.length), e2] at e4
    have hz : z = toB (wordsL.getD r []) := by
      simp only [Option.map_some, Option.some.injEq, DataW.lit.injEq, Lit.string.injEq] at e4
      apply toB_of_toList
      rw [e4, List.getD, List.getElem?_eq_getElem (by omega : r < wordsL.length)]; rfl
    rw [World.var?_cell hg0 hv0 r, ← hz]
    have : cs0.toList[r]? = some (.string z) := by
      have h0 : ((cs0.toList.drop r).take 1)[0]? = some (.string z) := by rw [e1]; rfl
      simpa using h0
    simpa using this
  refine ⟨fun i x hi => ?_, ?_⟩
  · have hr : i < 17 := by rw [← hw17]; exact (List.getElem?_eq_some_iff.1 hi).1
    rw [hx i hr, List.getD, hi]; rfl
  · have hk := hx 0 (by omega)
    rcases Nat.lt_or_ge 0 W.heap.size with h' | h'
    · exact h'
    · rw [show W.cell? ⟨0, 0, none⟩ = none by simp [World.cell?, Array.getElem?_eq_none h']] at hk
      cases hk

abbrev laidW : List (String × DataW Unit) := [("flint/text.words", Rows.laid_flint_text_words)]

set_option maxRecDepth 100000 in
theorem textLong_law : LawCallsL laidW 3 Tryd.f3 := by
  intro H enc W base args ds p hval hA hsz hfz hL
  rw [Tryd.params3] at hA hval hsz
  obtain ⟨v0, vs0, d0, ds0, p0, q0, hargs, rfl, rfl, h0, r0⟩ := trodAll_cons hA
  obtain ⟨rfl, rfl, rfl⟩ := trodAll_nil r0
  obtain rfl : args = #[v0] := by cases args; simp_all
  obtain ⟨n, rfl, -, -, hw⟩ := open_int Tryd.underlying22 (hval 0 22 v0 rfl rfl) h0
  have h2 : 0 ≤ n ∧ n ≤ 65535 := by
    simp [Lit.wf] at hw
    exact hw
  have := textLong_makes n.toNat (by omega) W (words_of_laid hL)
  rw [show ((n.toNat : Nat) : Int) = n from Int.toNat_of_nonneg h2.1] at this
  exact this

set_option maxRecDepth 100000 in
/-- The door's own heap meets the condition. -/
theorem door_met (os : Os) (args : Array Value) : laidMetH Tryd.prog laidW ((World.doorLaid Tryd.prog 400 os).forCall (fun _ _ => 0) ⟨#[], args, []⟩).memory :=
  laidMetH_of_parts3 (fuel := 8) (laidMet_of_run' 8 (by kernel_rfl) (by kernel_rfl)) (by kernel_rfl) (by kernel_rfl)

set_option maxRecDepth 100000 in
theorem textLongRow_holds : Rows.TextLongSaid :=
  OpenClaim.holds_of_wide 3 Tryd.f3 rfl rfl rfl rfl rfl rfl rfl ⟨rfl, rfl, rfl, rfl, rfl⟩ rfl rfl rfl rfl rfl (by kernel_rfl) Tryd.func3 (by kernel_rfl)
    (of_decide_eq_true (by kernel_rfl)) (by unfold Func.isWrapper; first | (rw [if_pos (by decide +kernel)]; kernel_rfl) | (rw [if_neg (by decide +kernel)]; exact ⟨rfl, rfl⟩))
    (fun os started H enc _ => law_lifted_laid (fn := Tryd.f3) (spec := Rows.textLongSpec) (laid := laidW) Tryd.func3 (by kernel_rfl) rfl rfl Tryd.underlying4 (of_decide_eq_true (by kernel_rfl))
      (k := 1) (by kernel_rfl) (fun H ds h => by match ds, h with | [_], _ => rfl) os started H enc
      (ChangeSpec.witness_shaped (enc := enc) (C := Tryd.checked) (os := os) (X := fun w _ => laidMetH Tryd.prog laidW w) false (World.doorLaid Tryd.prog 400 os) #[.int .u16 0] 8 rfl (World.shaped_of_RefB (by kernel_rfl) (by kernel_rfl)) (by kernel_rfl) (by kernel_rfl) (by kernel_rfl) (door_met os _)) textLong_law)

set_option maxRecDepth 100000 in
theorem TextLongCard_holds : Rows.TextLongCardSaid :=
  Claim7.holds_tied_plain_at .later [] [.widerDeep] true (true, "650e7ae6ae80aeacd2b37c88e36e5c4ab70b54db6bace4ba39d71e4565957fae") true
    textLongRow_holds (fun _ h => by cases h) (by kernel_rfl) (fun _ h => by cases h) textLong_row_tie rfl ⟨rfl, rfl⟩ (by kernel_rfl) rfl
    (fun f fn hf hfn => by
      obtain rfl : f = 3 := Option.some.inj ((show Tryd.prog.funcNamed "flint/flintlaw26.TextLong" = some 3 by kernel_rfl).symm.trans hf) |>.symm
      obtain rfl : fn = Tryd.f3 := (Option.some.inj (Tryd.func3.symm.trans hfn)).symm
      exact ⟨by kernel_rfl, fun j t ht => by
        rw [Tryd.params3] at ht
        have hm : t ∈ [22] := by simpa using Array.mem_of_getElem? ht
        have hall : ([22].all fun u => !Tryd.prog.wantsStandIn u) = true := by kernel_rfl
        exact (show Tryd.prog.wantsStandIn t = false by simpa using List.all_eq_true.1 hall t hm)⟩)
    (by kernel_rfl)
#print axioms TextLongCard_holds
end Go.Proofs.YtbjjpplhnibjdaaDoor
