/- What the condition of TextPrints and TextParses gives: the words, and the library's table of powers. -/
import Derived.Test.YtbjjpplhnibjdaaDoorTextLongLaw
import Derived.Test.YtbjjpplhnibjdaaDoorTextPrints
namespace Go.Proofs.YtbjjpplhnibjdaaDoor
open Go Go.ChangeShapes Go.WideShapes Go.ChangeAt Go.RowKit

abbrev laidT : List (String × DataW Unit) := [("math/bits.deBruijn32tab", Rows.laid_math_bits_deBruijn32tab), ("math/bits.deBruijn64tab", Rows.laid_math_bits_deBruijn64tab), ("internal/strconv.uint64pow10", Rows.laid_internal_strconv_uint64pow10), ("flint/text.words", Rows.laid_flint_text_words)]
theorem gPow : Tryd.prog.globalNamed "internal/strconv.uint64pow10" = some 1 := by kernel_rfl
theorem tPow : (Tryd.prog.globals[1]?).map (·.type) = some 82 := by kernel_rfl
theorem powData {H : Type} : (Rows.laid_internal_strconv_uint64pow10 : DataW H) = Lib.tabData .u64 Lib.pow10Tab := rfl

set_option maxRecDepth 100000 in
theorem laidT_gives {W : World} (h : laidMetH Tryd.prog laidT W) : WordsIn W ∧ Pow10 W := by
  rw [MakeChecks.laidMetH_plain _ _ _ (by kernel_rfl)] at h
  obtain ⟨ps, ⟨_, _, _, _, _, _, _, _, _, _, ⟨_, _, _, _, _, _, _, _, _, _, ⟨g', t', cs, fuel, p, q, hg', ht', hvar, hd, hr3, e3⟩, e2⟩, e1⟩, hn, hc⟩ := h
  subst e3
  subst e2
  subst e1
  refine ⟨?_, ?_⟩
  · refine words_of_laid ?_
    rw [MakeChecks.laidMetH_plain _ _ _ (by kernel_rfl)]
    refine ⟨q, hr3, ?_, ?_⟩
    · exact (List.nodup_append.1 (List.nodup_append.1 (List.nodup_append.1 hn).2.1).2.1).2.1
    · exact fun b off hb => hc b off (List.mem_append_right _ (List.mem_append_right _ (List.mem_append_right _ hb)))
  · obtain rfl := Option.some.inj (gPow.symm.trans hg')
    obtain rfl := Option.some.inj (tPow.symm.trans ht')
    show Lib.TabIs _ _ _ _ _
    unfold Lib.TabIs
    rw [hvar, ← Lib.cells_of_tab Tryd.underlying82 Tryd.underlying75 (by kernel_rfl) (by kernel_rfl) (powData ▸ hd)]
end Go.Proofs.YtbjjpplhnibjdaaDoor
