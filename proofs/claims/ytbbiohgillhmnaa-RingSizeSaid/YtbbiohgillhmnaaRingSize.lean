/- The size of any key and value is the reference's: for any two strings, with no condition. -/
import Derived.Test.YtbbiohgillhmnaaRingF
import Derived.Test.YtbbiohgillhmnaaRow
import Derived.ChangeMaps5
namespace Go.Proofs.Ytbbiohgillhmnaa
open Go.ChangeShapes Go.WideShapes Go.ChangeAt Go.RowKit Go.ChangeMaps

set_option maxHeartbeats 1000000 in
theorem ringSize_makes (k v : ByteArray) (w : World) : Makes 4 #[.string k, .string v] w (.bool true) := by
  have g0 := fun W => Lib.hid (fixed7 W)
  have g1 := fun W => Lib.hid (ringSize_any k v W)
  have g2 := fun W => Lib.hid (refSize_any k v W)
  generalize sizeB k v = s at *
  go_enter Try.func4, Try.ntmps4
  go_wp2_with fail
  refine (g0 _).out.mono ?_; rintro e x1 ⟨rfl, hb⟩
  go_wp2_with fail
  refine (g1 _).out.mono ?_; rintro e x2 ⟨rfl, rfl⟩
  go_wp2_with fail
  refine (g2 _).out.mono ?_; rintro e x3 ⟨rfl, rfl⟩
  go_wp2_with fail
  go_ret
  exact ⟨rfl, hb⟩

set_option maxRecDepth 100000 in
theorem ringSize_law : LawCalls 4 Try.f4 := by
  intro H enc W base args ds p hval hA hsz hfz
  rw [Try.params4] at hA hval hsz
  obtain ⟨v0, vs0, d0, ds0, p0, q0, hargs, rfl, rfl, h0, r0⟩ := trodAll_cons hA
  obtain ⟨v1, vs1, d1, ds1, p1, q1, rfl, rfl, rfl, h1, r1⟩ := trodAll_cons r0
  obtain ⟨rfl, rfl, rfl⟩ := trodAll_nil r1
  obtain rfl : args = #[v0, v1] := by cases args; simp_all
  obtain ⟨k, rfl, rfl, rfl, wk⟩ := open_string Try.underlying9 (hval 0 9 v0 rfl rfl) h0
  obtain ⟨v, rfl, rfl, rfl, wv⟩ := open_string Try.underlying9 (hval 1 9 v1 rfl rfl) h1
  exact ringSize_makes k v W

set_option maxRecDepth 100000 in
theorem RingSize_holds : Rows.RingSizeSaid :=
  OpenClaim.holds_of_wide 4 Try.f4 rfl rfl rfl rfl rfl rfl rfl ⟨rfl, rfl, rfl, rfl, rfl⟩ rfl rfl rfl rfl rfl (by kernel_rfl) Try.func4 (by kernel_rfl)
    (of_decide_eq_true (by kernel_rfl)) (by unfold Func.isWrapper; first | (rw [if_pos (by decide +kernel)]; kernel_rfl) | (rw [if_neg (by decide +kernel)]; exact ⟨rfl, rfl⟩))
    (fun os started H enc _ => law_lifted (fn := Try.f4) (spec := Rows.ringSizeSpec) Try.func4 (by kernel_rfl) rfl rfl Try.underlying4 (of_decide_eq_true (by kernel_rfl))
      (k := 2) (by kernel_rfl) (fun H ds h => by match ds, h with | [_, _], _ => rfl) os started H enc
      (ChangeSpec.witness6 (enc := enc) (C := Try.checked) false ⟨#[], #[.string ByteArray.empty, .string ByteArray.empty], []⟩ 8 (by kernel_rfl) (by kernel_rfl) (by kernel_rfl) (by kernel_rfl)) ringSize_law)
#print axioms RingSize_holds
end Go.Proofs.Ytbbiohgillhmnaa
