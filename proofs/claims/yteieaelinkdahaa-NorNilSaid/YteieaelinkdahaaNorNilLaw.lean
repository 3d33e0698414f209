/- A nil device does nothing: for any operation, with no condition. -/
import Derived.Test.YteieaelinkdahaaNorNil
import Derived.Test.YteieaelinkdahaaOpenOp
import Derived.Test.YteieaelinkdahaaOpen
import Derived.Test.YteieaelinkdahaaRow
import Derived.ChangeMaps5
namespace Go.Proofs.Yteieaelinkdahaa
open Go.ChangeShapes Go.WideShapes Go.ChangeAt Go.RowKit Go.ChangeMaps Flo

set_option maxRecDepth 100000 in
theorem norNil_law : LawCalls 3 Try.f3 := by
  intro H enc W base args ds p hval hA hsz hfz
  rw [Try.params3] at hA hval hsz
  obtain ⟨v0, vs0, d0, ds0, p0, q0, hargs, rfl, rfl, h0, r0⟩ := trodAll_cons hA
  obtain ⟨rfl, rfl, rfl⟩ := trodAll_nil r0
  obtain rfl : args = #[v0] := by cases args; simp_all
  obtain ⟨cs, rfl, hlv⟩ := open_flat_struct (n := 4) (ls := opLeaves) Try.underlying24 (by kernel_rfl) (hval 0 24 v0 rfl rfl) h0
  obtain ⟨o, l, hr, hy, _⟩ := leaf_op hlv
  have hcs : cs = #[i64 o.kind, i64 o.sector, i64 o.offset, .slice o.A o.bn o.bc, i64 o.n, i64 o.k, bv o.mask] := Array.toList_inj.1 hr
  subst hcs
  have hm := hy.max
  have hn := hy.len
  rw [← hn] at hm
  exact norNil_makes o W (by unfold maxLen at hm; omega)

set_option maxRecDepth 100000 in
theorem NorNil_holds : Rows.NorNilSaid :=
  OpenClaim.holds_of_wide 3 Try.f3 rfl rfl rfl rfl rfl rfl rfl ⟨rfl, rfl, rfl, rfl, rfl⟩ rfl rfl rfl rfl rfl (by kernel_rfl) Try.func3 (by kernel_rfl)
    (of_decide_eq_true (by kernel_rfl)) (by unfold Func.isWrapper; first | (rw [if_pos (by decide +kernel)]; kernel_rfl) | (rw [if_neg (by decide +kernel)]; exact ⟨rfl, rfl⟩))
    (fun os started H enc _ => law_lifted (fn := Try.f3) (spec := Rows.norNilSpec) Try.func3 (by kernel_rfl) rfl rfl Try.underlying4 (of_decide_eq_true (by kernel_rfl))
      (k := 1) (by kernel_rfl) (fun H ds h => by match ds, h with | [_], _ => rfl) os started H enc
      (ChangeSpec.witness6 (enc := enc) (C := Try.checked) false ⟨#[], #[.agg #[.int .i64 0, .int .i64 0, .int .i64 0, .slice none 0 0, .int .i64 0, .int .i64 0, .int .u8 0]], []⟩ 8 (by kernel_rfl) (by kernel_rfl) (by kernel_rfl) (by kernel_rfl)) norNil_law)
#print axioms NorNil_holds
end Go.Proofs.Yteieaelinkdahaa
