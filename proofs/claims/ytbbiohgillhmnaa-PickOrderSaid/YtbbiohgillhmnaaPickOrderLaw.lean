/- Picked among sectors of which no two have the same wear or age: the same ones, in whatever order they stand; for any sectors and any turn, with no condition. -/
import Derived.Test.YtbbiohgillhmnaaPickOrder
import Derived.Test.YtbbiohgillhmnaaFlat
import Derived.Test.YtbbiohgillhmnaaRow
import Derived.ChangeMaps5
namespace Go.Proofs.Ytbbiohgillhmnaa
open Go.ChangeShapes Go.WideShapes Go.ChangeAt Go.RowKit Go.ChangeMaps

section
variable {H : Type} {enc : TypeId × Value → H} {w : World} {spare : Nat → Bool} {held : Bool}
set_option maxRecDepth 100000 in
theorem leaf_info {r : List Value} (h : leaves enc Try.prog w 0 spare held [.int .i64, .bool, .int .i64, .int .u64, .int .i64, .bool] r) : ∃ x : Info, r = x.row ∧ True := by
  obtain ⟨_, r1, rfl, ⟨a, rfl, _⟩, q1⟩ := leaves_cons h
  obtain ⟨_, r2, rfl, ⟨b, rfl⟩, q2⟩ := leaves_cons q1
  obtain ⟨_, r3, rfl, ⟨c, rfl, _⟩, q3⟩ := leaves_cons q2
  obtain ⟨_, r4, rfl, ⟨d, rfl, _⟩, q4⟩ := leaves_cons q3
  obtain ⟨_, r5, rfl, ⟨e, rfl, _⟩, q5⟩ := leaves_cons q4
  obtain ⟨_, r6, rfl, ⟨f, rfl⟩, q6⟩ := leaves_cons q5
  rw [leaves_nil q6]
  exact ⟨⟨a, b, c, d, e, f⟩, rfl, trivial⟩
end

theorem wf8 {x : Int} (h : (Lit.int .u8 x).wf = true) : 0 ≤ x ∧ x ≤ 255 := by
  simp [Lit.wf] at h
  exact h

set_option maxRecDepth 100000 in
theorem pickOrder_law : LawCalls 9 Try.f9 := by
  intro H enc W base args ds p hval hA hsz hfz
  rw [Try.params9] at hA hval hsz
  obtain ⟨v0, vs0, d0, ds0, p0, q0, hargs, rfl, rfl, h0, r0⟩ := trodAll_cons hA
  obtain ⟨v1, vs1, d1, ds1, p1, q1, rfl, rfl, rfl, h1, r1⟩ := trodAll_cons r0
  obtain ⟨rfl, rfl, rfl⟩ := trodAll_nil r1
  obtain rfl : args = #[v0, v1] := by cases args; simp_all
  obtain ⟨rr, s1, l1, z1, A1, c1, rfl⟩ := open_flat_arg (n := 6) (ls := [.int .i64, .bool, .int .i64, .int .u64, .int .i64, .bool]) (k := 6) (b := 48) Try.underlying50 (by kernel_rfl) rfl (by kernel_rfl) (by decide) (by kernel_rfl) hsz (j := 0) rfl rfl (okWide_slice Try.underlying50 (hval 0 50 v0 rfl rfl)) h0
  obtain ⟨y, rfl, rfl, rfl, wy⟩ := open_int Try.underlying5 (hval 1 5 v1 rfl rfl) h1
  obtain ⟨l, rfl, _⟩ := rows_of (fun r h => leaf_info h) rr l1
  have by8 := wf8 wy
  have := pickOrder_makes _ _ _ l y.toNat (by omega) W s1
  rw [show ((y.toNat : Nat) : Int) = y from by omega] at this
  exact this

set_option maxRecDepth 100000 in
theorem PickOrder_holds : Rows.PickOrderSaid :=
  OpenClaim.holds_of_wide 9 Try.f9 rfl rfl rfl rfl rfl rfl rfl ⟨rfl, rfl, rfl, rfl, rfl⟩ rfl rfl rfl rfl rfl (by kernel_rfl) Try.func9 (by kernel_rfl)
    (of_decide_eq_true (by kernel_rfl)) (by unfold Func.isWrapper; first | (rw [if_pos (by decide +kernel)]; kernel_rfl) | (rw [if_neg (by decide +kernel)]; exact ⟨rfl, rfl⟩))
    (fun os started H enc _ => law_lifted (fn := Try.f9) (spec := Rows.pickOrderSpec) Try.func9 (by kernel_rfl) rfl rfl Try.underlying4 (of_decide_eq_true (by kernel_rfl))
      (k := 2) (by kernel_rfl) (fun H ds h => by match ds, h with | [_, _], _ => rfl) os started H enc
      (ChangeSpec.witness6 (enc := enc) (C := Try.checked) false ⟨#[], #[.slice none 0 0, .int .u8 0], []⟩ 8 (by kernel_rfl) (by kernel_rfl) (by kernel_rfl) (by kernel_rfl)) pickOrder_law)
#print axioms PickOrder_holds
end Go.Proofs.Ytbbiohgillhmnaa
