/- The order in which items were found changes nothing of which ones count: for any items and any turn, with no condition. -/
import Derived.Test.YtbbiohgillhmnaaRingO
import Derived.Test.YtbbiohgillhmnaaFlat
import Derived.Test.YtbbiohgillhmnaaRow
import Derived.ChangeMaps5
namespace Go.Proofs.Ytbbiohgillhmnaa
open Go.ChangeShapes Go.WideShapes Go.ChangeAt Go.RowKit Go.ChangeMaps

theorem wf8 {x : Int} (h : (Lit.int .u8 x).wf = true) : 0 ≤ x ∧ x ≤ 255 := by
  simp [Lit.wf] at h
  exact h
section
variable {H : Type} {enc : TypeId × Value → H} {w : World} {spare : Nat → Bool} {held : Bool}
set_option maxRecDepth 100000 in
theorem leaf_put {r : List Value} (h : leaves enc Try.prog w 0 spare held [.int .u64, .int .u64, .bool, .int .u64, .int .u64, .int .i64, .int .i64, .int .u64, .int .u64, .bool, .str, .str] r) : ∃ x : Put, r = x.row ∧ True := by
  obtain ⟨_, r1, rfl, ⟨a, rfl, _⟩, q1⟩ := leaves_cons h
  obtain ⟨_, r2, rfl, ⟨b, rfl, _⟩, q2⟩ := leaves_cons q1
  obtain ⟨_, r3, rfl, ⟨c, rfl⟩, q3⟩ := leaves_cons q2
  obtain ⟨_, r4, rfl, ⟨d, rfl, _⟩, q4⟩ := leaves_cons q3
  obtain ⟨_, r5, rfl, ⟨e, rfl, _⟩, q5⟩ := leaves_cons q4
  obtain ⟨_, r6, rfl, ⟨f, rfl, _⟩, q6⟩ := leaves_cons q5
  obtain ⟨_, r7, rfl, ⟨g, rfl, _⟩, q7⟩ := leaves_cons q6
  obtain ⟨_, r8, rfl, ⟨i, rfl, _⟩, q8⟩ := leaves_cons q7
  obtain ⟨_, r9, rfl, ⟨j, rfl, _⟩, q9⟩ := leaves_cons q8
  obtain ⟨_, r10, rfl, ⟨k, rfl⟩, q10⟩ := leaves_cons q9
  obtain ⟨_, r11, rfl, ⟨l, rfl, _⟩, q11⟩ := leaves_cons q10
  obtain ⟨_, r12, rfl, ⟨m, rfl, _⟩, q12⟩ := leaves_cons q11
  rw [leaves_nil q12]
  exact ⟨⟨a, b, c, ⟨d, e, f, g, i, j, k, l, m⟩⟩, rfl, trivial⟩
end

set_option maxRecDepth 100000 in
theorem ringOrder_law : LawCalls 6 Try.f6 := by
  intro H enc W base args ds p hval hA hsz hfz
  rw [Try.params6] at hA hval hsz
  obtain ⟨v0, vs0, d0, ds0, p0, q0, hargs, rfl, rfl, h0, r0⟩ := trodAll_cons hA
  obtain ⟨v1, vs1, d1, ds1, p1, q1, rfl, rfl, rfl, h1, r1⟩ := trodAll_cons r0
  obtain ⟨rfl, rfl, rfl⟩ := trodAll_nil r1
  obtain rfl : args = #[v0, v1] := by cases args; simp_all
  obtain ⟨rr, s1, l1, z1, A1, c1, rfl⟩ := open_flat_arg (n := 6) (ls := [.int .u64, .int .u64, .bool, .int .u64, .int .u64, .int .i64, .int .i64, .int .u64, .int .u64, .bool, .str, .str]) (k := 12) (b := 112) Try.underlying39 (by kernel_rfl) rfl (by kernel_rfl) (by decide) (by kernel_rfl) hsz (j := 0) rfl rfl (okWide_slice Try.underlying39 (hval 0 39 v0 rfl rfl)) h0
  obtain ⟨y, rfl, rfl, rfl, wy⟩ := open_int Try.underlying5 (hval 1 5 v1 rfl rfl) h1
  obtain ⟨l, rfl, _⟩ := rows_of (fun r h => leaf_put h) rr l1
  have by8 := wf8 wy
  have := order_makes _ _ _ l y.toNat (by omega) W s1
  rw [show ((y.toNat : Nat) : Int) = y from by omega] at this
  exact this

set_option maxRecDepth 100000 in
theorem RingOrder_holds : Rows.RingOrderSaid :=
  OpenClaim.holds_of_wide 6 Try.f6 rfl rfl rfl rfl rfl rfl rfl ⟨rfl, rfl, rfl, rfl, rfl⟩ rfl rfl rfl rfl rfl (by kernel_rfl) Try.func6 (by kernel_rfl)
    (of_decide_eq_true (by kernel_rfl)) (by unfold Func.isWrapper; first | (rw [if_pos (by decide +kernel)]; kernel_rfl) | (rw [if_neg (by decide +kernel)]; exact ⟨rfl, rfl⟩))
    (fun os started H enc _ => law_lifted (fn := Try.f6) (spec := Rows.ringOrderSpec) Try.func6 (by kernel_rfl) rfl rfl Try.underlying4 (of_decide_eq_true (by kernel_rfl))
      (k := 2) (by kernel_rfl) (fun H ds h => by match ds, h with | [_, _], _ => rfl) os started H enc
      (ChangeSpec.witness6 (enc := enc) (C := Try.checked) false ⟨#[], #[.slice none 0 0, .int .u8 0], []⟩ 8 (by kernel_rfl) (by kernel_rfl) (by kernel_rfl) (by kernel_rfl)) ringOrder_law)
#print axioms RingOrder_holds
end Go.Proofs.Ytbbiohgillhmnaa
