/- All of a linked ring count where they stand; without one of them none does, unless it is settled: for any number, pairs, lost one and marks, with no condition. -/
import Derived.Test.YtbbiohgillhmnaaRingH
import Derived.Test.YtbbiohgillhmnaaFlat
import Derived.Test.YtbbiohgillhmnaaRow
import Derived.ChangeMaps5
namespace Go.Proofs.Ytbbiohgillhmnaa
open Go.ChangeShapes Go.WideShapes Go.ChangeAt Go.RowKit Go.ChangeMaps

theorem wf8w {x : Int} (h : (Lit.int .u8 x).wf = true) : 0 ≤ x ∧ x ≤ 255 := by
  simp [Lit.wf] at h
  exact h
section
variable {H : Type} {enc : TypeId × Value → H} {w : World} {spare : Nat → Bool} {held : Bool}
theorem leaf_pairw {r : List Value} (h : leaves enc Try.prog w 0 spare held [.str, .str, .bool] r) : ∃ x : Pair, r = x.row ∧ True := by
  match r, h with
  | [_, _, _], ⟨⟨a, rfl, _⟩, ⟨b, rfl, _⟩, ⟨c, rfl⟩, _⟩ => exact ⟨⟨a, b, c⟩, rfl, trivial⟩
theorem leaf_boolw {r : List Value} (h : leaves enc Try.prog w 0 spare held [.bool] r) : ∃ x : Bool, r = [Value.bool x] ∧ True := by
  match r, h with
  | [_], ⟨⟨a, rfl⟩, _⟩ => exact ⟨a, rfl, trivial⟩
end

set_option maxRecDepth 100000 in
theorem ringWhole_law : LawCalls 5 Try.f5 := by
  intro H enc W base args ds p hval hA hsz hfz
  rw [Try.params5] at hA hval hsz
  obtain ⟨v0, vs0, d0, ds0, p0, q0, hargs, rfl, rfl, h0, r0⟩ := trodAll_cons hA
  obtain ⟨v1, vs1, d1, ds1, p1, q1, rfl, rfl, rfl, h1, r1⟩ := trodAll_cons r0
  obtain ⟨v2, vs2, d2, ds2, p2, q2, rfl, rfl, rfl, h2, r2⟩ := trodAll_cons r1
  obtain ⟨v3, vs3, d3, ds3, p3, q3, rfl, rfl, rfl, h3, r3⟩ := trodAll_cons r2
  obtain ⟨rfl, rfl, rfl⟩ := trodAll_nil r3
  obtain rfl : args = #[v0, v1, v2, v3] := by cases args; simp_all
  obtain ⟨x, rfl, rfl, rfl, wx⟩ := open_int Try.underlying28 (hval 0 28 v0 rfl rfl) h0
  obtain ⟨rr1, s1, l1, z1, A1, c1, rfl⟩ := open_flat_arg (n := 3) (ls := [.str, .str, .bool]) (k := 3) (b := 40) Try.underlying29 (by kernel_rfl) rfl (by kernel_rfl) (by decide) (by kernel_rfl) hsz (j := 1) rfl rfl (okWide_slice Try.underlying29 (hval 1 29 v1 rfl rfl)) h1
  obtain ⟨y, rfl, rfl, rfl, wy⟩ := open_int Try.underlying5 (hval 2 5 v2 rfl rfl) h2
  obtain ⟨rr3, s3, l3, z3, A3, c3, rfl⟩ := open_flat_arg (n := 3) (ls := [.bool]) (k := 1) (b := 1) Try.underlying30 (by kernel_rfl) rfl (by kernel_rfl) (by decide) (by kernel_rfl) hsz (j := 3) rfl rfl (okWide_slice Try.underlying30 (hval 3 30 v3 rfl rfl)) h3
  obtain ⟨l, rfl, _⟩ := rows_of (fun r h => leaf_pairw h) rr1 l1
  obtain ⟨ss, rfl, _⟩ := rows_of (fun r h => leaf_boolw h) rr3 l3
  have by8 := wf8w wy
  have := ringWhole_makes x _ _ _ _ _ _ l y.toNat (by omega) ss W s1 s3
  rw [show ((y.toNat : Nat) : Int) = y from by omega] at this
  exact this

set_option maxRecDepth 100000 in
theorem RingWhole_holds : Rows.RingWholeSaid :=
  OpenClaim.holds_of_wide 5 Try.f5 rfl rfl rfl rfl rfl rfl rfl ⟨rfl, rfl, rfl, rfl, rfl⟩ rfl rfl rfl rfl rfl (by kernel_rfl) Try.func5 (by kernel_rfl)
    (of_decide_eq_true (by kernel_rfl)) (by unfold Func.isWrapper; first | (rw [if_pos (by decide +kernel)]; kernel_rfl) | (rw [if_neg (by decide +kernel)]; exact ⟨rfl, rfl⟩))
    (fun os started H enc _ => law_lifted (fn := Try.f5) (spec := Rows.ringWholeSpec) Try.func5 (by kernel_rfl) rfl rfl Try.underlying4 (of_decide_eq_true (by kernel_rfl))
      (k := 4) (by kernel_rfl) (fun H ds h => by match ds, h with | [_, _, _, _], _ => rfl) os started H enc
      (ChangeSpec.witness6 (enc := enc) (C := Try.checked) false ⟨#[], #[.int .u64 0, .slice none 0 0, .int .u8 0, .slice none 0 0], []⟩ 8 (by kernel_rfl) (by kernel_rfl) (by kernel_rfl) (by kernel_rfl)) ringWhole_law)
#print axioms RingWhole_holds
end Go.Proofs.Ytbbiohgillhmnaa
