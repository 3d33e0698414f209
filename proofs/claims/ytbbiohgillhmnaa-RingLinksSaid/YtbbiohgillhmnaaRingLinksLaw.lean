/- The ring of any pairs is linked as the reference says, or refused: for any numbers, pairs, versions and places, with no condition. -/
import Derived.Test.YtbbiohgillhmnaaRingLinks
import Derived.Test.YtbbiohgillhmnaaFlat
import Derived.Test.YtbbiohgillhmnaaRow
import Derived.ChangeMaps5
namespace Go.Proofs.Ytbbiohgillhmnaa
open Go.ChangeShapes Go.WideShapes Go.ChangeAt Go.RowKit Go.ChangeMaps

section
variable {H : Type} {enc : TypeId × Value → H} {w : World} {spare : Nat → Bool} {held : Bool}
theorem leaf_pair {r : List Value} (h : leaves enc Try.prog w 0 spare held [.str, .str, .bool] r) : ∃ x : Pair, r = x.row ∧ True := by
  match r, h with
  | [_, _, _], ⟨⟨a, rfl, _⟩, ⟨b, rfl, _⟩, ⟨c, rfl⟩, _⟩ => exact ⟨⟨a, b, c⟩, rfl, trivial⟩
theorem leaf_u64 {r : List Value} (h : leaves enc Try.prog w 0 spare held [.int .u64] r) : ∃ x : Int, r = [Value.int .u64 x] ∧ True := by
  match r, h with
  | [_], ⟨⟨a, rfl, _⟩, _⟩ => exact ⟨a, rfl, trivial⟩
theorem leaf_pair2 {r : List Value} (h : leaves enc Try.prog w 0 spare held [.int .u64, .int .u64] r) : ∃ x : Int × Int, r = pairRow x ∧ True := by
  match r, h with
  | [_, _], ⟨⟨a, rfl, _⟩, ⟨b, rfl, _⟩, _⟩ => exact ⟨(a, b), rfl, trivial⟩
end

set_option maxRecDepth 100000 in
theorem ringLinks_law : LawCalls 13 Try.f13 := by
  intro H enc W base args ds p hval hA hsz hfz
  rw [Try.params13] at hA hval hsz
  obtain ⟨v0, vs0, d0, ds0, p0, q0, hargs, rfl, rfl, h0, r0⟩ := trodAll_cons hA
  obtain ⟨v1, vs1, d1, ds1, p1, q1, rfl, rfl, rfl, h1, r1⟩ := trodAll_cons r0
  obtain ⟨v2, vs2, d2, ds2, p2, q2, rfl, rfl, rfl, h2, r2⟩ := trodAll_cons r1
  obtain ⟨v3, vs3, d3, ds3, p3, q3, rfl, rfl, rfl, h3, r3⟩ := trodAll_cons r2
  obtain ⟨rfl, rfl, rfl⟩ := trodAll_nil r3
  obtain rfl : args = #[v0, v1, v2, v3] := by cases args; simp_all
  obtain ⟨x, rfl, rfl, rfl, wx⟩ := open_int Try.underlying28 (hval 0 28 v0 rfl rfl) h0
  obtain ⟨rr1, s1, l1, z1, A1, c1, rfl⟩ := open_flat_arg (n := 3) (ls := [.str, .str, .bool]) (k := 3) (b := 40) Try.underlying29 (by kernel_rfl) rfl (by kernel_rfl) (by decide) (by kernel_rfl) hsz (j := 1) rfl rfl (okWide_slice Try.underlying29 (hval 1 29 v1 rfl rfl)) h1
  obtain ⟨rr2, s2, l2, z2, A2, c2, rfl⟩ := open_flat_arg (n := 3) (ls := [.int .u64]) (k := 1) (b := 8) Try.underlying67 (by kernel_rfl) rfl (by kernel_rfl) (by decide) (by kernel_rfl) hsz (j := 2) rfl rfl (okWide_slice Try.underlying67 (hval 2 67 v2 rfl rfl)) h2
  obtain ⟨rr3, s3, l3, z3, A3, c3, rfl⟩ := open_flat_arg (n := 3) (ls := [.int .u64, .int .u64]) (k := 2) (b := 16) Try.underlying68 (by kernel_rfl) rfl (by kernel_rfl) (by decide) (by kernel_rfl) hsz (j := 3) rfl rfl (okWide_slice Try.underlying68 (hval 3 68 v3 rfl rfl)) h3
  obtain ⟨l, rfl, _⟩ := rows_of (fun r h => leaf_pair h) rr1 l1
  obtain ⟨vers, rfl, _⟩ := rows_of (fun r h => leaf_u64 h) rr2 l2
  obtain ⟨ats, rfl, _⟩ := rows_of (fun r h => leaf_pair2 h) rr3 l3
  rw [List.length_map] at z3
  exact links_makes _ _ _ _ _ _ _ _ _ _ l vers ats W s1 s2 s3 z3

set_option maxRecDepth 100000 in
theorem RingLinks_holds : Rows.RingLinksSaid :=
  OpenClaim.holds_of_wide 13 Try.f13 rfl rfl rfl rfl rfl rfl rfl ⟨rfl, rfl, rfl, rfl, rfl⟩ rfl rfl rfl rfl rfl (by kernel_rfl) Try.func13 (by kernel_rfl)
    (of_decide_eq_true (by kernel_rfl)) (by unfold Func.isWrapper; first | (rw [if_pos (by decide +kernel)]; kernel_rfl) | (rw [if_neg (by decide +kernel)]; exact ⟨rfl, rfl⟩))
    (fun os started H enc _ => law_lifted (fn := Try.f13) (spec := Rows.ringLinksSpec) Try.func13 (by kernel_rfl) rfl rfl Try.underlying4 (of_decide_eq_true (by kernel_rfl))
      (k := 4) (by kernel_rfl) (fun H ds h => by match ds, h with | [_, _, _, _], _ => rfl) os started H enc
      (ChangeSpec.witness6 (enc := enc) (C := Try.checked) false ⟨#[], #[.int .u64 0, .slice none 0 0, .slice none 0 0, .slice none 0 0], []⟩ 8 (by kernel_rfl) (by kernel_rfl) (by kernel_rfl) (by kernel_rfl)) ringLinks_law)
#print axioms RingLinks_holds
end Go.Proofs.Ytbbiohgillhmnaa
