/- Between two erases of a sector no bit of it rises, and an act changes nothing else: for any geometry and operations, with no condition. -/
import Derived.Test.YteieaelinkdahaaNorGI
import Derived.Test.YteieaelinkdahaaOpenOp
import Derived.Test.YteieaelinkdahaaOpen
import Derived.Test.YteieaelinkdahaaRow
import Derived.ChangeMaps5
namespace Go.Proofs.Yteieaelinkdahaa
open Go.ChangeShapes Go.WideShapes Go.ChangeAt Go.RowKit Go.ChangeMaps Flo

theorem norFalls_makes (s z : Int) (A : Option Addr) (n cap : Nat) (l : List (OpV × List Nat)) (w : World) (h : Ops w (.slice A n cap) (l.map Prod.fst)) (hop : ∀ x ∈ l, OpIn w x.1 x.2) : Makes 6 #[geo s z, .slice A n cap] w (.bool true) := by
  cases hs : smallB s z
  · exact norFalls_no s z A n cap w hs
  · have hg : geoB s z = true := by unfold smallB at hs; rw [Bool.and_eq_true] at hs; exact hs.1
    obtain ⟨q1, q2, q3, q4⟩ := geoB_yes hg
    obtain ⟨s', rfl⟩ : ∃ s' : Nat, s = s' := ⟨s.toNat, by omega⟩
    obtain ⟨z', rfl⟩ : ∃ z' : Nat, z = z' := ⟨z.toNat, by omega⟩
    exact norFalls_yes s' z' A n cap l w hs h hop
section
variable {H : Type} {enc : TypeId × Value → H} {w : World} {spare : Nat → Bool} {held : Bool}
theorem leaf_geo {r : List Value} (h : leaves enc Try.prog w 0 spare held [.int .i64, .int .i64] r) : ∃ s z : Int, r = [i64 s, i64 z] := by
  obtain ⟨_, r1, rfl, ⟨a, rfl, _⟩, q1⟩ := leaves_cons h
  obtain ⟨_, r2, rfl, ⟨b, rfl, _⟩, q2⟩ := leaves_cons q1
  rw [leaves_nil q2]
  exact ⟨a, b, rfl⟩
theorem leaf_opIn {r : List Value} (h : leaves enc Try.prog w 0 spare held opLeaves r) : ∃ x : OpV × List Nat, r = x.1.row ∧ OpIn w x.1 x.2 := by
  obtain ⟨o, l, hr, hy, h8, hm, hn, hk, _⟩ := leaf_op h
  exact ⟨(o, l), hr, ⟨hy, h8, hm, hn, hk⟩⟩
end

set_option maxRecDepth 100000 in
theorem norFalls_law : LawCalls 6 Try.f6 := by
  intro H enc W base args ds p hval hA hsz hfz
  rw [Try.params6] at hA hval hsz
  obtain ⟨v0, vs0, d0, ds0, p0, q0, hargs, rfl, rfl, h0, r0⟩ := trodAll_cons hA
  obtain ⟨v1, vs1, d1, ds1, p1, q1, rfl, rfl, rfl, h1, r1⟩ := trodAll_cons r0
  obtain ⟨rfl, rfl, rfl⟩ := trodAll_nil r1
  obtain rfl : args = #[v0, v1] := by cases args; simp_all
  obtain ⟨cs, rfl, hlv⟩ := open_flat_struct (n := 4) (ls := [.int .i64, .int .i64]) Try.underlying41 (by kernel_rfl) (hval 0 41 v0 rfl rfl) h0
  obtain ⟨s, z, hr⟩ := leaf_geo hlv
  have hcs : cs = #[i64 s, i64 z] := Array.toList_inj.1 hr
  subst hcs
  obtain ⟨rr, s1, l1, z1, A1, c1, rfl⟩ := open_flat_arg (n := 4) (ls := opLeaves) (k := 7) (b := 72) Try.underlying25 (by kernel_rfl) rfl (by kernel_rfl) (by decide) (by kernel_rfl) hsz (j := 1) rfl rfl (okWide_slice Try.underlying25 (hval 1 25 v1 rfl rfl)) h1
  obtain ⟨l, rfl, hG⟩ := rows_of (α := OpV × List Nat) (row := fun x => x.1.row) (G := fun x => OpIn W x.1 x.2) (fun r h => leaf_opIn h) rr l1
  exact norFalls_makes s z _ _ _ l W (by show Sl W 7 _ _; rw [List.map_map]; exact s1) hG

set_option maxRecDepth 100000 in
theorem NorFalls_holds : Rows.NorFallsSaid :=
  OpenClaim.holds_of_wide 6 Try.f6 rfl rfl rfl rfl rfl rfl rfl ⟨rfl, rfl, rfl, rfl, rfl⟩ rfl rfl rfl rfl rfl (by kernel_rfl) Try.func6 (by kernel_rfl)
    (of_decide_eq_true (by kernel_rfl)) (by unfold Func.isWrapper; first | (rw [if_pos (by decide +kernel)]; kernel_rfl) | (rw [if_neg (by decide +kernel)]; exact ⟨rfl, rfl⟩))
    (fun os started H enc _ => law_lifted (fn := Try.f6) (spec := Rows.norFallsSpec) Try.func6 (by kernel_rfl) rfl rfl Try.underlying4 (of_decide_eq_true (by kernel_rfl))
      (k := 2) (by kernel_rfl) (fun H ds h => by match ds, h with | [_, _], _ => rfl) os started H enc
      (ChangeSpec.witness6 (enc := enc) (C := Try.checked) false ⟨#[], #[.agg #[.int .i64 0, .int .i64 0], .slice none 0 0], []⟩ 8 (by kernel_rfl) (by kernel_rfl) (by kernel_rfl) (by kernel_rfl)) norFalls_law)
#print axioms NorFalls_holds
end Go.Proofs.Yteieaelinkdahaa
