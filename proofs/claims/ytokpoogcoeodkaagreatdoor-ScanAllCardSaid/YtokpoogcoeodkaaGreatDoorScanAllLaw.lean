/- ScanAll: for every row of acts the law returns true: its row, and its card. -/
import Derived.Test.YtokpoogcoeodkaaGreatDoorAll3
import Derived.Test.YtokpoogcoeodkaaGreatDoorMg18
import Derived.Test.YtokpoogcoeodkaaGreatDoorMg19
import Derived.ChangeMaps5
namespace Go.Proofs.YtokpoogcoeodkaaGreatDoor
open Go Go.ChangeShapes Go.WideShapes Go.ChangeAt Go.RowKit Flo

section
variable {H : Type} {enc : TypeId × Value → H} {w : World} {spare : Nat → Bool} {held : Bool}
theorem leaf_opIn {r : List Value} (h : leaves enc Tryz.prog w 0 spare held opLeaves r) : ∃ x : OpV × List Nat, r = x.1.row ∧ OpIn w x.1 x.2 := by
  obtain ⟨o, l, hr, hy, h8, hm, hn, hk, _⟩ := leaf_op h
  exact ⟨(o, l), hr, ⟨hy, h8, hm, hn, hk⟩⟩
end

set_option maxRecDepth 100000 in
theorem scanAllRow_law : LawCallsL laidEx 3 Tryz.f3 := by
  intro H enc W base args ds p hval hA hsz hfz hL
  rw [Tryz.params3] at hA hval hsz
  obtain ⟨v0, vs0, d0, ds0, p0, q0, hargs, rfl, rfl, h0, r0⟩ := trodAll_cons hA
  obtain ⟨v1, vs1, d1, ds1, p1, q1, rfl, rfl, rfl, h1, r1⟩ := trodAll_cons r0
  obtain ⟨rfl, rfl, rfl⟩ := trodAll_nil r1
  obtain rfl : args = #[v0, v1] := by cases args; simp_all
  obtain ⟨g0, g1, hg⟩ := ex_of_laid hL
  obtain ⟨rr, s1, l1, z1, A1, c1, rfl⟩ := open_flat_arg (n := 4) (ls := opLeaves) (k := 7) (b := 72) Tryz.underlying22 (by kernel_rfl) rfl (by kernel_rfl) (by decide) (by kernel_rfl) hsz (j := 0) rfl rfl (okWide_slice Tryz.underlying22 (hval 0 22 v0 rfl rfl)) h0
  obtain ⟨l, rfl, hG⟩ := rows_of (α := OpV × List Nat) (row := fun x => x.1.row) (G := fun x => OpIn W x.1 x.2) (fun r h => leaf_opIn h) rr l1
  obtain ⟨b, rfl⟩ := okWide_bool Tryz.underlying4 (hval 1 4 v1 rfl rfl)
  exact scanAll_law _ _ _ b l W ⟨g0, g1, hg⟩ (by show Sl W 7 _ _; rw [List.map_map]; exact s1) hG

set_option maxRecDepth 100000 in
theorem scanAllRow_holds : Rows.ScanAllSaid :=
  OpenClaim.holds_of_wide 3 Tryz.f3 rfl rfl rfl rfl rfl rfl rfl ⟨rfl, rfl, rfl, rfl, rfl⟩ rfl rfl rfl rfl rfl (by kernel_rfl) Tryz.func3 (by kernel_rfl)
    (of_decide_eq_true (by kernel_rfl)) (by unfold Func.isWrapper; first | (rw [if_pos (by decide +kernel)]; kernel_rfl) | (rw [if_neg (by decide +kernel)]; exact ⟨rfl, rfl⟩))
    (fun os started H enc _ => law_lifted_laid (fn := Tryz.f3) (spec := Rows.scanAllSpec) (laid := laidEx) Tryz.func3 (by kernel_rfl) rfl rfl Tryz.underlying4 (of_decide_eq_true (by kernel_rfl))
      (k := 2) (by kernel_rfl) (fun H ds h => by match ds, h with | [_, _], _ => rfl) os started H enc
      (ChangeSpec.witness_shaped (enc := enc) (C := Tryz.checked) (os := os) (X := fun w _ => laidMetH Tryz.prog laidEx w) false (World.doorLaid Tryz.prog 400 os) #[.slice none 0 0, .bool false] 8 rfl (World.shaped_of_RefB (by kernel_rfl) (by kernel_rfl)) (by kernel_rfl) (by kernel_rfl) (by kernel_rfl) (door_met os _)) scanAllRow_law)

set_option maxRecDepth 100000 in
theorem ScanAllCard_holds : Rows.ScanAllCardSaid :=
  Claim7.holds_tied_plain_at .later [] [.data] true (true, "de51a79b55ba8b085ca469040a8f29d13d83857c0cbc97132b4e6a2f839c8569") false
    scanAllRow_holds (fun _ h => by cases h) (by kernel_rfl) (fun _ h => by cases h) scanAll_row_tie rfl ⟨rfl, rfl⟩ (by kernel_rfl) rfl
    (fun f fn hf hfn => by
      obtain rfl : f = 3 := Option.some.inj ((show Tryz.prog.funcNamed "flint/flintlaw08.ScanAll" = some 3 by kernel_rfl).symm.trans hf) |>.symm
      obtain rfl : fn = Tryz.f3 := (Option.some.inj (Tryz.func3.symm.trans hfn)).symm
      exact ⟨by kernel_rfl, fun j t ht => by
        rw [Tryz.params3] at ht
        have hm : t ∈ [22, 4] := by simpa using Array.mem_of_getElem? ht
        have hall : ([22, 4].all fun u => !Tryz.prog.wantsStandIn u) = true := by kernel_rfl
        exact (show Tryz.prog.wantsStandIn t = false by simpa using List.all_eq_true.1 hall t hm)⟩)
    (by kernel_rfl)
#print axioms ScanAllCard_holds
end Go.Proofs.YtokpoogcoeodkaaGreatDoor
