/- StoreNil: for every pairs the law returns true: its row, and its card. -/
import Derived.Test.YtnmeaminfoopmaaGreatDoorMg25
import Derived.Test.YtnmeaminfoopmaaGreatDoorMg26
import Derived.Test.YtnmeaminfoopmaaGreatDoorMg27
import Derived.Test.YtnmeaminfoopmaaGreatDoorTie
import Derived.Test.YtnmeaminfoopmaaGreatDoorCards
import Derived.SevenTiedAt
import Derived.ChangeMaps5
namespace Go.Proofs.YtnmeaminfoopmaaGreatDoor
open Go Go.ChangeShapes Go.WideShapes Go.ChangeAt Go.RowKit

section
variable {H : Type} {enc : TypeId × Value → H} {w : World} {spare : Nat → Bool} {held : Bool}
theorem leaf_pair {r : List Value} (h : leaves enc Tryz.prog w 0 spare held [.str, .str, .bool] r) : ∃ x : Pair, r = x.row ∧ True := by
  match r, h with
  | [_, _, _], ⟨⟨a, rfl, _⟩, ⟨b, rfl, _⟩, ⟨c, rfl⟩, _⟩ => exact ⟨⟨a, b, c⟩, rfl, trivial⟩
end

abbrev laidEx : List (String × DataW Unit) := [("flint/flintlaw13.example", Rows.laid_flint_flintlaw13_example)]
theorem gEx : Tryz.prog.globalNamed "flint/flintlaw13.example" = some 0 := by kernel_rfl
theorem tEx : (Tryz.prog.globals[0]?).map (·.type) = some 35 := by kernel_rfl
set_option maxRecDepth 100000 in
/-- What the condition gives: the example's cells. -/
theorem ex_of_laid {W : World} (h : laidMetH Tryz.prog laidEx W) : W.cell? ⟨0, 0, none⟩ = some (i64 6) ∧ W.cell? ⟨0, 1, none⟩ = some (i64 512) ∧ 0 < W.heap.size := by
  rw [MakeChecks.laidMetH_plain _ _ _ (by kernel_rfl)] at h
  obtain ⟨ps, ⟨g0, t0, cs0, f0, p0, q0, hg0, ht0, hv0, hd0, _, _⟩, _, _⟩ := h
  obtain rfl := Option.some.inj (gEx.symm.trans hg0)
  obtain rfl := Option.some.inj (tEx.symm.trans ht0)
  obtain ⟨y0, y1, n, hx, hl, h0, h1⟩ := trod_struct2 Tryz.underlying35 hd0
  simp only [Rows.laid_flint_flintlaw13_example, Prod.mk.injEq, DataW.agg.injEq, List.cons.injEq] at hx
  obtain ⟨a, ea, ya, _⟩ := DataW.trod_int Tryz.underlying3 h0
  obtain ⟨b, eb, yb, _⟩ := DataW.trod_int Tryz.underlying3 h1
  have c3 : Tryz.prog.cellsOf 3 = 1 := by kernel_rfl
  have c2 : Tryz.prog.cellsOf 35 = 2 := by kernel_rfl
  simp only [c3] at ea eb
  rw [c2] at hl
  have e6 : a = 6 := by rw [ya] at hx; simpa using hx.1.1.symm
  have e5 : b = 512 := by rw [yb] at hx; simpa using hx.1.2.1.symm
  subst e6; subst e5
  obtain ⟨L⟩ := cs0
  match L, hl with
  | [x, y], _ =>
    have ex : x = .int .i64 6 := by simpa using ea
    have ey : y = .int .i64 512 := by simpa using eb
    subst ex; subst ey
    have k0 := World.var?_cell hg0 hv0 0
    have k1 := World.var?_cell hg0 hv0 1
    refine ⟨by simpa using k0, by simpa using k1, ?_⟩
    have hk : (W.cell? ⟨0, 0, none⟩).isSome = true := by rw [show W.cell? ⟨0, 0, none⟩ = some (.int .i64 6) by simpa using k0]; rfl
    rcases Nat.lt_or_ge 0 W.heap.size with h' | h'
    · exact h'
    · rw [show W.cell? ⟨0, 0, none⟩ = none by simp [World.cell?, Array.getElem?_eq_none h']] at hk
      cases hk

set_option maxRecDepth 100000 in
theorem storeNilRow_law : LawCallsL laidEx 3 Tryz.f3 := by
  intro H enc W base args ds p hval hA hsz hfz hL
  rw [Tryz.params3] at hA hval hsz
  obtain ⟨v0, vs0, d0, ds0, p0, q0, hargs, rfl, rfl, h0, r0⟩ := trodAll_cons hA
  obtain ⟨rfl, rfl, rfl⟩ := trodAll_nil r0
  obtain rfl : args = #[v0] := by cases args; simp_all
  obtain ⟨g0, g1, hg⟩ := ex_of_laid hL
  obtain ⟨rr, s1, l1, z1, A1, c1, rfl⟩ := open_flat_arg (n := 3) (ls := [.str, .str, .bool]) (k := 3) (b := 40) Tryz.underlying22 (by kernel_rfl) rfl (by kernel_rfl) (by decide) (by kernel_rfl) hsz (j := 0) rfl rfl (okWide_slice Tryz.underlying22 (hval 0 22 v0 rfl rfl)) h0
  obtain ⟨l, rfl, _⟩ := rows_of (fun r h => leaf_pair h) rr l1
  rw [List.length_map] at z1
  exact storeNil_makes _ _ _ l W s1 z1 g0 g1 hg

set_option maxRecDepth 100000 in
/-- The door's own heap meets the condition. -/
theorem door_met (os : Os) (args : Array Value) : laidMetH Tryz.prog laidEx ((World.doorLaid Tryz.prog 400 os).forCall (fun _ _ => 0) ⟨#[], args, []⟩).memory :=
  laidMetH_of_parts3 (fuel := 8) (laidMet_of_run' 8 (by kernel_rfl) (by kernel_rfl)) (by kernel_rfl) (by kernel_rfl)

set_option maxRecDepth 100000 in
theorem storeNilRow_holds : Rows.StoreNilSaid :=
  OpenClaim.holds_of_wide 3 Tryz.f3 rfl rfl rfl rfl rfl rfl rfl ⟨rfl, rfl, rfl, rfl, rfl⟩ rfl rfl rfl rfl rfl (by kernel_rfl) Tryz.func3 (by kernel_rfl)
    (of_decide_eq_true (by kernel_rfl)) (by unfold Func.isWrapper; first | (rw [if_pos (by decide +kernel)]; kernel_rfl) | (rw [if_neg (by decide +kernel)]; exact ⟨rfl, rfl⟩))
    (fun os started H enc _ => law_lifted_laid (fn := Tryz.f3) (spec := Rows.storeNilSpec) (laid := laidEx) Tryz.func3 (by kernel_rfl) rfl rfl Tryz.underlying4 (of_decide_eq_true (by kernel_rfl))
      (k := 1) (by kernel_rfl) (fun H ds h => by match ds, h with | [_], _ => rfl) os started H enc
      (ChangeSpec.witness_shaped (enc := enc) (C := Tryz.checked) (os := os) (X := fun w _ => laidMetH Tryz.prog laidEx w) false (World.doorLaid Tryz.prog 400 os) #[.slice none 0 0] 8 rfl (World.shaped_of_RefB (by kernel_rfl) (by kernel_rfl)) (by kernel_rfl) (by kernel_rfl) (by kernel_rfl) (door_met os _)) storeNilRow_law)

set_option maxRecDepth 100000 in
theorem StoreNilCard_holds : Rows.StoreNilCardSaid :=
  Claim7.holds_tied_plain_at .later [] [.data] true (true, "f6d1578d52de27ea961cb11d4df1bb736050c24399d50f474f63f7399f672313") false
    storeNilRow_holds (fun _ h => by cases h) (by kernel_rfl) (fun _ h => by cases h) storeNil_row_tie rfl ⟨rfl, rfl⟩ (by kernel_rfl) rfl
    (fun f fn hf hfn => by
      obtain rfl : f = 3 := Option.some.inj ((show Tryz.prog.funcNamed "flint/flintlaw13.StoreNil" = some 3 by kernel_rfl).symm.trans hf) |>.symm
      obtain rfl : fn = Tryz.f3 := (Option.some.inj (Tryz.func3.symm.trans hfn)).symm
      exact ⟨by kernel_rfl, fun j t ht => by
        rw [Tryz.params3] at ht
        have hm : t ∈ [22] := by simpa using Array.mem_of_getElem? ht
        have hall : ([22].all fun u => !Tryz.prog.wantsStandIn u) = true := by kernel_rfl
        exact (show Tryz.prog.wantsStandIn t = false by simpa using List.all_eq_true.1 hall t hm)⟩)
    (by kernel_rfl)
#print axioms StoreNilCard_holds
end Go.Proofs.YtnmeaminfoopmaaGreatDoor
