/- ScanBytes: for every geometry and every bytes the law returns true: its row, and its card. -/
import Derived.Test.YteieaelinkdahaaDoorScanE
import Derived.Test.YteieaelinkdahaaDoorRowL
import Derived.Test.YteieaelinkdahaaDoorFlat
import Derived.Test.YteieaelinkdahaaDoorOpenS
import Derived.Test.YteieaelinkdahaaDoorTie
import Derived.Test.YteieaelinkdahaaDoorCards
import Derived.SevenTiedAt
namespace Go.Proofs.YteieaelinkdahaaDoor
open Go Go.ChangeShapes Go.WideShapes Go.ChangeAt Go.RowKit

section
variable {H : Type} {enc : TypeId × Value → H} {w : World} {spare : Nat → Bool} {held : Bool}
theorem leaf_u8 {r : List Value} (h : leaves enc Tryd.prog w 0 spare held [.int .u8] r) : ∃ x : Nat, r = [bv x] ∧ x < 256 := by
  match r, h with
  | [_], ⟨⟨a, rfl, hw⟩, _⟩ =>
    have h2 : 0 ≤ a ∧ a ≤ 255 := by
      simp [Lit.wf] at hw
      exact hw
    exact ⟨a.toNat, by show [Value.int .u8 a] = [Value.int .u8 ((a.toNat : Nat) : Int)]; rw [Int.toNat_of_nonneg h2.1], by omega⟩
theorem leaf_geo {r : List Value} (h : leaves enc Tryd.prog w 0 spare held [.int .i64, .int .i64] r) : ∃ s z : Int, r = [i64 s, i64 z] := by
  obtain ⟨_, r1, rfl, ⟨a, rfl, _⟩, q1⟩ := leaves_cons h
  obtain ⟨_, r2, rfl, ⟨b, rfl, _⟩, q2⟩ := leaves_cons q1
  rw [leaves_nil q2]
  exact ⟨a, b, rfl⟩
end

abbrev laidEx : List (String × DataW Unit) := [("flint/flintlaw08.example", Rows.laid_flint_flintlaw08_example)]
theorem gEx : Tryd.prog.globalNamed "flint/flintlaw08.example" = some 0 := by kernel_rfl
theorem tEx : (Tryd.prog.globals[0]?).map (·.type) = some 23 := by kernel_rfl
set_option maxRecDepth 100000 in
/-- What the condition gives: the example's cells. -/
theorem ex_of_laid {W : World} (h : laidMetH Tryd.prog laidEx W) : W.cell? ⟨0, 0, none⟩ = some (i64 6) ∧ W.cell? ⟨0, 1, none⟩ = some (i64 512) ∧ 0 < W.heap.size := by
  rw [MakeChecks.laidMetH_plain _ _ _ (by kernel_rfl)] at h
  obtain ⟨ps, ⟨g0, t0, cs0, f0, p0, q0, hg0, ht0, hv0, hd0, _, _⟩, _, _⟩ := h
  obtain rfl := Option.some.inj (gEx.symm.trans hg0)
  obtain rfl := Option.some.inj (tEx.symm.trans ht0)
  obtain ⟨y0, y1, n, hx, hl, h0, h1⟩ := trod_struct2 Tryd.underlying23 hd0
  simp only [Rows.laid_flint_flintlaw08_example, Prod.mk.injEq, DataW.agg.injEq, List.cons.injEq] at hx
  obtain ⟨a, ea, ya, _⟩ := DataW.trod_int Tryd.underlying3 h0
  obtain ⟨b, eb, yb, _⟩ := DataW.trod_int Tryd.underlying3 h1
  have c3 : Tryd.prog.cellsOf 3 = 1 := by kernel_rfl
  have c2 : Tryd.prog.cellsOf 23 = 2 := by kernel_rfl
  simp only [c3] at ea eb
  rw [c2] at hl
  have e6 : a = 6 := by rw [ya] at hx; simpa using hx.1.1.symm
  have e5 : b = 512 := by rw [yb] at hx; simpa using hx.1.2.1.symm
  subst e6; subst e5
  obtain ⟨L⟩ := cs0
  match L, hl with
  | [x, y], _ =>
    have ex : x = .int .i64 6 := by simpa using ea
    have ey : y = .int .i64 512 := by simpa using eb
    subst ex; subst ey
    have k0 := World.var?_cell hg0 hv0 0
    have k1 := World.var?_cell hg0 hv0 1
    refine ⟨by simpa using k0, by simpa using k1, ?_⟩
    have hk : (W.cell? ⟨0, 0, none⟩).isSome = true := by rw [show W.cell? ⟨0, 0, none⟩ = some (.int .i64 6) by simpa using k0]; rfl
    rcases Nat.lt_or_ge 0 W.heap.size with h' | h'
    · exact h'
    · rw [show W.cell? ⟨0, 0, none⟩ = none by simp [World.cell?, Array.getElem?_eq_none h']] at hk
      cases hk

set_option maxRecDepth 100000 in
theorem scanBytes_law : LawCallsL laidEx 3 Tryd.f3 := by
  intro H enc W base args ds p hval hA hsz hfz hL
  rw [Tryd.params3] at hA hval hsz
  obtain ⟨v0, vs0, d0, ds0, p0, q0, hargs, rfl, rfl, h0, r0⟩ := trodAll_cons hA
  obtain ⟨v1, vs1, d1, ds1, p1, q1, rfl, rfl, rfl, h1, r1⟩ := trodAll_cons r0
  obtain ⟨rfl, rfl, rfl⟩ := trodAll_nil r1
  obtain rfl : args = #[v0, v1] := by cases args; simp_all
  obtain ⟨g0, g1, hg⟩ := ex_of_laid hL
  obtain ⟨cs, rfl, hlv⟩ := open_flat_struct (n := 4) (ls := [.int .i64, .int .i64]) Tryd.underlying23 (by kernel_rfl) (hval 0 23 v0 rfl rfl) h0
  obtain ⟨s, z, hr⟩ := leaf_geo hlv
  have hcs : cs = #[i64 s, i64 z] := Array.toList_inj.1 hr
  subst hcs
  obtain ⟨rr0, s0, l0, z0, A0, c0, rfl⟩ := open_flat_arg (n := 3) (ls := [.int .u8]) (k := 1) (b := 1) Tryd.underlying24 (by kernel_rfl) rfl (by kernel_rfl) (by decide) (by kernel_rfl) hsz (j := 1) rfl rfl (okWide_slice Tryd.underlying24 (hval 1 24 v1 rfl rfl)) h1
  obtain ⟨l, rfl, hl⟩ := rows_of (fun r h => leaf_u8 h) rr0 l0
  exact scanBytes_makes s z _ _ _ l W s0 hl g0 g1 hg

set_option maxRecDepth 100000 in
/-- The door's own heap meets the condition. -/
theorem door_met (os : Os) (args : Array Value) : laidMetH Tryd.prog laidEx ((World.doorLaid Tryd.prog 400 os).forCall (fun _ _ => 0) ⟨#[], args, []⟩).memory :=
  laidMetH_of_parts3 (fuel := 8) (laidMet_of_run' 8 (by kernel_rfl) (by kernel_rfl)) (by kernel_rfl) (by kernel_rfl)

set_option maxRecDepth 100000 in
theorem scanBytesRow_holds : Rows.ScanBytesSaid :=
  OpenClaim.holds_of_wide 3 Tryd.f3 rfl rfl rfl rfl rfl rfl rfl ⟨rfl, rfl, rfl, rfl, rfl⟩ rfl rfl rfl rfl rfl (by kernel_rfl) Tryd.func3 (by kernel_rfl)
    (of_decide_eq_true (by kernel_rfl)) (by unfold Func.isWrapper; first | (rw [if_pos (by decide +kernel)]; kernel_rfl) | (rw [if_neg (by decide +kernel)]; exact ⟨rfl, rfl⟩))
    (fun os started H enc _ => law_lifted_laid (fn := Tryd.f3) (spec := Rows.scanBytesSpec) (laid := laidEx) Tryd.func3 (by kernel_rfl) rfl rfl Tryd.underlying4 (of_decide_eq_true (by kernel_rfl))
      (k := 2) (by kernel_rfl) (fun H ds h => by match ds, h with | [_, _], _ => rfl) os started H enc
      (ChangeSpec.witness_shaped (enc := enc) (C := Tryd.checked) (os := os) (X := fun w _ => laidMetH Tryd.prog laidEx w) false (World.doorLaid Tryd.prog 400 os) #[.agg #[.int .i64 0, .int .i64 0], .slice none 0 0] 8 rfl (World.shaped_of_RefB (by kernel_rfl) (by kernel_rfl)) (by kernel_rfl) (by kernel_rfl) (by kernel_rfl) (door_met os _)) scanBytes_law)

set_option maxRecDepth 100000 in
theorem ScanBytesCard_holds : Rows.ScanBytesCardSaid :=
  Claim7.holds_tied_plain_at .later [] [.data] true (true, "f321e70b1bb8f2858f7890a23caffef009021b430783e694f5a085fdad884a0d") false
    scanBytesRow_holds (fun _ h => by cases h) (by kernel_rfl) (fun _ h => by cases h) scanBytes_row_tie rfl ⟨rfl, rfl⟩ (by kernel_rfl) rfl
    (fun f fn hf hfn => by
      obtain rfl : f = 3 := Option.some.inj ((show Tryd.prog.funcNamed "flint/flintlaw08.ScanBytes" = some 3 by kernel_rfl).symm.trans hf) |>.symm
      obtain rfl : fn = Tryd.f3 := (Option.some.inj (Tryd.func3.symm.trans hfn)).symm
      exact ⟨by kernel_rfl, fun j t ht => by
        rw [Tryd.params3] at ht
        have hm : t ∈ [23, 24] := by simpa using Array.mem_of_getElem? ht
        have hall : ([23, 24].all fun u => !Tryd.prog.wantsStandIn u) = true := by kernel_rfl
        exact (show Tryd.prog.wantsStandIn t = false by simpa using List.all_eq_true.1 hall t hm)⟩)
    (by kernel_rfl)
#print axioms ScanBytesCard_holds
end Go.Proofs.YteieaelinkdahaaDoor
