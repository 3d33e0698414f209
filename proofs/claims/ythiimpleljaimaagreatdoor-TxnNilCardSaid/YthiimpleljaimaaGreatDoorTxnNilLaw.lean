/- TxnNil: for every step the law returns true: its row, and its card. -/
import Derived.Test.YthiimpleljaimaaGreatDoorMg37
import Derived.Test.YthiimpleljaimaaGreatDoorMg38
import Derived.Test.YthiimpleljaimaaGreatDoorTxnNilC
import Derived.Test.YthiimpleljaimaaGreatDoorMg39
import Derived.Test.YthiimpleljaimaaGreatDoorTie
import Derived.Test.YthiimpleljaimaaGreatDoorCards
import Derived.SevenTiedAt
import Derived.ChangeMaps5
import Derived.Lay
namespace Go.Proofs.YthiimpleljaimaaGreatDoor
open Go Go.ChangeShapes Go.WideShapes Go.ChangeAt Go.RowKit

abbrev stepLeaves : List Leaf := [.int .i64, .int .u8, .str, .str, .int .i64, .int .i64, .int .i64, .sl 22]
section
variable {H : Type} {enc : TypeId × Value → H} {w : World} {spare : Nat → Bool} {held : Bool}
set_option maxRecDepth 100000 in
theorem leaf_step {r : List Value} (h : leaves enc Tryz.prog w 0 spare held stepLeaves r) : ∃ (i k : Int) (p o : ByteArray) (x y z : Int) (a : Option Addr) (n c : Nat), r = stepL i k p o x y z a n c := by
  obtain ⟨_, r1, rfl, ⟨i, rfl, _⟩, q1⟩ := leaves_cons h
  obtain ⟨_, r2, rfl, ⟨k, rfl, _⟩, q2⟩ := leaves_cons q1
  obtain ⟨_, r3, rfl, ⟨p, rfl, _⟩, q3⟩ := leaves_cons q2
  obtain ⟨_, r4, rfl, ⟨o, rfl, _⟩, q4⟩ := leaves_cons q3
  obtain ⟨_, r5, rfl, ⟨x, rfl, _⟩, q5⟩ := leaves_cons q4
  obtain ⟨_, r6, rfl, ⟨y, rfl, _⟩, q6⟩ := leaves_cons q5
  obtain ⟨_, r7, rfl, ⟨z, rfl, _⟩, q7⟩ := leaves_cons q6
  obtain ⟨v, r8, rfl, ⟨m, t, hy⟩, q8⟩ := leaves_cons q7
  rw [leaves_nil q8]
  rcases DataW.trod_slice Tryz.underlying22 hy with ⟨h1, _⟩ | ⟨a, n, c, _, _, _, _, h1, _⟩
  · simp only [List.cons.injEq, and_true] at h1
    exact ⟨i, k, p, o, x, y, z, none, 0, 0, by rw [h1]⟩
  · simp only [List.cons.injEq, and_true] at h1
    exact ⟨i, k, p, o, x, y, z, some a, n, c, by rw [h1]⟩
end

abbrev laidEx : List (String × DataW Unit) := [("unicode/utf8.acceptRanges", Rows.laid_unicode_utf8_acceptRanges), ("flint/flintlaw22.example", Rows.laid_flint_flintlaw22_example), ("unicode/utf8.first", Rows.laid_unicode_utf8_first)]
theorem gEx : Tryz.prog.globalNamed "flint/flintlaw22.example" = some 0 := by kernel_rfl
theorem tEx : (Tryz.prog.globals[0]?).map (·.type) = some 38 := by kernel_rfl
set_option maxRecDepth 100000 in
/-- What the condition gives: the example's cells. -/
theorem ex_of_laid {W : World} (h : laidMetH Tryz.prog laidEx W) : W.cell? ⟨0, 0, none⟩ = some (i64 16) ∧ W.cell? ⟨0, 1, none⟩ = some (i64 1024) ∧ 0 < W.heap.size := by
  rw [MakeChecks.laidMetH_plain _ _ _ (by kernel_rfl)] at h
  obtain ⟨ps, ⟨_, _, _, _, _, _, _, _, _, _, hr, _⟩, _, _⟩ := h
  obtain ⟨g0, t0, cs0, f0, p0, q0, hg0, ht0, hv0, hd0, _, _⟩ := hr
  obtain rfl := Option.some.inj (gEx.symm.trans hg0)
  obtain rfl := Option.some.inj (tEx.symm.trans ht0)
  obtain ⟨y0, y1, n, hx, hl, h0, h1⟩ := trod_struct2 Tryz.underlying38 hd0
  simp only [Rows.laid_flint_flintlaw22_example, Prod.mk.injEq, DataW.agg.injEq, List.cons.injEq] at hx
  obtain ⟨a, ea, ya, _⟩ := DataW.trod_int Tryz.underlying3 h0
  obtain ⟨b, eb, yb, _⟩ := DataW.trod_int Tryz.underlying3 h1
  have c3 : Tryz.prog.cellsOf 3 = 1 := by kernel_rfl
  have c2 : Tryz.prog.cellsOf 38 = 2 := by kernel_rfl
  simp only [c3] at ea eb
  rw [c2] at hl
  have e6 : a = 16 := by rw [ya] at hx; simpa using hx.1.1.symm
  have e5 : b = 1024 := by rw [yb] at hx; simpa using hx.1.2.1.symm
  subst e6; subst e5
  obtain ⟨L⟩ := cs0
  match L, hl with
  | [x, y], _ =>
    have ex : x = .int .i64 16 := by simpa using ea
    have ey : y = .int .i64 1024 := by simpa using eb
    subst ex; subst ey
    have k0 := World.var?_cell hg0 hv0 0
    have k1 := World.var?_cell hg0 hv0 1
    refine ⟨by simpa using k0, by simpa using k1, ?_⟩
    have hk : (W.cell? ⟨0, 0, none⟩).isSome = true := by rw [show W.cell? ⟨0, 0, none⟩ = some (.int .i64 16) by simpa using k0]; rfl
    rcases Nat.lt_or_ge 0 W.heap.size with h' | h'
    · exact h'
    · rw [show W.cell? ⟨0, 0, none⟩ = none by simp [World.cell?, Array.getElem?_eq_none h']] at hk
      cases hk

set_option maxRecDepth 100000 in
theorem txnNilRow_law : LawCallsL laidEx 3 Tryz.f3 := by
  intro H enc W base args ds p hval hA hsz hfz hL
  rw [Tryz.params3] at hA hval hsz
  obtain ⟨v0, vs0, d0, ds0, p0, q0, hargs, rfl, rfl, h0, r0⟩ := trodAll_cons hA
  obtain ⟨rfl, rfl, rfl⟩ := trodAll_nil r0
  obtain rfl : args = #[v0] := by cases args; simp_all
  obtain ⟨g0, g1, hg⟩ := ex_of_laid hL
  obtain ⟨cs, rfl, hlv⟩ := open_flat_struct (n := 5) (ls := stepLeaves) Tryz.underlying26 (by kernel_rfl) (hval 0 26 v0 rfl rfl) h0
  obtain ⟨i, k, s, o, x, y, z, a, n, c, hr⟩ := leaf_step hlv
  have hcs : cs = (stepL i k s o x y z a n c).toArray := Array.toList_inj.1 hr
  subst hcs
  exact txnNil_makes i k s o x y z a n c W g0 g1 hg

set_option maxRecDepth 100000 in
/-- A heap in which all that is listed is laid meets the condition. -/
theorem laid_met (os : Os) (args : Array Value) : laidMetH Tryz.prog laidEx ((World.laidAll Tryz.prog os laidEx).forCall (fun _ _ => 0) ⟨#[], args, []⟩).memory := by
  rw [MakeChecks.laidMetH_plain _ _ _ (by kernel_rfl)]
  exact laidMet_laidAll _ (by kernel_rfl) (by kernel_rfl)

abbrev argW : Array Value := #[.agg #[.int .i64 0, .int .u8 0, .string ByteArray.empty, .string ByteArray.empty, .int .i64 0, .int .i64 0, .int .i64 0, .slice none 0 0]]
noncomputable abbrev wW (os : Os) : World := (World.laidAll Tryz.prog os laidEx).forCall (fun _ _ => 0) ⟨#[], argW, []⟩
set_option maxRecDepth 100000
theorem w_zip (os : Os) : (wW os).variablesZipB Tryz.prog = true := by kernel_rfl
theorem w_rest (os : Os) : ((wW os).heap.toList.drop Tryz.prog.globals.size).take ((begin Tryz.prog (fun _ _ => 0) default).world.heap.size - Tryz.prog.globals.size) = (begin Tryz.prog (fun _ _ => 0) default).world.heap.toList.drop Tryz.prog.globals.size := by kernel_rfl
theorem w_ok (os : Os) : Input.okWideB Tryz.prog (wW os) 3 ⟨#[], argW, []⟩ = true := by kernel_rfl
theorem w_pre {H : Type} (enc : TypeId × Value → H) (os : Os) : Rows.txnNilSpec.preB enc Tryz.prog Tryz.f3 [] false (wW os).memory argW 8 = true := by kernel_rfl
theorem w_sized {H : Type} (enc : TypeId × Value → H) (os : Os) : Rows.txnNilSpec.sizedB enc Tryz.prog Tryz.f3 false (wW os).memory argW 8 = true := by kernel_rfl
theorem w_witness {H : Type} (enc : TypeId × Value → H) (os : Os) : ∃ (w : World) (tape : Tape) (i : Input), w.os = os ∧ (w.forCall tape i).Shaped Tryz.prog ∧ i.vars = [] ∧ Input.okWide Tryz.prog (w.forCall tape i) .any w.heap.size 3 i ∧
      ((Rows.txnNilSpec.pre enc Tryz.prog Tryz.f3 [] false (w.forCall tape i).memory i.args ∧ laidMetH Tryz.prog laidEx (w.forCall tape i).memory) ∧ sizedMet enc Tryz.prog Tryz.f3 (OpenSpec.ofChange Rows.txnNilSpec) false (w.forCall tape i).memory i.args) ∧ ({} : Assume).holds Tryz.prog (lone (Frame.enter Tryz.prog 3 i.args .normal) [] (w.forCall tape i)) := ChangeSpec.witness_shaped (enc := enc) (C := Tryz.checked) (os := os) (f := 3) (fn := Tryz.f3) (s := Rows.txnNilSpec) (conds := []) (apart := false) (X := fun w _ => laidMetH Tryz.prog laidEx w) false (World.laidAll Tryz.prog os laidEx) argW 8 (World.laidAll_os _ _ _) (World.shaped_of_ZipB (w_zip os) (w_rest os)) (w_ok os) (w_pre enc os) (w_sized enc os) (laid_met os _)

theorem row_in (os : Os) (started : os.Started) (H : Type) (enc : TypeId × Value → H) : ReturnsInHanded {} Tryz.checked os 3 .any (fun w args => (Rows.txnNilSpec.pre enc Tryz.prog Tryz.f3 [] false w args ∧ laidMetH Tryz.prog laidEx w) ∧ sizedMet enc Tryz.prog Tryz.f3 (OpenSpec.ofChange Rows.txnNilSpec) false w args) (Rows.txnNilSpec.post enc Tryz.prog Tryz.f3 false true false false) := law_lifted_laid (fn := Tryz.f3) (spec := Rows.txnNilSpec) (laid := laidEx) Tryz.func3 (by kernel_rfl) rfl rfl Tryz.underlying4 (of_decide_eq_true (by kernel_rfl))
      (k := 1) (by kernel_rfl) (fun H ds h => by match ds, h with | [_], _ => rfl) os started H enc
      (w_witness enc os) txnNilRow_law
theorem txnNilRow_holds : Rows.TxnNilSaid :=
  OpenClaim.holds_of_wide 3 Tryz.f3 rfl rfl rfl rfl rfl rfl rfl ⟨rfl, rfl, rfl, rfl, rfl⟩ rfl rfl rfl rfl rfl txc_1 Tryz.func3 txc_2 txc_3 txc_4
    (fun os started H enc _ => row_in os started H enc)

set_option maxRecDepth 100000 in
theorem TxnNilCard_holds : Rows.TxnNilCardSaid :=
  Claim7.holds_tied_plain_at .later [] [.data, .data, .pinned] true (true, "88f1aab6aad6d8494c419521ee89b1fa178b0dcb54db1bc1ea9c546c1260eae4") false
    txnNilRow_holds (fun _ h => by cases h) (by kernel_rfl) (fun _ h => by cases h) txnNil_row_tie rfl ⟨rfl, rfl⟩ (by kernel_rfl) rfl
    (fun f fn hf hfn => by
      obtain rfl : f = 3 := Option.some.inj ((show Tryz.prog.funcNamed "flint/flintlaw22.TxnNil" = some 3 by kernel_rfl).symm.trans hf) |>.symm
      obtain rfl : fn = Tryz.f3 := (Option.some.inj (Tryz.func3.symm.trans hfn)).symm
      exact ⟨by kernel_rfl, fun j t ht => by
        rw [Tryz.params3] at ht
        have hm : t ∈ [26] := by simpa using Array.mem_of_getElem? ht
        have hall : ([26].all fun u => !Tryz.prog.wantsStandIn u) = true := by kernel_rfl
        exact (show Tryz.prog.wantsStandIn t = false by simpa using List.all_eq_true.1 hall t hm)⟩)
    (by kernel_rfl)
#print axioms TxnNilCard_holds
end Go.Proofs.YthiimpleljaimaaGreatDoor
