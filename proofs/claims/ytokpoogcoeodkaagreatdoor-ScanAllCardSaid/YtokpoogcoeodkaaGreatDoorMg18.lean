/- A law's row out of the law's contract: whatever its parameters are. -/
import Derived.Test.YtokpoogcoeodkaaGreatDoorRows
import Derived.WalkKit
import Derived.ProofKit
import Derived.OpenShut
import Derived.ShutString
import Derived.ChangeOld
import Derived.Below
import Derived.SizedLaws
import Derived.Handed
import Derived.LaidMore
import Derived.MakeChecks
import Derived.Stop.Joined
import Derived.Test.YtokpoogcoeodkaaGreatDoorMg12
import Derived.Test.YtokpoogcoeodkaaGreatDoorMg19
import Derived.Test.YtokpoogcoeodkaaGreatDoorTie
import Derived.Test.YtokpoogcoeodkaaGreatDoorCards
import Derived.SevenTiedAt
namespace Go.Proofs.YtokpoogcoeodkaaGreatDoor
open Go.ChangeShapes Go.WideShapes Go.ChangeAt Go.RowKit

theorem own : ownKnob Tryz.prog.godebug = none := by kernel_rfl
theorem laidOut : laidOutB Tryz.prog = true := by kernel_rfl

/-- All arguments read as they did, wherever nothing below the heap's old end has changed. -/
theorem trodAll_below {H : Type} {enc : TypeId × Value → H} {W W' : World} (hb : Below W.heap.size W W') :
    ∀ (ts : List TypeId) (vs : List Value) (ds : List (DataW H)) (p : List MemPlace), (∀ t ∈ ts, Tryz.prog.readableRec t = true ∧ t < Tryz.prog.types.size) →
      DataW.TrodAll enc Tryz.prog W 0 (fun _ => true) true ts vs ds p → DataW.TrodAll enc Tryz.prog W' 0 (fun b => decide (b < W.heap.size)) true ts vs ds p
  | [], [], [], _, _, h => h
  | t :: ts, v :: vs, d :: ds, p, ht, h => by
    obtain ⟨p1, q1, h1, h2, rfl⟩ := h
    refine ⟨p1, q1, Below.trod laidOut (ht t (by simp)).1 (ht t (by simp)).2 h1 hb ?_, trodAll_below hb ts vs ds q1 (fun t h => ht t (by simp [h])) h2, rfl⟩
    obtain ⟨m, hm⟩ := h1
    exact DataW.trod_lt m _ _ _ hm
  | [], [], _ :: _, _, _, h => h.elim
  | [], _ :: _, _, _, _, h => h.elim
  | _ :: _, [], _, _, _, h => h.elim
  | _ :: _, _ :: _, [], _, _, h => h.elim

/-- What a law's contract is handed, and what it owes. -/
def LawCalls (n : FuncId) (fn : Func) : Prop :=
  ∀ (H : Type) (enc : TypeId × Value → H) (W : World) (base : Nat) (args : Array Value) (ds : List (DataW H)) (p : List MemPlace),
    (∀ (j : Nat) t v, fn.params[j]? = some t → args[j]? = some v → Value.okWide Tryz.prog W .any base t v) →
    DataW.TrodAll enc Tryz.prog W 0 (fun _ => true) true fn.params.toList args.toList ds p →
    (DataW.weightsEach Tryz.prog fn.params.toList ds).all (· ≤ reachBytes) = true →
    W.noneFrozen p →
    Calls Tryz.prog n args W fun e W' => e = .returned (.bool true) ∧ Below W.heap.size W W'

theorem trodAll_len {H : Type} {enc : TypeId × Value → H} {W : World} {b : Nat} {s : Nat → Bool} {h : Bool} : ∀ (ts : List TypeId) (vs : List Value) (ds : List (DataW H)) (p : List MemPlace), DataW.TrodAll enc Tryz.prog W b s h ts vs ds p → ds.length = ts.length
  | [], [], [], _, _ => rfl
  | _ :: ts, _ :: vs, _ :: ds, _, hh => by obtain ⟨_, q, _, h2, _⟩ := hh; simp [trodAll_len ts vs ds q h2]
  | [], [], _ :: _, _, hh => hh.elim
  | [], _ :: _, _, _, hh => hh.elim
  | _ :: _, [], _, _, hh => hh.elim
  | _ :: _, _ :: _, [], _, hh => hh.elim

set_option maxRecDepth 100000 in
theorem law_lifted {n : FuncId} {fn : Func} {spec : ChangeSpec} {b : TypeId} (hfn : Tryz.prog.funcs[n]? = some fn) (hni : Tryz.prog.inits.idxOf? n = none)
    (hvars : spec.vars = []) (hres : fn.resultTypes = #[b]) (hb : Tryz.prog.underlying b = some .bool)
    (hts : ∀ t ∈ fn.params.toList, Tryz.prog.readableRec t = true ∧ t < Tryz.prog.types.size)
    {k : Nat} (hk : fn.params.toList.length = k) (hspec : ∀ (H : Type) (ds : List (DataW H)), ds.length = k → spec.fn H ds = { results := [.lit (.bool true)], args := ds })
    (os : Os) (started : os.Started) (H : Type) (enc : TypeId × Value → H)
    (witness : ∃ (w : World) (tape : Tape) (i : Input), w.os = os ∧ (w.forCall tape i).Shaped Tryz.prog ∧ i.vars = [] ∧ Input.okWide Tryz.prog (w.forCall tape i) .any w.heap.size n i ∧
      spec.pre6 enc Tryz.prog fn [] false (w.forCall tape i).memory i.args ∧ ({} : Assume).holds Tryz.prog (lone (Frame.enter Tryz.prog n i.args .normal) [] (w.forCall tape i)))
    (hc : LawCalls n fn) :
    ReturnsInHanded {} Tryz.checked os n .any (spec.pre6 enc Tryz.prog fn [] false) (spec.post enc Tryz.prog fn false true false false) := by
  refine returnsInHanded_of_change_sized (C := Tryz.checked) own started hni hfn witness ?_
  intro W base args ds gs before hval hW _ hsz0 _
  have hW' := hW
  obtain ⟨p, q, hA, hV, rfl, hfz, hnd⟩ := hW
  rw [hvars] at hV
  obtain ⟨rfl, rfl⟩ := trodVars_none hV
  have hsz : (DataW.weightsEach Tryz.prog fn.params.toList ds).all (· ≤ reachBytes) = true := by
    have h := hsz0
    rw [show spec.plain.varTypes Tryz.checked.prog = [] from by simp [ChangeSpec.plain, DataSpec.varTypes, hvars], List.append_nil, List.append_nil] at h
    exact h
  rw [List.append_nil] at hfz
  refine (hc H enc W base args ds p hval hA hsz hfz).mono fun e W' ⟨he, bel⟩ => ?_
  subst he
  have hlen := trodAll_len _ _ _ _ hA
  have hs := hspec H ds (hlen.trans hk)
  refine ⟨_, rfl, ds, [], _, [], p, [], hW', ?_, ?_, ?_, bel.frame _, fun h => by cases h⟩
  · rw [List.append_nil, hs, hres]
    exact trodAll_mk1 (shut_bool hb _)
  · rw [List.append_nil, hs]
    exact trodAll_below bel _ _ _ _ hts hA
  · rw [List.append_nil, hs, hvars]; rfl
end Go.Proofs.YtokpoogcoeodkaaGreatDoor

/- A law's row out of the law's contract, where package-level variables are laid. -/
namespace Go.Proofs.YtokpoogcoeodkaaGreatDoor
open Go.ChangeShapes Go.WideShapes Go.ChangeAt Go.RowKit

/-- What a law's contract is handed, and what it owes; the listed variables read as they were laid. -/
def LawCallsL (laid : List (String × DataW Unit)) (n : FuncId) (fn : Func) : Prop :=
  ∀ (H : Type) (enc : TypeId × Value → H) (W : World) (base : Nat) (args : Array Value) (ds : List (DataW H)) (p : List MemPlace),
    (∀ (j : Nat) t v, fn.params[j]? = some t → args[j]? = some v → Value.okWide Tryz.prog W .any base t v) →
    DataW.TrodAll enc Tryz.prog W 0 (fun _ => true) true fn.params.toList args.toList ds p →
    (DataW.weightsEach Tryz.prog fn.params.toList ds).all (· ≤ reachBytes) = true →
    W.noneFrozen p →
    laidMetH Tryz.prog laid W →
    Calls Tryz.prog n args W fun e W' => e = .returned (.bool true) ∧ Below W.heap.size W W'

set_option maxRecDepth 100000 in
theorem law_lifted_laid {n : FuncId} {fn : Func} {spec : ChangeSpec} {b : TypeId} {laid : List (String × DataW Unit)} (hfn : Tryz.prog.funcs[n]? = some fn) (hni : Tryz.prog.inits.idxOf? n = none)
    (hvars : spec.vars = []) (hres : fn.resultTypes = #[b]) (hb : Tryz.prog.underlying b = some .bool)
    (hts : ∀ t ∈ fn.params.toList, Tryz.prog.readableRec t = true ∧ t < Tryz.prog.types.size)
    {k : Nat} (hk : fn.params.toList.length = k) (hspec : ∀ (H : Type) (ds : List (DataW H)), ds.length = k → spec.fn H ds = { results := [.lit (.bool true)], args := ds })
    (os : Os) (started : os.Started) (H : Type) (enc : TypeId × Value → H)
    (witness : ∃ (w : World) (tape : Tape) (i : Input), w.os = os ∧ (w.forCall tape i).Shaped Tryz.prog ∧ i.vars = [] ∧ Input.okWide Tryz.prog (w.forCall tape i) .any w.heap.size n i ∧
      ((spec.pre enc Tryz.prog fn [] false (w.forCall tape i).memory i.args ∧ laidMetH Tryz.prog laid (w.forCall tape i).memory) ∧ sizedMet enc Tryz.prog fn (OpenSpec.ofChange spec) false (w.forCall tape i).memory i.args) ∧ ({} : Assume).holds Tryz.prog (lone (Frame.enter Tryz.prog n i.args .normal) [] (w.forCall tape i)))
    (hc : LawCallsL laid n fn) :
    ReturnsInHanded {} Tryz.checked os n .any (fun w args => (spec.pre enc Tryz.prog fn [] false w args ∧ laidMetH Tryz.prog laid w) ∧ sizedMet enc Tryz.prog fn (OpenSpec.ofChange spec) false w args) (spec.post enc Tryz.prog fn false true false false) := by
  refine returnsInHanded_of_change_and (C := Tryz.checked) (X := fun w _ => laidMetH Tryz.prog laid w) (fun _ _ _ hh h => h.of_heap hh) own started hni hfn witness ?_
  intro W base args ds gs before hval hW _ hsz0 hL _
  have hW' := hW
  obtain ⟨p, q, hA, hV, rfl, hfz, hnd⟩ := hW
  rw [hvars] at hV
  obtain ⟨rfl, rfl⟩ := trodVars_none hV
  have hsz : (DataW.weightsEach Tryz.prog fn.params.toList ds).all (· ≤ reachBytes) = true := by
    have h := hsz0
    rw [show spec.plain.varTypes Tryz.checked.prog = [] from by simp [ChangeSpec.plain, DataSpec.varTypes, hvars], List.append_nil, List.append_nil] at h
    exact h
  rw [List.append_nil] at hfz
  refine (hc H enc W base args ds p hval hA hsz hfz hL).mono fun e W' ⟨he, bel⟩ => ?_
  subst he
  have hlen := trodAll_len _ _ _ _ hA
  have hs := hspec H ds (hlen.trans hk)
  refine ⟨_, rfl, ds, [], _, [], p, [], hW', ?_, ?_, ?_, bel.frame _, fun h => by cases h⟩
  · rw [List.append_nil, hs, hres]
    exact trodAll_mk1 (shut_bool hb _)
  · rw [List.append_nil, hs]
    exact trodAll_below bel _ _ _ _ hts hA
  · rw [List.append_nil, hs, hvars]; rfl
end Go.Proofs.YtokpoogcoeodkaaGreatDoor

/- ScanBytes: for every geometry and every bytes the law returns true: its row, and its card. -/
namespace Go.Proofs.YtokpoogcoeodkaaGreatDoor
open Go Go.ChangeShapes Go.WideShapes Go.ChangeAt Go.RowKit

section
variable {H : Type} {enc : TypeId × Value → H} {w : World} {spare : Nat → Bool} {held : Bool}
theorem leaf_u8 {r : List Value} (h : leaves enc Tryz.prog w 0 spare held [.int .u8] r) : ∃ x : Nat, r = [bv x] ∧ x < 256 := by
  match r, h with
  | [_], ⟨⟨a, rfl, hw⟩, _⟩ =>
    have h2 : 0 ≤ a ∧ a ≤ 255 := by
      simp [Lit.wf] at hw
      exact hw
    exact ⟨a.toNat, by show [Value.int .u8 a] = [Value.int .u8 ((a.toNat : Nat) : Int)]; rw [Int.toNat_of_nonneg h2.1], by omega⟩
theorem leaf_geo {r : List Value} (h : leaves enc Tryz.prog w 0 spare held [.int .i64, .int .i64] r) : ∃ s z : Int, r = [i64 s, i64 z] := by
  obtain ⟨_, r1, rfl, ⟨a, rfl, _⟩, q1⟩ := leaves_cons h
  obtain ⟨_, r2, rfl, ⟨b, rfl, _⟩, q2⟩ := leaves_cons q1
  rw [leaves_nil q2]
  exact ⟨a, b, rfl⟩
end

abbrev laidEx : List (String × DataW Unit) := [("flint/flintlaw08.example", Rows.laid_flint_flintlaw08_example)]
theorem gEx : Tryz.prog.globalNamed "flint/flintlaw08.example" = some 0 := by kernel_rfl
theorem tEx : (Tryz.prog.globals[0]?).map (·.type) = some 28 := by kernel_rfl
set_option maxRecDepth 100000 in
/-- What the condition gives: the example's cells. -/
theorem ex_of_laid {W : World} (h : laidMetH Tryz.prog laidEx W) : W.cell? ⟨0, 0, none⟩ = some (i64 6) ∧ W.cell? ⟨0, 1, none⟩ = some (i64 512) ∧ 0 < W.heap.size := by
  rw [MakeChecks.laidMetH_plain _ _ _ (by kernel_rfl)] at h
  obtain ⟨ps, ⟨g0, t0, cs0, f0, p0, q0, hg0, ht0, hv0, hd0, _, _⟩, _, _⟩ := h
  obtain rfl := Option.some.inj (gEx.symm.trans hg0)
  obtain rfl := Option.some.inj (tEx.symm.trans ht0)
  obtain ⟨y0, y1, n, hx, hl, h0, h1⟩ := trod_struct2 Tryz.underlying28 hd0
  simp only [Rows.laid_flint_flintlaw08_example, Prod.mk.injEq, DataW.agg.injEq, List.cons.injEq] at hx
  obtain ⟨a, ea, ya, _⟩ := DataW.trod_int Tryz.underlying3 h0
  obtain ⟨b, eb, yb, _⟩ := DataW.trod_int Tryz.underlying3 h1
  have c3 : Tryz.prog.cellsOf 3 = 1 := by kernel_rfl
  have c2 : Tryz.prog.cellsOf 28 = 2 := by kernel_rfl
  simp only [c3] at ea eb
  rw [c2] at hl
  have e6 : a = 6 := by rw [ya] at hx; simpa using hx.1.1.symm
  have e5 : b = 512 := by rw [yb] at hx; simpa using hx.1.2.1.symm
  subst e6; subst e5
  obtain ⟨L⟩ := cs0
  match L, hl with
  | [x, y], _ =>
    have ex : x = .int .i64 6 := by simpa using ea
    have ey : y = .int .i64 512 := by simpa using eb
    subst ex; subst ey
    have k0 := World.var?_cell hg0 hv0 0
    have k1 := World.var?_cell hg0 hv0 1
    refine ⟨by simpa using k0, by simpa using k1, ?_⟩
    have hk : (W.cell? ⟨0, 0, none⟩).isSome = true := by rw [show W.cell? ⟨0, 0, none⟩ = some (.int .i64 6) by simpa using k0]; rfl
    rcases Nat.lt_or_ge 0 W.heap.size with h' | h'
    · exact h'
    · rw [show W.cell? ⟨0, 0, none⟩ = none by simp [World.cell?, Array.getElem?_eq_none h']] at hk
      cases hk

set_option maxRecDepth 100000 in
/-- The door's own heap meets the condition. -/
theorem door_met (os : Os) (args : Array Value) : laidMetH Tryz.prog laidEx ((World.doorLaid Tryz.prog 400 os).forCall (fun _ _ => 0) ⟨#[], args, []⟩).memory :=
  laidMetH_of_parts3 (fuel := 8) (laidMet_of_run' 8 (by kernel_rfl) (by kernel_rfl)) (by kernel_rfl) (by kernel_rfl)

end Go.Proofs.YtokpoogcoeodkaaGreatDoor

