/- A law's row out of the law's contract: whatever its parameters are. -/
import Derived.Test.YthiimpleljaimaaGreatDoorRows
import Derived.WalkKit
import Derived.ProofKit
import Derived.OpenShut
import Derived.ShutString
import Derived.ChangeOld
import Derived.Below
import Derived.SizedLaws
import Derived.Handed
import Derived.LaidMore
import Derived.MakeChecks
import Derived.Stop.Joined
namespace Go.Proofs.YthiimpleljaimaaGreatDoor
open Go.ChangeShapes Go.WideShapes Go.ChangeAt Go.RowKit

theorem own : ownKnob Tryz.prog.godebug = none := by kernel_rfl
theorem laidOut : laidOutB Tryz.prog = true := by kernel_rfl

/-- All arguments read as they did, wherever nothing below the heap's old end has changed. -/
theorem trodAll_below {H : Type} {enc : TypeId × Value → H} {W W' : World} (hb : Below W.heap.size W W') :
    ∀ (ts : List TypeId) (vs : List Value) (ds : List (DataW H)) (p : List MemPlace), (∀ t ∈ ts, Tryz.prog.readableRec t = true ∧ t < Tryz.prog.types.size) →
      DataW.TrodAll enc Tryz.prog W 0 (fun _ => true) true ts vs ds p → DataW.TrodAll enc Tryz.prog W' 0 (fun b => decide (b < W.heap.size)) true ts vs ds p
  | [], [], [], _, _, h => h
  | t :: ts, v :: vs, d :: ds, p, ht, h => by
    obtain ⟨p1, q1, h1, h2, rfl⟩ := h
    refine ⟨p1, q1, Below.trod laidOut (ht t (by simp)).1 (ht t (by simp)).2 h1 hb ?_, trodAll_below hb ts vs ds q1 (fun t h => ht t (by simp [h])) h2, rfl⟩
    obtain ⟨m, hm⟩ := h1
    exact DataW.trod_lt m _ _ _ hm
  | [], [], _ :: _, _, _, h => h.elim
  | [], _ :: _, _, _, _, h => h.elim
  | _ :: _, [], _, _, _, h => h.elim
  | _ :: _, _ :: _, [], _, _, h => h.elim

/-- What a law's contract is handed, and what it owes. -/
def LawCalls (n : FuncId) (fn : Func) : Prop :=
  ∀ (H : Type) (enc : TypeId × Value → H) (W : World) (base : Nat) (args : Array Value) (ds : List (DataW H)) (p : List MemPlace),
    (∀ (j : Nat) t v, fn.params[j]? = some t → args[j]? = some v → Value.okWide Tryz.prog W .any base t v) →
    DataW.TrodAll enc Tryz.prog W 0 (fun _ => true) true fn.params.toList args.toList ds p →
    (DataW.weightsEach Tryz.prog fn.params.toList ds).all (· ≤ reachBytes) = true →
    W.noneFrozen p →
    Calls Tryz.prog n args W fun e W' => e = .returned (.bool true) ∧ Below W.heap.size W W'

theorem trodAll_len {H : Type} {enc : TypeId × Value → H} {W : World} {b : Nat} {s : Nat → Bool} {h : Bool} : ∀ (ts : List TypeId) (vs : List Value) (ds : List (DataW H)) (p : List MemPlace), DataW.TrodAll enc Tryz.prog W b s h ts vs ds p → ds.length = ts.length
  | [], [], [], _, _ => rfl
  | _ :: ts, _ :: vs, _ :: ds, _, hh => by obtain ⟨_, q, _, h2, _⟩ := hh; simp [trodAll_len ts vs ds q h2]
  | [], [], _ :: _, _, hh => hh.elim
  | [], _ :: _, _, _, hh => hh.elim
  | _ :: _, [], _, _, hh => hh.elim
  | _ :: _, _ :: _, [], _, hh => hh.elim

set_option maxRecDepth 100000 in
theorem law_lifted {n : FuncId} {fn : Func} {spec : ChangeSpec} {b : TypeId} (hfn : Tryz.prog.funcs[n]? = some fn) (hni : Tryz.prog.inits.idxOf? n = none)
    (hvars : spec.vars = []) (hres : fn.resultTypes = #[b]) (hb : Tryz.prog.underlying b = some .bool)
    (hts : ∀ t ∈ fn.params.toList, Tryz.prog.readableRec t = true ∧ t < Tryz.prog.types.size)
    {k : Nat} (hk : fn.params.toList.length = k) (hspec : ∀ (H : Type) (ds : List (DataW H)), ds.length = k → spec.fn H ds = { results := [.lit (.bool true)], args := ds })
    (os : Os) (started : os.Started) (H : Type) (enc : TypeId × Value → H)
    (witness : ∃ (w : World) (tape : Tape) (i : Input), w.os = os ∧ (w.forCall tape i).Shaped Tryz.prog ∧ i.vars = [] ∧ Input.okWide Tryz.prog (w.forCall tape i) .any w.heap.size n i ∧
      spec.pre6 enc Tryz.prog fn [] false (w.forCall tape i).memory i.args ∧ ({} : Assume).holds Tryz.prog (lone (Frame.enter Tryz.prog n i.args .normal) [] (w.forCall tape i)))
    (hc : LawCalls n fn) :
    ReturnsInHanded {} Tryz.checked os n .any (spec.pre6 enc Tryz.prog fn [] false) (spec.post enc Tryz.prog fn false true false false) := by
  refine returnsInHanded_of_change_sized (C := Tryz.checked) own started hni hfn witness ?_
  intro W base args ds gs before hval hW _ hsz0 _
  have hW' := hW
  obtain ⟨p, q, hA, hV, rfl, hfz, hnd⟩ := hW
  rw [hvars] at hV
  obtain ⟨rfl, rfl⟩ := trodVars_none hV
  have hsz : (DataW.weightsEach Tryz.prog fn.params.toList ds).all (· ≤ reachBytes) = true := by
    have h := hsz0
    rw [show spec.plain.varTypes Tryz.checked.prog = [] from by simp [ChangeSpec.plain, DataSpec.varTypes, hvars], List.append_nil, List.append_nil] at h
    exact h
  rw [List.append_nil] at hfz
  refine (hc H enc W base args ds p hval hA hsz hfz).mono fun e W' ⟨he, bel⟩ => ?_
  subst he
  have hlen := trodAll_len _ _ _ _ hA
  have hs := hspec H ds (hlen.trans hk)
  refine ⟨_, rfl, ds, [], _, [], p, [], hW', ?_, ?_, ?_, bel.frame _, fun h => by cases h⟩
  · rw [List.append_nil, hs, hres]
    exact trodAll_mk1 (shut_bool hb _)
  · rw [List.append_nil, hs]
    exact trodAll_below bel _ _ _ _ hts hA
  · rw [List.append_nil, hs, hvars]; rfl
end Go.Proofs.YthiimpleljaimaaGreatDoor

/- A law's row out of the law's contract, where package-level variables are laid. -/
namespace Go.Proofs.YthiimpleljaimaaGreatDoor
open Go.ChangeShapes Go.WideShapes Go.ChangeAt Go.RowKit

/-- What a law's contract is handed, and what it owes; the listed variables read as they were laid. -/
def LawCallsL (laid : List (String × DataW Unit)) (n : FuncId) (fn : Func) : Prop :=
  ∀ (H : Type) (enc : TypeId × Value → H) (W : World) (base : Nat) (args : Array Value) (ds : List (DataW H)) (p : List MemPlace),
    (∀ (j : Nat) t v, fn.params[j]? = some t → args[j]? = some v → Value.okWide Tryz.prog W .any base t v) →
    DataW.TrodAll enc Tryz.prog W 0 (fun _ => true) true fn.params.toList args.toList ds p →
    (DataW.weightsEach Tryz.prog fn.params.toList ds).all (· ≤ reachBytes) = true →
    W.noneFrozen p →
    laidMetH Tryz.prog laid W →
    Calls Tryz.prog n args W fun e W' => e = .returned (.bool true) ∧ Below W.heap.size W W'

set_option maxRecDepth 100000 in
theorem law_lifted_laid {n : FuncId} {fn : Func} {spec : ChangeSpec} {b : TypeId} {laid : List (String × DataW Unit)} (hfn : Tryz.prog.funcs[n]? = some fn) (hni : Tryz.prog.inits.idxOf? n = none)
    (hvars : spec.vars = []) (hres : fn.resultTypes = #[b]) (hb : Tryz.prog.underlying b = some .bool)
    (hts : ∀ t ∈ fn.params.toList, Tryz.prog.readableRec t = true ∧ t < Tryz.prog.types.size)
    {k : Nat} (hk : fn.params.toList.length = k) (hspec : ∀ (H : Type) (ds : List (DataW H)), ds.length = k → spec.fn H ds = { results := [.lit (.bool true)], args := ds })
    (os : Os) (started : os.Started) (H : Type) (enc : TypeId × Value → H)
    (witness : ∃ (w : World) (tape : Tape) (i : Input), w.os = os ∧ (w.forCall tape i).Shaped Tryz.prog ∧ i.vars = [] ∧ Input.okWide Tryz.prog (w.forCall tape i) .any w.heap.size n i ∧
      ((spec.pre enc Tryz.prog fn [] false (w.forCall tape i).memory i.args ∧ laidMetH Tryz.prog laid (w.forCall tape i).memory) ∧ sizedMet enc Tryz.prog fn (OpenSpec.ofChange spec) false (w.forCall tape i).memory i.args) ∧ ({} : Assume).holds Tryz.prog (lone (Frame.enter Tryz.prog n i.args .normal) [] (w.forCall tape i)))
    (hc : LawCallsL laid n fn) :
    ReturnsInHanded {} Tryz.checked os n .any (fun w args => (spec.pre enc Tryz.prog fn [] false w args ∧ laidMetH Tryz.prog laid w) ∧ sizedMet enc Tryz.prog fn (OpenSpec.ofChange spec) false w args) (spec.post enc Tryz.prog fn false true false false) := by
  refine returnsInHanded_of_change_and (C := Tryz.checked) (X := fun w _ => laidMetH Tryz.prog laid w) (fun _ _ _ hh h => h.of_heap hh) own started hni hfn witness ?_
  intro W base args ds gs before hval hW _ hsz0 hL _
  have hW' := hW
  obtain ⟨p, q, hA, hV, rfl, hfz, hnd⟩ := hW
  rw [hvars] at hV
  obtain ⟨rfl, rfl⟩ := trodVars_none hV
  have hsz : (DataW.weightsEach Tryz.prog fn.params.toList ds).all (· ≤ reachBytes) = true := by
    have h := hsz0
    rw [show spec.plain.varTypes Tryz.checked.prog = [] from by simp [ChangeSpec.plain, DataSpec.varTypes, hvars], List.append_nil, List.append_nil] at h
    exact h
  rw [List.append_nil] at hfz
  refine (hc H enc W base args ds p hval hA hsz hfz hL).mono fun e W' ⟨he, bel⟩ => ?_
  subst he
  have hlen := trodAll_len _ _ _ _ hA
  have hs := hspec H ds (hlen.trans hk)
  refine ⟨_, rfl, ds, [], _, [], p, [], hW', ?_, ?_, ?_, bel.frame _, fun h => by cases h⟩
  · rw [List.append_nil, hs, hres]
    exact trodAll_mk1 (shut_bool hb _)
  · rw [List.append_nil, hs]
    exact trodAll_below bel _ _ _ _ hts hA
  · rw [List.append_nil, hs, hvars]; rfl
end Go.Proofs.YthiimpleljaimaaGreatDoor

