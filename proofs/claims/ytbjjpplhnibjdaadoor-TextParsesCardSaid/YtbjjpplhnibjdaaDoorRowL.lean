/- A law's row out of the law's contract, where package-level variables are laid. -/
import Derived.Test.YtbjjpplhnibjdaaDoorRow
import Derived.Handed
import Derived.LaidMore
import Derived.MakeChecks
import Derived.Stop.Joined
namespace Go.Proofs.YtbjjpplhnibjdaaDoor
open Go.ChangeShapes Go.WideShapes Go.ChangeAt Go.RowKit

/-- What a law's contract is handed, and what it owes; the listed variables read as they were laid. -/
def LawCallsL (laid : List (String × DataW Unit)) (n : FuncId) (fn : Func) : Prop :=
  ∀ (H : Type) (enc : TypeId × Value → H) (W : World) (base : Nat) (args : Array Value) (ds : List (DataW H)) (p : List MemPlace),
    (∀ (j : Nat) t v, fn.params[j]? = some t → args[j]? = some v → Value.okWide Tryd.prog W .any base t v) →
    DataW.TrodAll enc Tryd.prog W 0 (fun _ => true) true fn.params.toList args.toList ds p →
    (DataW.weightsEach Tryd.prog fn.params.toList ds).all (· ≤ reachBytes) = true →
    W.noneFrozen p →
    laidMetH Tryd.prog laid W →
    Calls Tryd.prog n args W fun e W' => e = .returned (.bool true) ∧ Below W.heap.size W W'

set_option maxRecDepth 100000 in
theorem law_lifted_laid {n : FuncId} {fn : Func} {spec : ChangeSpec} {b : TypeId} {laid : List (String × DataW Unit)} (hfn : Tryd.prog.funcs[n]? = some fn) (hni : Tryd.prog.inits.idxOf? n = none)
    (hvars : spec.vars = []) (hres : fn.resultTypes = #[b]) (hb : Tryd.prog.underlying b = some .bool)
    (hts : ∀ t ∈ fn.params.toList, Tryd.prog.readableRec t = true ∧ t < Tryd.prog.types.size)
    {k : Nat} (hk : fn.params.toList.length = k) (hspec : ∀ (H : Type) (ds : List (DataW H)), ds.length = k → spec.fn H ds = { results := [.lit (.bool true)], args := ds })
    (os : Os) (started : os.Started) (H : Type) (enc : TypeId × Value → H)
    (witness : ∃ (w : World) (tape : Tape) (i : Input), w.os = os ∧ (w.forCall tape i).Shaped Tryd.prog ∧ i.vars = [] ∧ Input.okWide Tryd.prog (w.forCall tape i) .any w.heap.size n i ∧
      ((spec.pre enc Tryd.prog fn [] false (w.forCall tape i).memory i.args ∧ laidMetH Tryd.prog laid (w.forCall tape i).memory) ∧ sizedMet enc Tryd.prog fn (OpenSpec.ofChange spec) false (w.forCall tape i).memory i.args) ∧ ({} : Assume).holds Tryd.prog (lone (Frame.enter Tryd.prog n i.args .normal) [] (w.forCall tape i)))
    (hc : LawCallsL laid n fn) :
    ReturnsInHanded {} Tryd.checked os n .any (fun w args => (spec.pre enc Tryd.prog fn [] false w args ∧ laidMetH Tryd.prog laid w) ∧ sizedMet enc Tryd.prog fn (OpenSpec.ofChange spec) false w args) (spec.post enc Tryd.prog fn false true false false) := by
  refine returnsInHanded_of_change_and (C := Tryd.checked) (X := fun w _ => laidMetH Tryd.prog laid w) (fun _ _ _ hh h => h.of_heap hh) own started hni hfn witness ?_
  intro W base args ds gs before hval hW _ hsz0 hL _
  have hW' := hW
  obtain ⟨p, q, hA, hV, rfl, hfz, hnd⟩ := hW
  rw [hvars] at hV
  obtain ⟨rfl, rfl⟩ := trodVars_none hV
  have hsz : (DataW.weightsEach Tryd.prog fn.params.toList ds).all (· ≤ reachBytes) = true := by
    have h := hsz0
    rw [show spec.plain.varTypes Tryd.checked.prog = [] from by simp [ChangeSpec.plain, DataSpec.varTypes, hvars], List.append_nil, List.append_nil] at h
    exact h
  rw [List.append_nil] at hfz
  refine (hc H enc W base args ds p hval hA hsz hfz hL).mono fun e W' ⟨he, bel⟩ => ?_
  subst he
  have hlen := trodAll_len _ _ _ _ hA
  have hs := hspec H ds (hlen.trans hk)
  refine ⟨_, rfl, ds, [], _, [], p, [], hW', ?_, ?_, ?_, bel.frame _, fun h => by cases h⟩
  · rw [List.append_nil, hs, hres]
    exact trodAll_mk1 (shut_bool hb _)
  · rw [List.append_nil, hs]
    exact trodAll_below bel _ _ _ _ hts hA
  · rw [List.append_nil, hs, hvars]; rfl
end Go.Proofs.YtbjjpplhnibjdaaDoor
