/- Small laws over any program: two arrays held against each other, and the like. -/
import Derived.WalkKit
import Derived.WalkSpells
import Derived.WalkLawsBesides
import Derived.Lib.Hide
namespace Go.Proofs.YtbjjpplhnibjdaaDoor.Base
open Go

section
variable {P : Program}

theorem run_part (w : World) {e : TypeId} (ha : (isAgg e).run P w = .ok false w) {xs : Array Value} {k : Nat} {x : Value} (hx : xs[k]? = some x) : (part e xs k).run P w = .ok x w := by
  unfold part
  simp only [Sem.run_bind, ha, Result.andThen_ok, Bool.false_eq_true, if_false, hx, Sem.run_pure]

/-- Two arrays of elements of one cell: element by element. -/
theorem run_equalIn_array (w : World) (d : Nat) {t e : TypeId} {n : Nat} {i : TypeInfo} (ht : P.underlying t = some (.array n e)) (hi : P.info? e = some i) (hsz : i.size = 1)
    (ha : (isAgg e).run P w = .ok false w) (xs ys : Array Value) (b : Nat → Bool)
    (hb : ∀ k, k < n → ∃ x y, xs[k]? = some x ∧ ys[k]? = some y ∧ (Op.equalIn d e x y).run P w = .ok (b k) w) :
    (Op.equalIn (d + 1) t (.agg xs) (.agg ys)).run P w = .ok ((List.range n).all b) w := by
  have hsize : (sizeOf e).run P w = .ok 1 w := by simp [sizeOf, typeInfo, hi, hsz]
  simp only [Op.equalIn, Sem.run_bind, run_underlying ht, Result.andThen_ok, hsize, Std.Legacy.Range.forIn_eq_forIn_range', Nat.mul_one]
  have key : ∀ l : List Nat, (∀ k ∈ l, k < n) →
      ((forIn l ((none, ()) : Option Bool × Unit) fun i r => do
          let a ← part e xs i
          let a_1 ← part e ys i
          let a ← Op.equalIn d e a a_1
          if (!a) = true then pure (ForInStep.done (some false, ())) else pure (ForInStep.yield (none, ()))) : Sem _).run P w = .ok (if l.all b then (none, ()) else (some false, ())) w := by
    intro l
    induction l with
    | nil => intro _; simp
    | cons k l ih =>
      intro hl
      obtain ⟨x, y, hx, hy, he⟩ := hb k (hl k (by simp))
      simp only [List.forIn_cons, Sem.run_bind, run_part w ha hx, run_part w ha hy, he, Result.andThen_ok, List.all_cons]
      by_cases hbk : b k = true
      · simp only [hbk, Bool.not_true, Bool.false_eq_true, if_false, Sem.run_pure, Result.andThen_ok, Bool.true_and]
        exact ih (fun k h => hl k (by simp [h]))
      · have hbf : b k = false := by simpa using hbk
        simp only [hbf, Bool.not_false, if_true, Sem.run_pure, Result.andThen_ok, Bool.false_and, Bool.false_eq_true, if_false]
  have hl : List.range' 0 n = List.range n := (List.range_eq_range').symm
  have hsz2 : [:n].size = n := by simp [Std.Legacy.Range.size]
  rw [hsz2, hl, key _ (fun k hk => List.mem_range.1 hk)]
  cases (List.range n).all b <;> simp

theorem isAgg_int (w : World) {e : TypeId} {k : IntKind} (h : P.underlying e = some (.int k)) : (isAgg e).run P w = .ok false w := by simp [isAgg, run_underlying h]
theorem isAgg_string (w : World) {e : TypeId} (h : P.underlying e = some .string) : (isAgg e).run P w = .ok false w := by simp [isAgg, run_underlying h]

/-- '==' on two arrays of integers. -/
theorem run_eql_ints (w : World) {t e : TypeId} {n : Nat} {k : IntKind} (ht : P.underlying t = some (.array n e)) (hi0 : (P.info? e).map (·.size) = some 1)
    (he : P.underlying e = some (.int k)) (xs ys : List Int) (hx : xs.length = n) (hy : ys.length = n) :
    (Op.equalIn 10000 t (.agg (xs.map (Value.int k)).toArray) (.agg (ys.map (Value.int k)).toArray)).run P w = .ok (decide (xs = ys)) w := by
  obtain ⟨i, hi, hsz⟩ := Option.map_eq_some_iff.1 hi0
  have h := run_equalIn_array w 9999 ht hi hsz (isAgg_int w he) (xs.map (Value.int k)).toArray (ys.map (Value.int k)).toArray (fun j => xs[j]! == ys[j]!) ?_
  · rw [h]
    congr 1
    rw [Bool.eq_iff_iff, List.all_eq_true, decide_eq_true_iff]
    constructor
    · intro g
      refine List.ext_getElem (hx.trans hy.symm) fun j h1 h2 => ?_
      have := g j (List.mem_range.2 (by omega))
      simpa [h1, h2] using this
    · intro g j hj
      rw [g]; simp
  · intro j hj
    refine ⟨.int k xs[j]!, .int k ys[j]!, ?_, ?_, ?_⟩
    · simp [show j < xs.length from by omega]
    · simp [show j < ys.length from by omega]
    · exact run_equalIn_int w _ e k k _ _ he
end

/-! ### 'Below' from a world's own size on: no side condition -/
open Go.RowKit
theorem al {a w : World} (h : Below a.heap.size a w) (o : Obj) : Below a.heap.size a (w.alloc o) := h.alloc h.size o
theorem dr {a w : World} (h : Below a.heap.size a w) : Below a.heap.size a w.drew := h.drew
theorem dn {a w : World} (h : Below a.heap.size a w) (n : Nat) : Below a.heap.size a (w.drewN n) := h.trans ⟨rfl, rfl, rfl, Nat.le_refl _, fun _ _ => rfl⟩
theorem tr {a w v : World} (h : Below a.heap.size a w) (g : Below w.heap.size w v) : Below a.heap.size a v := h.trans (g.mono h.size)
theorem trb {a w v : World} {B : Nat} (h : Below a.heap.size a w) (g : Below B w v) (hB : a.heap.size ≤ B) : Below a.heap.size a v := h.trans (g.mono hB)
theorem gr {a w v : World} {row : Option Nat} (h : Below a.heap.size a w) (hg : w.grownBy v row) (hr : ∀ k, row = some k → a.heap.size ≤ k) : Below a.heap.size a v := h.grown hg h.size hr
end Go.Proofs.YtbjjpplhnibjdaaDoor.Base
