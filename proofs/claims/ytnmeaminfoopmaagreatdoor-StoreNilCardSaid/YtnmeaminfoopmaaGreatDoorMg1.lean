/- Small laws over any program: two arrays held against each other, and the like. -/
import Derived.WalkKit
import Derived.WalkSpells
import Derived.WalkLawsBesides
import Derived.Lib.Hide
import Derived.Deep.QuietTactic
import Derived.Laws.OwnMore
import Derived.Lib.AppendStr
namespace Go.Proofs.YtnmeaminfoopmaaGreatDoor.Base
open Go

section
variable {P : Program}

theorem run_part (w : World) {e : TypeId} (ha : (isAgg e).run P w = .ok false w) {xs : Array Value} {k : Nat} {x : Value} (hx : xs[k]? = some x) : (part e xs k).run P w = .ok x w := by
  unfold part
  simp only [Sem.run_bind, ha, Result.andThen_ok, Bool.false_eq_true, if_false, hx, Sem.run_pure]

/-- Two arrays of elements of one cell: element by element. -/
theorem run_equalIn_array (w : World) (d : Nat) {t e : TypeId} {n : Nat} {i : TypeInfo} (ht : P.underlying t = some (.array n e)) (hi : P.info? e = some i) (hsz : i.size = 1)
    (ha : (isAgg e).run P w = .ok false w) (xs ys : Array Value) (b : Nat → Bool)
    (hb : ∀ k, k < n → ∃ x y, xs[k]? = some x ∧ ys[k]? = some y ∧ (Op.equalIn d e x y).run P w = .ok (b k) w) :
    (Op.equalIn (d + 1) t (.agg xs) (.agg ys)).run P w = .ok ((List.range n).all b) w := by
  have hsize : (sizeOf e).run P w = .ok 1 w := by simp [sizeOf, typeInfo, hi, hsz]
  simp only [Op.equalIn, Sem.run_bind, run_underlying ht, Result.andThen_ok, hsize, Std.Legacy.Range.forIn_eq_forIn_range', Nat.mul_one]
  have key : ∀ l : List Nat, (∀ k ∈ l, k < n) →
      ((forIn l ((none, ()) : Option Bool × Unit) fun i r => do
          let a ← part e xs i
          let a_1 ← part e ys i
          let a ← Op.equalIn d e a a_1
          if (!a) = true then pure (ForInStep.done (some false, ())) else pure (ForInStep.yield (none, ()))) : Sem _).run P w = .ok (if l.all b then (none, ()) else (some false, ())) w := by
    intro l
    induction l with
    | nil => intro _; simp
    | cons k l ih =>
      intro hl
      obtain ⟨x, y, hx, hy, he⟩ := hb k (hl k (by simp))
      simp only [List.forIn_cons, Sem.run_bind, run_part w ha hx, run_part w ha hy, he, Result.andThen_ok, List.all_cons]
      by_cases hbk : b k = true
      · simp only [hbk, Bool.not_true, Bool.false_eq_true, if_false, Sem.run_pure, Result.andThen_ok, Bool.true_and]
        exact ih (fun k h => hl k (by simp [h]))
      · have hbf : b k = false := by simpa using hbk
        simp only [hbf, Bool.not_false, if_true, Sem.run_pure, Result.andThen_ok, Bool.false_and, Bool.false_eq_true, if_false]
  have hl : List.range' 0 n = List.range n := (List.range_eq_range').symm
  have hsz2 : [:n].size = n := by simp [Std.Legacy.Range.size]
  rw [hsz2, hl, key _ (fun k hk => List.mem_range.1 hk)]
  cases (List.range n).all b <;> simp

theorem isAgg_int (w : World) {e : TypeId} {k : IntKind} (h : P.underlying e = some (.int k)) : (isAgg e).run P w = .ok false w := by simp [isAgg, run_underlying h]
theorem isAgg_string (w : World) {e : TypeId} (h : P.underlying e = some .string) : (isAgg e).run P w = .ok false w := by simp [isAgg, run_underlying h]

/-- '==' on two arrays of integers. -/
theorem run_eql_ints (w : World) {t e : TypeId} {n : Nat} {k : IntKind} (ht : P.underlying t = some (.array n e)) (hi0 : (P.info? e).map (·.size) = some 1)
    (he : P.underlying e = some (.int k)) (xs ys : List Int) (hx : xs.length = n) (hy : ys.length = n) :
    (Op.equalIn 10000 t (.agg (xs.map (Value.int k)).toArray) (.agg (ys.map (Value.int k)).toArray)).run P w = .ok (decide (xs = ys)) w := by
  obtain ⟨i, hi, hsz⟩ := Option.map_eq_some_iff.1 hi0
  have h := run_equalIn_array w 9999 ht hi hsz (isAgg_int w he) (xs.map (Value.int k)).toArray (ys.map (Value.int k)).toArray (fun j => xs[j]! == ys[j]!) ?_
  · rw [h]
    congr 1
    rw [Bool.eq_iff_iff, List.all_eq_true, decide_eq_true_iff]
    constructor
    · intro g
      refine List.ext_getElem (hx.trans hy.symm) fun j h1 h2 => ?_
      have := g j (List.mem_range.2 (by omega))
      simpa [h1, h2] using this
    · intro g j hj
      rw [g]; simp
  · intro j hj
    refine ⟨.int k xs[j]!, .int k ys[j]!, ?_, ?_, ?_⟩
    · simp [show j < xs.length from by omega]
    · simp [show j < ys.length from by omega]
    · exact run_equalIn_int w _ e k k _ _ he
end

/-! ### 'Below' from a world's own size on: no side condition -/
open Go.RowKit
theorem al {a w : World} (h : Below a.heap.size a w) (o : Obj) : Below a.heap.size a (w.alloc o) := h.alloc h.size o
theorem dr {a w : World} (h : Below a.heap.size a w) : Below a.heap.size a w.drew := h.drew
theorem dn {a w : World} (h : Below a.heap.size a w) (n : Nat) : Below a.heap.size a (w.drewN n) := h.trans ⟨rfl, rfl, rfl, Nat.le_refl _, fun _ _ => rfl⟩
theorem tr {a w v : World} (h : Below a.heap.size a w) (g : Below w.heap.size w v) : Below a.heap.size a v := h.trans (g.mono h.size)
theorem trb {a w v : World} {B : Nat} (h : Below a.heap.size a w) (g : Below B w v) (hB : a.heap.size ≤ B) : Below a.heap.size a v := h.trans (g.mono hB)
theorem gr {a w v : World} {row : Option Nat} (h : Below a.heap.size a w) (hg : w.grownBy v row) (hr : ∀ k, row = some k → a.heap.size ≤ k) : Below a.heap.size a v := h.grown hg h.size hr
end Go.Proofs.YtnmeaminfoopmaaGreatDoor.Base

/- Words for slices in memory: a slice that reads as a list of rows. -/
namespace Go.Proofs.YtnmeaminfoopmaaGreatDoor
open Go.RowKit

/-- The slice value v reads, in w, as the rows xs, each of k cells. -/
def Sl (w : World) (k : Nat) (v : Value) (xs : List (List Value)) : Prop :=
  ∃ A cap, v = .slice A xs.length cap ∧ xs.length ≤ cap ∧ cap ≤ maxLen ∧ (A = none → cap = 0) ∧
    (0 < xs.length → ∃ b off, A = some ⟨b, off, none⟩ ∧ b < w.heap.size ∧ ∀ i x, xs[i]? = some x → x.length = k ∧ ∀ j u, x[j]? = some u → w.cell? ⟨b, off + i * k + j, none⟩ = some u)

theorem Sl.nil (w : World) (k : Nat) : Sl w k (.slice none 0 0) [] := ⟨none, 0, rfl, Nat.le_refl _, by decide, fun _ => rfl, fun h => absurd h (by decide)⟩

/-- .. in a world where what was there is as it was. -/
theorem Sl.below {w w' : World} {k : Nat} {v : Value} {xs : List (List Value)} (h : Sl w k v xs) (hb : Below w.heap.size w w') : Sl w' k v xs := by
  obtain ⟨A, cap, hv, hl, hm, hn, hc⟩ := h
  refine ⟨A, cap, hv, hl, hm, hn, fun h0 => ?_⟩
  obtain ⟨b, off, hA, hlt, hx⟩ := hc h0
  refine ⟨b, off, hA, Nat.lt_of_lt_of_le hlt hb.size, fun i x hi => ⟨(hx i x hi).1, fun j u hj => ?_⟩⟩
  rw [hb.cell (p := ⟨b, off + i * k + j, none⟩) hlt]
  exact (hx i x hi).2 j u hj
theorem Sl.len {w : World} {k : Nat} {A : Option Addr} {n cap : Nat} {xs : List (List Value)} (h : Sl w k (.slice A n cap) xs) : n = xs.length := by
  obtain ⟨_, _, hv, _⟩ := h; injection hv
theorem Sl.max {w : World} {k : Nat} {v : Value} {xs : List (List Value)} (h : Sl w k v xs) : xs.length ≤ maxLen := by
  obtain ⟨A, cap, _, hl, hm, _⟩ := h; omega

/-- An element of a slice that is not empty: where it stands. -/
theorem Sl.at {w : World} {k : Nat} {A : Option Addr} {n cap : Nat} {xs : List (List Value)} (h : Sl w k (.slice A n cap) xs) (hn : 0 < n) :
    ∃ b off, A = some ⟨b, off, none⟩ ∧ b < w.heap.size ∧ ∀ i x, xs[i]? = some x → x.length = k ∧ ∀ j u, x[j]? = some u → w.cell? ⟨b, off + i * k + j, none⟩ = some u := by
  obtain ⟨A', cap', hv, hl, hm, hn', hc⟩ := h
  injection hv with h1 h2 h3
  subst h1; subst h2
  exact hc hn

theorem block_add (a : Addr) (n : Nat) : (a.add n).block = a.block := by unfold Addr.add; split <;> rfl
/-- The cells of a block just made. -/
theorem news_of (w : World) (cs : List Value) (t : TypeId) : ∀ j u, cs[j]? = some u → (w.alloc (.cells cs.toArray t)).cell? ((⟨w.heap.size, 0, none⟩ : Addr).add j) = some u := by
  intro j u hj
  have hadd : (⟨w.heap.size, 0, none⟩ : Addr).add j = ⟨w.heap.size, j, none⟩ := by unfold Addr.add; split <;> simp_all
  rw [hadd, cell_of_row _ w.heap.size j cs.toArray t (0, 0) (heap_alloc_new w _)]
  simpa using hj

/-- An owned row, in a world where what was there is as it was. -/
theorem own_below {w w' : World} {base : Nat} {e : TypeId} {size : Nat} {v : Value} {n : Nat} {xs : List Value} (h : w.ownsRow base e size v n xs) (hb : Below w.heap.size w w') : w'.ownsRow base e size v n xs := by
  refine ⟨h.1, ?_⟩
  rcases h.2 with hn | ⟨g, cap, cur, rfl, hbg, hgg, rest⟩
  · exact .inl hn
  · refine .inr ⟨g, cap, cur, rfl, hbg, ?_, rest⟩
    rw [hb.block g (Array.getElem?_eq_some_iff.1 hgg).1]
    exact hgg
/-- The base of an owned row may be lowered. -/
theorem own_base {w : World} {base B : Nat} {e : TypeId} {size : Nat} {v : Value} {n : Nat} {xs : List Value} (h : w.ownsRow base e size v n xs) (hB : B ≤ base) : w.ownsRow B e size v n xs := by
  refine ⟨h.1, ?_⟩
  rcases h.2 with hn | ⟨g, cap, cur, rfl, hbg, rest⟩
  · exact .inl hn
  · exact .inr ⟨g, cap, cur, rfl, Nat.le_trans hB hbg, rest⟩

/-- An owned row of elements of one cell, read as a slice. -/
theorem own_Sl {w : World} {base : Nat} {e : TypeId} {v : Value} {xs : List Value} (h : w.ownsRow base e 1 v xs.length xs) : Sl w 1 v (xs.map fun x => [x]) := by
  rcases h.2 with ⟨rfl, hn⟩ | ⟨g, cap, cur, rfl, hbg, hgg, hnc, hcm, hcs, htake⟩
  · have : xs = [] := List.eq_nil_of_length_eq_zero hn
    subst this
    exact Sl.nil w 1
  · refine ⟨some ⟨g, 0, none⟩, cap, by rw [List.length_map], by rw [List.length_map]; exact hnc, hcm, (fun h => by cases h), fun _ => ⟨g, 0, rfl, (Array.getElem?_eq_some_iff.1 hgg).1, ?_⟩⟩
    intro i x hi
    rw [List.getElem?_map, Option.map_eq_some_iff] at hi
    obtain ⟨u, hu, rfl⟩ := hi
    refine ⟨rfl, fun j u' hj => ?_⟩
    have hj0 : j = 0 := by
      have := List.getElem?_eq_some_iff.1 hj
      obtain ⟨hl, _⟩ := this
      simp at hl; omega
    subst hj0
    simp at hj
    subst hj
    have := h.cells (g := g) rfl i u hu
    simpa [Addr.add_lit] using this

/-- A slice of integers reads as xs. -/
abbrev Ints (w : World) (v : Value) (xs : List Int) : Prop := Sl w 1 v (xs.map fun n => [Value.int .i64 n])
theorem Ints.cell {w : World} {A : Option Addr} {n cap : Nat} {xs : List Int} (h : Ints w (.slice A n cap) xs) {k : Nat} (hk : k < xs.length) :
    ∃ b off, A = some ⟨b, off, none⟩ ∧ b < w.heap.size ∧ ∀ i (hi : i < xs.length), w.cell? ⟨b, off + i, none⟩ = some (.int .i64 xs[i]) := by
  have hn := h.len
  rw [List.length_map] at hn
  obtain ⟨b, off, hA, hb, hx⟩ := Sl.at h (by omega)
  refine ⟨b, off, hA, hb, fun i hi => ?_⟩
  have := (hx i [.int .i64 xs[i]] (by simp [hi])).2 0 _ rfl
  simpa using this

/-! ### Stores into a known block -/
theorem heap_setCell {w : World} {g : Nat} {cur : Array Value} {t : TypeId} {fr : Nat × Nat} (h : w.heap[g]? = some (.cells cur t fr)) (o : Nat) (u : Value) :
    (w.setCell ⟨g, o, none⟩ u).heap[g]? = some (.cells (cur.setIfInBounds o u) t fr) := by
  have hlt := (Array.getElem?_eq_some_iff.1 h).1
  simp only [World.setCell, Array.getElem?_modify, if_true, h, Option.map_some]
  simp
theorem grown_refl (w : World) (row : Option Nat) : w.grownBy w row := ⟨rfl, rfl, rfl, Nat.le_refl _, fun _ _ _ => rfl⟩
theorem grown_below {w v u : World} {row : Option Nat} (h : w.grownBy v row) (hb : Below v.heap.size v u) : w.grownBy u row :=
  ⟨hb.os.trans h.os, hb.tape.trans h.tape, hb.output.trans h.output, Nat.le_trans h.size hb.size, fun k hk hr => (hb.block k (Nat.lt_of_lt_of_le hk h.size)).trans (h.block k hk hr)⟩
theorem grown_of_below {w v : World} (row : Option Nat) (hb : Below w.heap.size w v) : w.grownBy v row := ⟨hb.os, hb.tape, hb.output, hb.size, fun k hk _ => hb.block k hk⟩
theorem grown_setCell {w v : World} {g : Nat} (h : w.grownBy v (some g)) (o : Nat) (u : Value) : w.grownBy (v.setCell ⟨g, o, none⟩ u) (some g) :=
  ⟨h.os, h.tape, h.output, by simpa [World.setCell] using h.size, fun k hk hr => (Below.heap_setCell _ _ _ _ (fun e => hr (by rw [e]))).trans (h.block k hk hr)⟩
theorem grown_setRow {w v : World} {g : Nat} (h : w.grownBy v (some g)) (cs : Array Value) : w.grownBy (v.setRow g cs) (some g) :=
  ⟨h.os, h.tape, h.output, by simpa using h.size, fun k hk hr => (setRow_other _ _ _ _ (fun e => hr (by rw [e]))).trans (h.block k hk hr)⟩
theorem cell_blk {w : World} {g : Nat} {cur : Array Value} {t : TypeId} {fr : Nat × Nat} (h : w.heap[g]? = some (.cells cur t fr)) (o : Nat) : w.cell? ⟨g, o, none⟩ = cur[o]? := cell_of_row w g o cur t fr h
theorem frozen_blk {w : World} {g : Nat} {cur : Array Value} {t : TypeId} (h : w.heap[g]? = some (.cells cur t (0, 0))) (o : Nat) : w.frozen? ⟨g, o, none⟩ = false := by simp [World.frozen?, h]

/-- 'clear' of a piece of a known block, elements of one cell. -/
theorem run_clear_row {P : Program} (w : World) {t e ty : TypeId} {z : Value} (ht : P.underlying t = some (.slice e)) (hv : (zeroValue e).run P w = .ok z w) (hz : z.cells = #[z]) (h1 : z.oneCell' = true)
    {g o m c : Nat} {cur : Array Value} {el : TypeId} (hg : w.heap[g]? = some (.cells cur el (0, 0))) (hfit : o + m ≤ cur.size) :
    (Builtin.clear_ #[t] ty #[.slice (some ⟨g, o, none⟩) m c]).run P w = .ok (.tuple #[]) (w.setRow g (cur.toList.take o ++ List.replicate m z ++ cur.toList.drop (o + m)).toArray) := by
  cases m with
  | zero =>
    have : (w.setRow g (cur.toList.take o ++ List.replicate 0 z ++ cur.toList.drop (o + 0)).toArray) = w := by
      simp only [List.replicate_zero, List.append_nil, Nat.add_zero, List.take_append_drop, Array.toArray_toList]
      exact setRow_self w g cur el (0, 0) hg
    rw [this]
    simp [Builtin.clear_, run_underlying ht]
  | succ m =>
    have hzc : (Builtin.zeroCells #[z] (m + 1)).toList = List.replicate (m + 1) z := by
      simp [Builtin.zeroCells]
      apply List.ext_getElem
      · simp
      · intro i h1 h2
        simp [Nat.mod_one]
    have hst := run_storeCells_at P g o el (List.replicate (m + 1) z) 0 cur w hg (by simpa using hfit) (fun v hv => by rw [(List.mem_replicate.1 hv).2]; exact h1)
    simp only [Nat.add_zero, List.length_replicate] at hst
    simp [Builtin.clear_, run_underlying ht, hv, hz, hzc, hst]
end Go.Proofs.YtnmeaminfoopmaaGreatDoor

/- A region that draws its order, whose operations read, whose callees may make memory of their own: walked once, in the class 'nothing below the end has changed'. -/
namespace Go.Proofs.YtnmeaminfoopmaaGreatDoor
open Go.RowKit

/-- A world in which nothing of w's has changed. -/
structure OnOf (w : World) where
  v : World
  h : Below w.heap.size w v

instance (w : World) : Nonempty (OnOf w) := ⟨⟨w, Below.refl _ _⟩⟩
instance (w : World) : Inhabited (OnOf w) := ⟨⟨w, Below.refl _ _⟩⟩

theorem wp_region_quiet_on {P : Program} {id : Nat} {Q : Exit → Act → World → Prop} {a : Act} {w : World} {l : List Oper} (hm : P.follows .mixedOrders = true) (hB : Region.lexB .any l.toArray = true)
    (h : wpQuiet P l.toArray (fun w' => ∃ p : OnOf w, w' = p.v) (fun a' => ∀ w', (∃ p : OnOf w, w' = p.v) → Q .normal a' w') l a) : (Code.region id l.toArray true).wp P Q a w :=
  wp_region_quiet (C := fun w' => ∃ p : OnOf w, w' = p.v) hm hB ⟨⟨_, Base.dr (Below.refl _ _)⟩, rfl⟩ (by simpa using h)

theorem on_cell {w : World} {a : Addr} {v : Value} (hb : a.block < w.heap.size) (h : w.cell? a = some v) (p : OnOf w) : p.v.cell? a = some v := by
  rw [p.h.cell hb]; exact h

/-- A callee's contract, met in a world of the class. -/
theorem on_of {P : Program} {f : FuncId} {args : Array Value} {w : World} {p : OnOf w} {v : Value}
    (h : Calls P f args p.v fun e w' => e = .returned v ∧ Below p.v.heap.size p.v w') : Calls P f args p.v fun e w'' => e = .returned v ∧ ∃ q : OnOf w, w'' = q.v :=
  h.mono fun _ _ ⟨he, hb⟩ => ⟨he, ⟨_, Base.tr p.h hb⟩, rfl⟩
/-- .. of a callee that changes nothing. -/
theorem on_of_same {P : Program} {f : FuncId} {args : Array Value} {w : World} {p : OnOf w} {v : Value}
    (h : Calls P f args p.v fun e w' => e = .returned v ∧ w' = p.v) : Calls P f args p.v fun e w'' => e = .returned v ∧ ∃ q : OnOf w, w'' = q.v :=
  h.mono fun _ _ ⟨he, hb⟩ => ⟨he, p, hb⟩

end Go.Proofs.YtnmeaminfoopmaaGreatDoor

/- Numbers as bytes, the greatest first (the plain part of packing). -/
namespace Go.Proofs.YtnmeaminfoopmaaGreatDoor
open Go.RowKit

/-- The low n bytes of x, the greatest first. -/
def be : Nat → Nat → List Nat
  | 0, _ => []
  | n + 1, x => (x / 256 ^ n % 256) :: be n x
/-- .. the least first. -/
def le : Nat → Nat → List Nat
  | 0, _ => []
  | n + 1, x => le n x ++ [x / 256 ^ n % 256]
theorem be_len : ∀ n x, (be n x).length = n
  | 0, _ => rfl
  | n + 1, x => by rw [be, List.length_cons, be_len]
theorem le_rev : ∀ n x, (le n x).reverse = be n x
  | 0, _ => rfl
  | n + 1, x => by rw [le, be, List.reverse_append, le_rev]; rfl
theorem le_len (n x : Nat) : (le n x).length = n := by rw [← List.length_reverse, le_rev, be_len]
theorem be_lt : ∀ n x, ∀ b ∈ be n x, b < 256
  | 0, _, b, h => by cases h
  | n + 1, x, b, h => by
    rcases List.mem_cons.1 h with rfl | h
    · omega
    · exact be_lt n x b h

/-- The number that bytes are. -/
def beVal (l : List Nat) : Nat := l.foldl (fun a c => a * 256 + c) 0
theorem beVal_snoc (l : List Nat) (c : Nat) : beVal (l ++ [c]) = beVal l * 256 + c := by unfold beVal; rw [List.foldl_append]; rfl
theorem foldl_be (l : List Nat) : ∀ a, l.foldl (fun a c => a * 256 + c) a = a * 256 ^ l.length + beVal l := by
  induction l with
  | nil => intro a; simp [beVal]
  | cons c l ih =>
    intro a
    unfold beVal
    rw [List.foldl_cons, List.foldl_cons, ih, ih (0 * 256 + c), List.length_cons, Nat.pow_succ]
    rw [Nat.add_mul, Nat.zero_mul, Nat.zero_add, Nat.mul_assoc, Nat.mul_comm 256 (256 ^ l.length)]
    omega
theorem beVal_cons (c : Nat) (l : List Nat) : beVal (c :: l) = c * 256 ^ l.length + beVal l := by
  show (c :: l).foldl (fun a c => a * 256 + c) 0 = _
  rw [List.foldl_cons, foldl_be, Nat.zero_mul, Nat.zero_add]
theorem beVal_lt : ∀ l : List Nat, (∀ b ∈ l, b < 256) → beVal l < 256 ^ l.length
  | [], _ => by simp [beVal]
  | c :: l, h => by
    have h1 := beVal_lt l (fun b hb => h b (List.mem_cons_of_mem _ hb))
    have h2 := h c (by simp)
    have h3 : c * 256 ^ l.length ≤ 255 * 256 ^ l.length := Nat.mul_le_mul_right _ (by omega)
    rw [beVal_cons, List.length_cons, Nat.pow_succ]
    omega
theorem beVal_be : ∀ n x, beVal (be n x) = x % 256 ^ n
  | 0, x => by simp [be, beVal, Nat.mod_one]
  | n + 1, x => by
    rw [be, beVal_cons, be_len, beVal_be n x, Nat.pow_succ, Nat.mod_mul, Nat.mul_comm]
    omega
theorem be_mod : ∀ n x k, n ≤ k → be n (x % 256 ^ k) = be n x
  | 0, _, _, _ => rfl
  | n + 1, x, k, h => by
    rw [be, be, be_mod n x k (by omega)]
    congr 1
    have e : 256 ^ k = 256 ^ n * (256 * 256 ^ (k - n - 1)) := by
      rw [← Nat.mul_assoc, ← Nat.pow_succ, ← Nat.pow_add]; congr 1; omega
    rw [e, Nat.mod_mul_right_div_self, Nat.mod_mul_right_mod]
theorem be_beVal : ∀ l : List Nat, (∀ b ∈ l, b < 256) → be l.length (beVal l) = l
  | [], _ => rfl
  | c :: l, h => by
    have h1 : ∀ b ∈ l, b < 256 := fun b hb => h b (List.mem_cons_of_mem _ hb)
    have h2 := h c (by simp)
    have h3 := beVal_lt l h1
    have hp : 0 < 256 ^ l.length := by have : 0 < 256 := by decide
                                       exact Nat.pow_pos this
    rw [List.length_cons, be, beVal_cons]
    congr 1
    · rw [Nat.mul_comm, Nat.mul_add_div hp, Nat.div_eq_of_lt h3]; omega
    · rw [← be_mod l.length _ l.length (Nat.le_refl _), Nat.mul_comm, Nat.mul_add_mod, Nat.mod_eq_of_lt h3]
      exact be_beVal l h1

/-- What pack.Put's row is behind i rounds. -/
def putRow (l : List Nat) (n x i : Nat) : List Nat := l ++ (List.replicate (n - i) 0 ++ be i x)
theorem putRow_len (l : List Nat) (n x i : Nat) (h : i ≤ n) : (putRow l n x i).length = l.length + n := by
  unfold putRow; rw [List.length_append, List.length_append, List.length_replicate, be_len]; omega
theorem putRow_set (l : List Nat) (n x i : Nat) (h : i < n) : (putRow l n x i).set (l.length + n - 1 - i) (x / 256 ^ i % 256) = putRow l n x (i + 1) := by
  unfold putRow
  obtain ⟨m, hm⟩ : ∃ m, n - i = m + 1 := ⟨n - i - 1, by omega⟩
  rw [hm, show n - (i + 1) = m by omega, List.set_append_right _ _ (by omega), show l.length + n - 1 - i - l.length = m by omega]
  rw [List.replicate_succ', List.append_assoc, List.set_append_right _ _ (by simp), List.length_replicate, Nat.sub_self]
  rfl
theorem putRow_end (l : List Nat) (n x : Nat) : putRow l n x n = l ++ be n x := by unfold putRow; rw [Nat.sub_self]; rfl
end Go.Proofs.YtnmeaminfoopmaaGreatDoor

/- Numbers and texts read from bytes, and put back (the plain part). -/
namespace Go.Proofs.YtnmeaminfoopmaaGreatDoor
open Go.RowKit

/-- A number of n bytes at a: the number, behind it, the error. -/
def pGet (l : List Nat) (a n : Nat) : Nat × Nat × Nat := if l.length < a + n then (0, 0, 3) else (beVal ((l.drop a).take n), a + n, 0)
/-- A text at a. -/
def pText (l : List Nat) (a most : Nat) : List Nat × Nat × Nat :=
  if l.length < a + 1 then ([], 0, 3) else if most < l.getD a 0 then ([], 0, 4) else if l.length < a + 1 + l.getD a 0 then ([], 0, 3) else ((l.drop (a + 1)).take (l.getD a 0), a + 1 + l.getD a 0, 0)

theorem pGet_back {l : List Nat} (hl : ∀ b ∈ l, b < 256) {a n x e : Nat} (h : pGet l a n = (x, e, 0)) : e = a + n ∧ e ≤ l.length ∧ l.drop a = be n x ++ l.drop e := by
  unfold pGet at h
  split at h
  · simp at h
  · rename_i hlt
    simp only [Prod.mk.injEq, and_true] at h
    obtain ⟨rfl, rfl⟩ := h
    refine ⟨rfl, by omega, ?_⟩
    have hk : ((l.drop a).take n).length = n := by rw [List.length_take, List.length_drop]; omega
    have := be_beVal ((l.drop a).take n) (fun b hb => hl b (List.mem_of_mem_drop (List.mem_of_mem_take hb)))
    rw [hk] at this
    rw [this, ← List.drop_drop, List.take_append_drop]
theorem pGet_put {l r : List Nat} {a n x : Nat} (h : l.drop a = be n x ++ r) (ha : a ≤ l.length) (hx : x < 256 ^ n) : pGet l a n = (x, a + n, 0) ∧ l.drop (a + n) = r ∧ a + n ≤ l.length := by
  have hlen := congrArg List.length h
  rw [List.length_drop, List.length_append, be_len] at hlen
  unfold pGet
  rw [if_neg (by omega), h, List.take_left' (be_len n x), beVal_be, Nat.mod_eq_of_lt hx]
  refine ⟨rfl, ?_, by omega⟩
  rw [← List.drop_drop, h, List.drop_left' (be_len n x)]
theorem pText_back {l t : List Nat} {a most e : Nat} (h : pText l a most = (t, e, 0)) : e = a + 1 + t.length ∧ e ≤ l.length ∧ t.length ≤ most ∧ l.drop a = t.length :: (t ++ l.drop e) := by
  unfold pText at h
  split at h
  · simp at h
  · rename_i h1
    split at h
    · simp at h
    · rename_i h2
      split at h
      · simp at h
      · rename_i h3
        simp only [Prod.mk.injEq, and_true] at h
        obtain ⟨rfl, rfl⟩ := h
        have hk : ((l.drop (a + 1)).take (l.getD a 0)).length = l.getD a 0 := by rw [List.length_take, List.length_drop]; omega
        have hg : l.getD a 0 = l[a] := by rw [List.getD_eq_getElem?_getD, List.getElem?_eq_getElem (by omega)]; rfl
        refine ⟨by rw [hk], by omega, by rw [hk]; omega, ?_⟩
        have hd : l.drop (a + 1 + l.getD a 0) = (l.drop (a + 1)).drop (l.getD a 0) := List.drop_drop.symm
        rw [hk, hd, List.take_append_drop, hg]
        exact List.drop_eq_getElem_cons (by omega)
theorem pText_put {l t r : List Nat} {a most : Nat} (h : l.drop a = t.length :: (t ++ r)) (ha : a ≤ l.length) (ht : t.length ≤ most) : pText l a most = (t, a + 1 + t.length, 0) ∧ l.drop (a + 1 + t.length) = r ∧ a + 1 + t.length ≤ l.length := by
  have hlen := congrArg List.length h
  rw [List.length_drop, List.length_cons, List.length_append] at hlen
  have hlt : a < l.length := by omega
  have h1 : l[a] :: l.drop (a + 1) = t.length :: (t ++ r) := by rw [← h]; exact (List.drop_eq_getElem_cons hlt).symm
  injection h1 with h2 h3
  have hg : l.getD a 0 = t.length := by rw [List.getD_eq_getElem?_getD, List.getElem?_eq_getElem hlt]; exact h2
  unfold pText
  rw [hg, if_neg (by omega), if_neg (by omega), if_neg (by omega), h3, List.take_left' rfl]
  refine ⟨rfl, ?_, by omega⟩
  have hd : l.drop (a + 1 + t.length) = (l.drop (a + 1)).drop t.length := List.drop_drop.symm
  rw [hd, h3, List.drop_left' rfl]
end Go.Proofs.YtnmeaminfoopmaaGreatDoor

/- An append on a row of one's own: the block it lies in behind it is the old one, or new. -/
namespace Go.Proofs.YtnmeaminfoopmaaGreatDoor
open Go.RowKit

theorem append_block {P : Program} {w : World} (base : Nat) (t ty e : TypeId) (i : TypeInfo) (z : Value) (size bytes : Nat) (ht : P.underlying t = some (.slice e)) (hi : P.info? e = some i) (hz : i.zero = some z)
    (hsize : i.size = size) (hby : i.bytes = bytes)
    (v : Value) (n : Nat) (xs : List Value) (hown : w.ownsRow base e size v n xs)
    (a : Addr) (m c : Nat) (news : List Value) (hl : news.length = m * size) (hnews : ∀ j u, news[j]? = some u → w.cell? (a.add j) = some u) (h1 : ∀ u ∈ news, u.oneCell' = true)
    (h63 : n + m ≤ maxLen) (hbytes : (n + m) * bytes ≤ 140737488355328)
    (v' : Value) (w' : World) (hr : (Builtin.append_ #[t, t] ty #[v, .slice (some a) m c]).run P w = .ok v' w') : v'.ownBlock = v.ownBlock ∨ v'.ownBlock = some w.heap.size := by
  subst hsize
  subst hby
  have hsmall : n + m ≤ 9223372036854775807 := by simp only [maxLen] at h63; omega
  rcases hown.2 with ⟨rfl, rfl⟩ | ⟨g, cap, cur, rfl, hbg, hg, hnc, hcm, hcs, htake⟩
  · by_cases hm : m = 0
    · subst hm
      have : (Builtin.append_ #[t, t] ty #[.slice none 0 0, .slice (some a) 0 c]).run P w = .ok (.slice none 0 0) w := by
        simp [Builtin.append_, run_underlying ht, sizeOf, typeInfo, hi, Builtin.lenOf, Builtin.firstCells, loadCells, loadCellsFrom]
      rw [this] at hr
      injection hr with h1 h2
      subst h1
      exact .inl rfl
    · rw [run_append_nil (P := P) w t ty e i z ht hi hz a m c news hl hnews (by omega) (by omega) (by have hb := hbytes; simp only [Nat.zero_add] at hb; omega)] at hr
      injection hr with h1 h2
      subst h1
      exact .inr rfl
  · by_cases hroom : n + m ≤ cap
    · obtain ⟨w2, hw2, _⟩ := run_append_fits (P := P) w base t ty e i i.size ht hi rfl g n cap xs hown a m c news hl hnews h1 hroom
      rw [hw2] at hr
      injection hr with h1 h2
      subst h1
      exact .inl rfl
    · have holds : ∀ j u, xs[j]? = some u → w.cell? ((⟨g, 0, none⟩ : Addr).add j) = some u := hown.cells (g := g) rfl
      rw [run_append_grow (P := P) w t ty e i z ht hi hz ⟨g, 0, none⟩ n cap xs hown.1 holds a m c news hl hnews (by omega) (by omega) (growslice_fits (by omega) hbytes)] at hr
      injection hr with h1 h2
      subst h1
      exact .inr rfl

/-- As wpList_append_own; and the block that the row lies in behind it. -/
theorem wpList_append_apart {P : Program} (w : World) {ops : Array Oper} {rest : List Oper} {o : Oper} {a : Act} {Q : Exit → Act → World → Prop} (hgd : o.guard = none) (s x : Operand) (t : TypeId)
    (ho : o.op = .call { callee := .builtin .append, args := #[s, x], argTypes := #[t, t] })
    (base : Nat) (e : TypeId) (i : TypeInfo) (z : Value) (size bytes : Nat) (ht : P.underlying t = some (.slice e)) (hi : P.info? e = some i) (hz : i.zero = some z)
    (hsize : i.size = size) (hby : i.bytes = bytes) (hzs : z.cells.size = size) (hsz : 0 < size)
    (v : Value) (n : Nat) (xs : List Value) (hs : a.eval s = v) (hown : w.ownsRow base e size v n xs)
    (ad : Addr) (m c : Nat) (news : List Value) (hx : a.eval x = .slice (some ad) m c) (hl : news.length = m * size) (hnews : ∀ j u, news[j]? = some u → w.cell? (ad.add j) = some u) (h1 : ∀ u ∈ news, u.oneCell' = true)
    (h63 : n + m ≤ maxLen) (hbytes : (n + m) * bytes ≤ 140737488355328) (hbase : base ≤ w.heap.size)
    (h : ∀ v' w', w'.ownsRow base e size v' (n + m) (xs ++ news) → w.grownBy w' v.ownBlock → (v'.ownBlock = v.ownBlock ∨ v'.ownBlock = some w.heap.size) → wpList P ops Q rest (a.put o.dst v') w') : wpList P ops Q (o :: rest) a w := by
  refine wpList_plain hgd fun K hK => ?_
  obtain ⟨v', w', hr, h2, h3, _⟩ := run_append_own (P := P) w base t o.type e i z size bytes ht hi hz hsize hby hzs hsz v n xs hown ad m c news hl hnews h1 h63 hbytes hbase
  have h5 := append_block base t o.type e i z size bytes ht hi hz hsize hby v n xs hown ad m c news hl hnews h1 h63 hbytes v' w' hr
  unfold Oper.wp execOp
  simp only [ho, resolve, invoke, builtin, Sem.run_bind, Sem.run_pure, Result.andThen_ok, List.map_toArray, List.map_cons, List.map_nil, hs, hx, hr]
  exact hK _ _ (h v' w' h2 h3 h5)
end Go.Proofs.YtnmeaminfoopmaaGreatDoor

