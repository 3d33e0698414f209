/- ring.whole: is a ring whole? -/
import Derived.Test.YtbjjpplhnibjdaaDoorRingM
import Derived.Test.YtbjjpplhnibjdaaDoorItemEq
import Derived.Test.YtbjjpplhnibjdaaDoorMap
import Derived.Laws.MakeOwn
namespace Go.Proofs.YtbjjpplhnibjdaaDoor
open Go.RowKit Flo
attribute [local go_sem] run_store_complex

/-- An item that was found. -/
structure Found where
  at0 : Nat
  at1 : Nat
  size : Int
  settled : Bool
  item : Item
abbrev Found.row (f : Found) : List Value := [cx f.at0 f.at1, i64 f.size, .bool f.settled, .int .u64 f.item.seq, .int .u64 f.item.ver, i64 f.item.index, i64 f.item.count, cx f.item.a f.item.b, .bool f.item.gone, .string f.item.key, .string f.item.value]
instance : Inhabited Found := ⟨⟨0, 0, 0, false, ⟨0, 0, 0, 0, 0, 0, false, ByteArray.empty, ByteArray.empty⟩⟩⟩
abbrev Founds (w : World) (v : Value) (l : List Found) : Prop := Sl w 11 v (l.map Found.row)
theorem Founds.cell {w : World} {A : Option Addr} {n cap : Nat} {xs : List Found} (h : Founds w (.slice A n cap) xs) (hn : 0 < xs.length) :
    ∃ b off, A = some ⟨b, off, none⟩ ∧ b < w.heap.size ∧ ∀ k, k < xs.length → ∀ j u, (xs.getD k default).row[j]? = some u → w.cell? ⟨b, off + k * 11 + j, none⟩ = some u := by
  have hl := h.len
  rw [List.length_map] at hl
  obtain ⟨b, off, hA, hb, hx⟩ := h.at (by omega)
  exact ⟨b, off, hA, hb, fun k hk => (hx k (xs.getD k default).row (by simp [List.getD, hk])).2⟩

abbrev fd (l : List Found) (k : Nat) : Found := l.getD k default
/-- Where the items of the first k stand, by their index; none: it can't be. -/
def fillTo (l : List Found) : Nat → Option (Nat → Option Nat)
  | 0 => some fun _ => none
  | k + 1 => match fillTo l k with
    | none => none
    | some f => if (fd l k).item.count ≠ l.length ∨ (fd l k).item.index < 0 ∨ (l.length : Int) ≤ (fd l k).item.index ∨ (f (fd l k).item.index.toNat).isSome then none
      else some fun j => if j = (fd l k).item.index.toNat then some k else f j
noncomputable def linkB (l : List Found) (f : Nat → Option Nat) (k : Nat) : Bool := cxEq (fd l ((f k).getD 0)).item.a (fd l ((f k).getD 0)).item.b (fd l ((f ((k + 1) % l.length)).getD 0)).at0 (fd l ((f ((k + 1) % l.length)).getD 0)).at1
noncomputable def wholeB (l : List Found) : Bool := if (fd l 0).item.count ≠ l.length then false else match fillTo l l.length with
  | none => false
  | some f => (List.range l.length).all (linkB l f)

theorem fillTo_spec {l : List Found} : ∀ {k : Nat} {f : Nat → Option Nat}, fillTo l k = some f → (∀ j p, f j = some p → p < k ∧ j < l.length) ∧ (∀ p, p < k → 0 ≤ (fd l p).item.index ∧ (fd l p).item.index < l.length ∧ (fd l p).item.count = l.length ∧ f (fd l p).item.index.toNat = some p)
  | 0, f, h => by
    simp only [fillTo, Option.some.injEq] at h
    subst h
    exact ⟨by simp, by simp⟩
  | k + 1, f, h => by
    unfold fillTo at h
    cases hk : fillTo l k with
    | none => rw [hk] at h; cases h
    | some g =>
      rw [hk] at h
      obtain ⟨h1, h2⟩ := fillTo_spec hk
      simp only at h
      split at h
      · cases h
      · rename_i hc
        simp only [not_or, Decidable.not_not] at hc
        obtain ⟨c1, c2, c3, c4⟩ := hc
        injection h with h
        subst h
        refine ⟨fun j p hj => ?_, fun p hp => ?_⟩
        · simp only at hj
          split at hj
          · injection hj with hj; omega
          · have := h1 j p hj; omega
        · by_cases hpk : p = k
          · subst hpk
            exact ⟨by omega, by omega, c1, by simp⟩
          · obtain ⟨q1, q2, q3, q4⟩ := h2 p (by omega)
            refine ⟨q1, q2, q3, ?_⟩
            simp only
            rw [if_neg ?_, q4]
            intro he
            rw [← he, q4] at c4
            exact c4 rfl

theorem fillTo_none {l : List Found} {k : Nat} (h : fillTo l k = none) : ∀ m, k ≤ m → fillTo l m = none := by
  intro m hm
  induction m with
  | zero => have : k = 0 := by omega
            subst this; exact h
  | succ m ih =>
    by_cases hkm : k = m + 1
    · subst hkm; exact h
    · unfold fillTo; rw [ih (by omega)]
theorem nodup_le : ∀ (n : Nat) (l : List Nat), l.Nodup → (∀ x ∈ l, x < n) → l.length ≤ n
  | 0, l, _, h => by
    cases l with
    | nil => simp
    | cons x l => exact absurd (h x (by simp)) (by omega)
  | n + 1, l, hn, h => by
    have h1 := nodup_le n (l.filter fun x => decide (x ≠ n)) (hn.filter _) (fun x hx => by
      have := List.mem_filter.1 hx
      have h2 := h x this.1
      have h3 : x ≠ n := by simpa using this.2
      omega)
    have h2 : l.length ≤ (l.filter fun x => decide (x ≠ n)).length + 1 := by
      clear h h1
      induction l with
      | nil => simp
      | cons x l ih =>
        rw [List.nodup_cons] at hn
        by_cases hx : x = n
        · subst hx
          have : (l.filter fun y => decide (y ≠ x)) = l := List.filter_eq_self.2 (fun y hy => by
            have : y ≠ x := fun e => hn.1 (e ▸ hy)
            simpa using this)
          rw [List.filter_cons, if_neg (by simp), this, List.length_cons]
          omega
        · have := ih hn.2
          rw [List.filter_cons, if_pos (by simpa using hx), List.length_cons, List.length_cons]
          omega
    omega
theorem fillTo_all {l : List Found} {f : Nat → Option Nat} (h : fillTo l l.length = some f) {j : Nat} (hj : j < l.length) : ∃ p, f j = some p ∧ p < l.length := by
  obtain ⟨h1, h2⟩ := fillTo_spec h
  cases hf : f j with
  | some p => exact ⟨p, rfl, (h1 j p hf).1⟩
  | none =>
    exfalso
    have hn : (j :: (List.range l.length).map fun p => (fd l p).item.index.toNat).Nodup := by
      rw [List.nodup_cons]
      refine ⟨fun hm => ?_, ?_⟩
      · obtain ⟨p, hp, rfl⟩ := List.mem_map.1 hm
        rw [(h2 p (List.mem_range.1 hp)).2.2.2] at hf
        cases hf
      · refine List.Pairwise.map _ (R := fun a b => a < b ∧ a < l.length ∧ b < l.length) ?_ ?_
        · intro a b ⟨hab, ha, hb⟩ he
          have e1 := (h2 a ha).2.2.2
          have e2 := (h2 b hb).2.2.2
          rw [he, e2] at e1
          injection e1 with e1
          omega
        · refine List.Pairwise.imp_of_mem ?_ List.pairwise_lt_range
          intro a b ha hb hab
          exact ⟨hab, List.mem_range.1 ha, List.mem_range.1 hb⟩
    have := nodup_le l.length _ hn (fun x hx => by
      rcases List.mem_cons.1 hx with rfl | hx
      · exact hj
      · obtain ⟨p, hp, rfl⟩ := List.mem_map.1 hx
        have := h2 p (List.mem_range.1 hp)
        omega)
    simp at this
    omega

/-- A row's cell: where the item stands. -/
def ptr (b off : Nat) (o : Option Nat) : Value := .pointer (o.map fun p => ⟨b, off + p * 11, none⟩)
theorem ptr_none (b off : Nat) : ptr b off none = .pointer none := rfl
theorem ptr_some (b off p : Nat) : ptr b off (some p) = .pointer (some ⟨b, off + p * 11, none⟩) := rfl
theorem st0 {a w : World} (h : Below a.heap.size a w) {g : Nat} (hg : a.heap.size ≤ g) (o : Nat) (u : Value) : Below a.heap.size a (w.setCell ⟨g, o, none⟩ u) := h.setCell hg u

end Go.Proofs.YtbjjpplhnibjdaaDoor
