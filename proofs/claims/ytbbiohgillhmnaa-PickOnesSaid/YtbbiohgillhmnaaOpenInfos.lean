/- What an argument is, out of its reading: a slice of api.Info. -/
import Derived.Test.YtbbiohgillhmnaaPickL
import Derived.Deep.Slices
import Derived.Deep.Fields
import Derived.SizedLaws
namespace Go.Proofs.Ytbbiohgillhmnaa
open Go.ChangeShapes Go.WideShapes Go.ChangeAt Go.RowKit Go.Deep

theorem cell_spot {w : World} {a : Addr} {v : Value} (h : w.cell? a = some v) : a.spot = none ∧ a.block < w.heap.size := by
  unfold World.cell? at h
  split at h
  · rename_i c _ _ hh
    split at h
    · cases h
    · rename_i hs
      exact ⟨by simpa using hs, (Array.getElem?_eq_some_iff.1 hh).1⟩
  · cases h

set_option maxRecDepth 100000 in
/-- An element that came in. -/
theorem open_info {H : Type} {enc : TypeId × Value → H} {w : World} {base : Nat} {spare : Nat → Bool} {held : Bool} {n : Nat} {cs : List Value} {y : DataW H × List MemPlace}
    (h : DataW.trod enc Try.prog w base spare held n 53 cs = some y) : ∃ x : Info, cs = x.row := by
  obtain ⟨xs, m, _, _, hl, hx, hf⟩ := DataW.trod_struct Try.underlying53 h
  have hl6 : cs.length = 6 := hl.trans (by kernel_rfl)
  obtain ⟨c0, c1, c2, c3, c4, c5, rfl⟩ : ∃ c0 c1 c2 c3 c4 c5, cs = [c0, c1, c2, c3, c4, c5] := by
    match cs, hl6 with
    | [a, b, c, d, e, f], _ => exact ⟨a, b, c, d, e, f, rfl⟩
  have key : ∀ (i : Nat) (hi : i < xs.length), xs[i]? = some xs[i] := fun i hi => List.getElem?_eq_getElem hi
  have f0 := hf 0 _ rfl
  have f1 := hf 1 _ rfl
  have f2 := hf 2 _ rfl
  have f3 := hf 3 _ rfl
  have f4 := hf 4 _ rfl
  have f5 := hf 5 _ rfl
  have hx6 : xs.length = 6 := hx
  rw [key 0 (by omega)] at f0
  rw [key 1 (by omega)] at f1
  rw [key 2 (by omega)] at f2
  rw [key 3 (by omega)] at f3
  rw [key 4 (by omega)] at f4
  rw [key 5 (by omega)] at f5
  obtain ⟨z0, h0, _⟩ := DataW.trod_int (k := .i64) (by kernel_rfl) f0
  obtain ⟨z1, h1, _⟩ := DataW.trod_bool (by kernel_rfl) f1
  obtain ⟨z2, h2, _⟩ := DataW.trod_int (k := .i64) (by kernel_rfl) f2
  obtain ⟨z3, h3, _⟩ := DataW.trod_int (k := .u64) (by kernel_rfl) f3
  obtain ⟨z4, h4, _⟩ := DataW.trod_int (k := .i64) (by kernel_rfl) f4
  obtain ⟨z5, h5, _⟩ := DataW.trod_bool (by kernel_rfl) f5
  have e1 : Try.prog.cellsOf 3 = 1 := by kernel_rfl
  have e2 : Try.prog.cellsOf 4 = 1 := by kernel_rfl
  have e3 : Try.prog.cellsOf 28 = 1 := by kernel_rfl
  simp [e1, e2, e3] at h0 h1 h2 h3 h4 h5
  subst h0; subst h1; subst h2; subst h3; subst h4; subst h5
  exact ⟨⟨z0, z1, z2, z3, z4, z5⟩, rfl⟩

/-- A slice of them. -/
theorem open_infos {H : Type} {enc : TypeId × Value → H} {w : World} {spare : Nat → Bool} {held : Bool} {A : Option Addr} {len cap : Nat} {d : DataW H} {ps : List MemPlace}
    (hd : DataW.Trod enc Try.prog w 0 spare held 50 (.slice A len cap) d ps) : ∃ l : List Info, Infos w (.slice A len cap) l ∧ (d = .nil ∧ l = [] ∨ ∃ es sp, d = .slice es sp ∧ es.length = l.length) := by
  obtain ⟨fuel, h⟩ := hd
  rcases open_slice Try.underlying50 h with ⟨hcs, hx⟩ | ⟨a, ln, cp, m, n, D, Pl, hcs, _, hl, hm, hmm, hx, hi⟩
  · simp [Value.cells] at hcs
    obtain ⟨rfl, rfl, rfl⟩ := hcs
    exact ⟨[], Sl.nil _ _, .inl ⟨(Prod.mk.inj hx).1, rfl⟩⟩
  · simp [Value.cells] at hcs
    obtain ⟨rfl, rfl, rfl⟩ := hcs
    have hc6 : Try.prog.cellsOf 53 = 6 := by kernel_rfl
    rw [hc6] at hi
    have hmle : len ≤ m := by rw [hmm]; split <;> omega
    have hel : ∀ i, i < len → ∃ x : Info, w.cells? 0 (a.add (i * 6)) 6 = some x.row := fun i hil => by
      obtain ⟨cs', h1, h2⟩ := hi i (by omega)
      obtain ⟨x, rfl⟩ := open_info h2
      exact ⟨x, h1⟩
    have hall : ∀ k, k ≤ len → ∃ l : List Info, l.length = k ∧ ∀ i (hil : i < l.length), w.cells? 0 (a.add (i * 6)) 6 = some (l[i]).row := by
      intro k
      induction k with
      | zero => exact fun _ => ⟨[], rfl, fun i hil => absurd hil (by simp)⟩
      | succ k ih =>
        intro hk
        obtain ⟨l, h1, h2⟩ := ih (by omega)
        obtain ⟨x, hx⟩ := hel k (by omega)
        refine ⟨l ++ [x], by simp [h1], fun i hil => ?_⟩
        by_cases hik : i < l.length
        · rw [List.getElem_append_left hik]; exact h2 i hik
        · have : i = k := by simp at hil; omega
          subst this
          rw [List.getElem_append_right (by omega)]
          simp [h1, hx]
    obtain ⟨l, h1, h2⟩ := hall len (Nat.le_refl _)
    refine ⟨l, ⟨some a, cap, by rw [List.length_map, h1], by rw [List.length_map, h1]; exact hl, hm, (fun h => by cases h), fun hpos => ?_⟩, .inr ⟨_, _, (Prod.mk.inj hx).1, by simp [h1]⟩⟩
    rw [List.length_map] at hpos
    have hz := (World.cells?_some (h2 0 hpos)).2.2 0 (by omega)
    rw [Nat.zero_mul] at hz
    have ha : (a.add 0).add 0 = a := by unfold Addr.add; rfl
    rw [ha] at hz
    obtain ⟨hs, hb⟩ := cell_spot hz
    obtain ⟨b, off, spot⟩ := a
    simp only at hs
    subst hs
    refine ⟨b, off, rfl, hb, fun i x hix => ?_⟩
    rw [List.getElem?_map, Option.map_eq_some_iff] at hix
    obtain ⟨u, hu, rfl⟩ := hix
    obtain ⟨hil, rfl⟩ := List.getElem?_eq_some_iff.1 hu
    refine ⟨rfl, fun j v hj => ?_⟩
    have hj6 : j < 6 := by have := (List.getElem?_eq_some_iff.1 hj).1; simpa using this
    have := (World.cells?_some (h2 i hil)).2.2 j hj6
    rw [add_add, hj] at this
    rw [← this]
    refine congrArg _ ?_
    unfold Addr.add
    split
    · rename_i h0
      rw [show off + i * 6 + j = off from by omega]
    · rw [Nat.add_assoc]

theorem sized_infos {H : Type} {enc : TypeId × Value → H} {w : World} {spare : Nat → Bool} {held : Bool} {A : Option Addr} {len cap : Nat} {d : DataW H} {ps : List MemPlace} {ts : List TypeId} {ds : List (DataW H)} {j : Nat}
    (hsz : (DataW.weightsEach Try.prog ts ds).all (· ≤ reachBytes) = true) (ht : ts[j]? = some 50) (hd : ds[j]? = some d)
    (h : DataW.Trod enc Try.prog w 0 spare held 50 (.slice A len cap) d ps) : ∃ l : List Info, Infos w (.slice A len cap) l ∧ l.length * 8 ≤ 140737488351232 := by
  obtain ⟨l, hl, hh⟩ := open_infos h
  refine ⟨l, hl, ?_⟩
  rcases hh with ⟨_, rfl⟩ | ⟨es, sp, rfl, he⟩
  · simp
  · have z := sized_slice hsz ht hd Try.underlying50
    have hB : 8 ≤ Try.prog.bytesOf 53 := of_decide_eq_true (by kernel_rfl)
    have h1 : l.length * 8 ≤ (es.length + sp.length) * Try.prog.bytesOf 53 := by rw [← he]; exact Nat.mul_le_mul (by omega) hB
    exact Nat.le_trans h1 z
end Go.Proofs.Ytbbiohgillhmnaa
