/- What an argument is, out of its reading: flat types (structs and arrays of integers, bools, strings), and slices of them; whatever the type. -/
import Derived.Test.YthiimpleljaimaaGreatDoorPh
import Derived.ProofKit
import Derived.OpenShut
import Derived.ChangeArms
import Derived.ChangeMaps5
import Derived.Deep.Slices
import Derived.Deep.Fields
import Derived.SizedLaws
namespace Go.Proofs.YthiimpleljaimaaGreatDoor
open Go Go.ChangeShapes Go.WideShapes Go.ChangeAt Go.RowKit Go.Deep

/-- What one cell of a flat value is. -/
inductive Leaf where
  | int (k : IntKind)
  | bool
  | str
  | sl (t : TypeId)

section
variable {H : Type} {enc : TypeId × Value → H} {P : Program} {w : World} {base : Nat} {spare : Nat → Bool} {held : Bool}

def flatFs (P : Program) (g : TypeId → Option (List Leaf)) : Nat → List Field → Option (List Leaf)
  | _, [] => some []
  | off, f :: fs => if f.offset = off then (g f.type).bind fun l => if l.length = P.cellsOf f.type then (flatFs P g (off + l.length) fs).map (l ++ ·) else none else none
def flat (P : Program) : Nat → TypeId → Option (List Leaf)
  | 0, _ => none
  | n + 1, t => match P.underlying t with
    | some .bool => some [.bool]
    | some (.int k) => some [.int k]
    | some .string => some [.str]
    | some (.slice _) => some [.sl t]
    | some (.struct fs) => (flatFs P (flat P n) 0 fs.toList).bind fun l => if l.length = P.cellsOf t then some l else none
    | some (.array m e) => (flat P n e).bind fun l => if l.length = P.cellsOf e ∧ m * l.length = P.cellsOf t then some (List.replicate m l).flatten else none
    | _ => none

/-- A cell is what the leaf says. -/
def leafOk (enc : TypeId × Value → H) (P : Program) (w : World) (base : Nat) (spare : Nat → Bool) (held : Bool) : Leaf → Value → Prop
  | .int k, c => ∃ n, c = .int k n ∧ (Lit.int k n).wf = true
  | .bool, c => ∃ b, c = .bool b
  | .str, c => ∃ s : ByteArray, c = .string s ∧ s.size ≤ maxLen
  | .sl t, c => ∃ m y, DataW.trod enc P w base spare held m t [c] = some y
def leaves (enc : TypeId × Value → H) (P : Program) (w : World) (base : Nat) (spare : Nat → Bool) (held : Bool) : List Leaf → List Value → Prop
  | [], [] => True
  | l :: ls, c :: cs => leafOk enc P w base spare held l c ∧ leaves enc P w base spare held ls cs
  | _, _ => False

theorem leaves_append : ∀ (l l' : List Leaf) (c c' : List Value), leaves enc P w base spare held l c → leaves enc P w base spare held l' c' → leaves enc P w base spare held (l ++ l') (c ++ c')
  | [], _, [], _, _, h => h
  | _ :: l, l', _ :: c, c', h, h' => ⟨h.1, leaves_append l l' c c' h.2 h'⟩
  | [], _, _ :: _, _, h, _ => h.elim
  | _ :: _, _, [], _, h, _ => h.elim
theorem leaves_cons {l : Leaf} {ls : List Leaf} {cs : List Value} (h : leaves enc P w base spare held (l :: ls) cs) : ∃ c cs', cs = c :: cs' ∧ leafOk enc P w base spare held l c ∧ leaves enc P w base spare held ls cs' := by
  cases cs with
  | nil => exact h.elim
  | cons c cs => exact ⟨c, cs, rfl, h.1, h.2⟩
theorem leaves_nil {cs : List Value} (h : leaves enc P w base spare held [] cs) : cs = [] := by
  cases cs with
  | nil => rfl
  | cons c cs => exact h.elim
theorem leaves_len : ∀ (l : List Leaf) (c : List Value), leaves enc P w base spare held l c → c.length = l.length
  | [], [], _ => rfl
  | _ :: l, _ :: c, h => by simp [leaves_len l c h.2]
  | [], _ :: _, h => h.elim
  | _ :: _, [], h => h.elim

theorem flatFs_leaves {g : TypeId → Option (List Leaf)} {cs : List Value} (hg : ∀ (t : TypeId) (l : List Leaf) (c : List Value) (m : Nat) (y : DataW H × List MemPlace), g t = some l → DataW.trod enc P w base spare held m t c = some y → leaves enc P w base spare held l c) :
    ∀ (fs : List Field) (off : Nat) (ls : List Leaf), flatFs P g off fs = some ls → (∀ f ∈ fs, ∃ m y, DataW.trod enc P w base spare held m f.type ((cs.drop f.offset).take (P.cellsOf f.type)) = some y) →
      leaves enc P w base spare held ls ((cs.drop off).take ls.length)
  | [], off, ls, h, _ => by simp [flatFs] at h; subst h; simp [leaves]
  | f :: fs, off, ls, h, hf => by
    unfold flatFs at h
    split at h
    · rename_i ho
      rw [Option.bind_eq_some_iff] at h
      obtain ⟨l, hl, h⟩ := h
      split at h
      · rename_i hlen
        rw [Option.map_eq_some_iff] at h
        obtain ⟨r, hr, rfl⟩ := h
        obtain ⟨m, y, hy⟩ := hf f (by simp)
        have h1 := hg _ _ _ _ _ hl hy
        rw [ho, ← hlen] at h1
        have h2 := flatFs_leaves hg fs _ _ hr (fun f hf' => hf f (by simp [hf']))
        have := leaves_append _ _ _ _ h1 h2
        rw [List.length_append, List.take_add, List.drop_drop]
        exact this
      · cases h
    · cases h

theorem trod_flat : ∀ (n : Nat) (t : TypeId) (ls : List Leaf) (cs : List Value) (m : Nat) (y : DataW H × List MemPlace), flat P n t = some ls → DataW.trod enc P w base spare held m t cs = some y → leaves enc P w base spare held ls cs
  | 0, _, _, _, _, _, h, _ => by simp [flat] at h
  | n + 1, t, ls, cs, m, y, h, hd => by
    unfold flat at h
    split at h
    · rename_i ht
      obtain ⟨b, rfl, _⟩ := DataW.trod_bool ht hd
      injection h with h; subst h
      exact ⟨⟨b, rfl⟩, trivial⟩
    · rename_i k ht
      obtain ⟨b, rfl, _, hw⟩ := DataW.trod_int ht hd
      injection h with h; subst h
      exact ⟨⟨b, rfl, hw⟩, trivial⟩
    · rename_i ht
      obtain ⟨b, rfl, _, hw⟩ := DataW.trod_string ht hd
      injection h with h; subst h
      exact ⟨⟨b, rfl, hw⟩, trivial⟩
    · rename_i e ht
      injection h with h; subst h
      rcases open_slice ht hd with ⟨rfl, _⟩ | ⟨a, len, cap, _, _, _, _, rfl, _⟩
      · exact ⟨⟨m, y, hd⟩, trivial⟩
      · exact ⟨⟨m, y, hd⟩, trivial⟩
    · rename_i fs ht
      rw [Option.bind_eq_some_iff] at h
      obtain ⟨l, hl, h⟩ := h
      split at h
      · rename_i hlen
        injection h with h; subst h
        obtain ⟨xs, q, _, _, hcl, hxl, hf⟩ := DataW.trod_struct ht hd
        have := flatFs_leaves (cs := cs) (fun t l c m y hg hy => trod_flat n t l c m y hg hy) fs.toList 0 l hl (fun f hf' => by
          obtain ⟨i, hi⟩ := List.mem_iff_getElem?.1 hf'
          have hi2 : fs[i]? = some f := by simpa using hi
          have h3 := hf i f hi2
          have hil : i < xs.length := by rw [hxl]; exact (Array.getElem?_eq_some_iff.1 hi2).1
          rw [List.getElem?_eq_getElem hil] at h3
          exact ⟨q, _, h3⟩)
        rw [List.drop_zero, List.take_of_length_le (by omega)] at this
        exact this
      · cases h
    · rename_i k e ht
      rw [Option.bind_eq_some_iff] at h
      obtain ⟨l, hl, h⟩ := h
      split at h
      · rename_i hlen
        injection h with h; subst h
        obtain ⟨xs, q, _, _, hcl, hxl, hf⟩ := DataW.trod_array ht hd
        have key : ∀ j, j ≤ k → leaves enc P w base spare held (List.replicate j l).flatten (cs.take (j * l.length)) := by
          intro j
          induction j with
          | zero => intro _; simp [leaves]
          | succ j ih =>
            intro hj
            have h3 := hf j (by omega)
            rw [List.getElem?_eq_getElem (by omega)] at h3
            have h4 := trod_flat n e l _ q _ hl h3
            rw [← hlen.1] at h4
            have := leaves_append _ _ _ _ (ih (by omega)) h4
            rw [List.replicate_succ', List.flatten_append, Nat.add_mul, Nat.one_mul, List.take_add]
            simpa using this
        have := key k (Nat.le_refl _)
        rw [List.take_of_length_le (by omega)] at this
        exact this
      · cases h
    · cases h

theorem cell_spot2 {w : World} {a : Addr} {v : Value} (h : w.cell? a = some v) : a.spot = none ∧ a.block < w.heap.size := by
  unfold World.cell? at h
  split at h
  · rename_i c _ _ hh
    split at h
    · cases h
    · rename_i hs
      exact ⟨by simpa using hs, (Array.getElem?_eq_some_iff.1 hh).1⟩
  · cases h

/-- A slice of flat elements. -/
theorem open_flat {t e : TypeId} {n k : Nat} {ls : List Leaf} {m : Nat} {v : Value} {y : DataW H × List MemPlace} (ht : P.underlying t = some (.slice e)) (hfl : flat P n e = some ls) (hk : ls.length = k) (hc : P.cellsOf e = k) (hk0 : 0 < k)
    (h : DataW.trod enc P w 0 spare held m t [v] = some y) :
    ∃ rows : List (List Value), Sl w k v rows ∧ (∀ r ∈ rows, leaves enc P w 0 spare held ls r) ∧ (y.1 = .nil ∧ rows = [] ∨ ∃ es sp, y.1 = .slice es sp ∧ es.length = rows.length) ∧ ∃ A cap, v = .slice A rows.length cap := by
  rcases open_slice ht h with ⟨hcs, hx⟩ | ⟨a, len, cap, q, z, D, Pl, hcs, _, hl, hm, hmm, hx, hi⟩
  · simp at hcs
    subst hcs
    exact ⟨[], Sl.nil _ _, by simp, .inl ⟨by rw [hx], rfl⟩, none, 0, rfl⟩
  · simp at hcs
    subst hcs
    rw [hc] at hi
    have hmle : len ≤ q := by rw [hmm]; split <;> omega
    have hel : ∀ i, i < len → ∃ r, w.cells? 0 (a.add (i * k)) k = some r ∧ leaves enc P w 0 spare held ls r := fun i hil => by
      obtain ⟨cs', h1, h2⟩ := hi i (by omega)
      exact ⟨cs', h1, trod_flat _ _ _ _ _ _ hfl h2⟩
    have hall : ∀ j, j ≤ len → ∃ l : List (List Value), l.length = j ∧ ∀ i (hil : i < l.length), w.cells? 0 (a.add (i * k)) k = some (l[i]) ∧ leaves enc P w 0 spare held ls l[i] := by
      intro j
      induction j with
      | zero => exact fun _ => ⟨[], rfl, fun i hil => absurd hil (by simp)⟩
      | succ j ih =>
        intro hj
        obtain ⟨l, h1, h2⟩ := ih (by omega)
        obtain ⟨x, hx⟩ := hel j (by omega)
        refine ⟨l ++ [x], by simp [h1], fun i hil => ?_⟩
        by_cases hik : i < l.length
        · rw [List.getElem_append_left hik]; exact h2 i hik
        · have : i = j := by simp at hil; omega
          subst this
          rw [List.getElem_append_right (by omega)]
          simp [h1, hx]
    obtain ⟨l, h1, h2⟩ := hall len (Nat.le_refl _)
    refine ⟨l, ⟨some a, cap, by rw [h1], by rw [h1]; exact hl, hm, (fun h => by cases h), fun hpos => ?_⟩, fun r hr => ?_, .inr ⟨_, _, by rw [hx], by simp [h1]⟩, some a, cap, by rw [h1]⟩
    · have hlen0 : ∀ i (hil : i < l.length), (l[i]).length = k := fun i hil => (leaves_len _ _ (h2 i hil).2).trans hk
      have hz := (World.cells?_some (h2 0 hpos).1).2.2 0 (by omega)
      rw [Nat.zero_mul] at hz
      have ha : (a.add 0).add 0 = a := by unfold Addr.add; rfl
      rw [ha, List.getElem?_eq_getElem (by rw [hlen0 0 hpos]; exact hk0)] at hz
      obtain ⟨hs, hb⟩ := cell_spot2 hz
      obtain ⟨b, off, spot⟩ := a
      simp only at hs
      subst hs
      refine ⟨b, off, rfl, hb, fun i x hix => ?_⟩
      obtain ⟨hil, rfl⟩ := List.getElem?_eq_some_iff.1 hix
      refine ⟨hlen0 i hil, fun j v hj => ?_⟩
      have hjk : j < k := by have := (List.getElem?_eq_some_iff.1 hj).1; rw [hlen0 i hil] at this; exact this
      have := (World.cells?_some (h2 i hil).1).2.2 j hjk
      rw [add_add, hj] at this
      rw [← this]
      refine congrArg _ ?_
      unfold Addr.add
      split
      · rename_i h0
        rw [show off + i * k + j = off from by omega]
      · rw [Nat.add_assoc]
    · obtain ⟨i, hil, rfl⟩ := List.getElem_of_mem hr
      exact (h2 i hil).2

/-- .. an argument: with what the row says of its size. -/
theorem open_flat_arg {t e : TypeId} {n k b : Nat} {ls : List Leaf} {v : Value} {d : DataW H} {ps : List MemPlace} {ts : List TypeId} {ds : List (DataW H)} {j : Nat} (ht : P.underlying t = some (.slice e)) (hfl : flat P n e = some ls) (hk : ls.length = k) (hc : P.cellsOf e = k) (hk0 : 0 < k) (hb : P.bytesOf e = b)
    (hsz : (DataW.weightsEach P ts ds).all (· ≤ reachBytes) = true) (hts : ts[j]? = some t) (hds : ds[j]? = some d)
    (hv : ∃ A len cap, v = .slice A len cap)
    (h : DataW.Trod enc P w 0 spare held t v d ps) :
    ∃ rows : List (List Value), Sl w k v rows ∧ (∀ r ∈ rows, leaves enc P w 0 spare held ls r) ∧ rows.length * b ≤ 140737488351232 ∧ ∃ A cap, v = .slice A rows.length cap := by
  obtain ⟨A, len, cap, rfl⟩ := hv
  obtain ⟨m, hm⟩ := h
  obtain ⟨rows, h1, h2, h3, h4⟩ := open_flat ht hfl hk hc hk0 hm
  refine ⟨rows, h1, h2, ?_, h4⟩
  rcases h3 with ⟨_, rfl⟩ | ⟨es, sp, he, hl⟩
  · simp
  · have hd' : d = .slice es sp := he
    subst hd'
    have z := sized_slice hsz hts hds ht
    rw [hb, ← hl] at *
    exact Nat.le_trans (Nat.mul_le_mul_right _ (by omega)) z

/-- Rows as a list of things. -/
theorem rows_of {α : Type} {row : α → List Value} {Q : List Value → Prop} {G : α → Prop} (hQ : ∀ r, Q r → ∃ x, r = row x ∧ G x) : ∀ (rows : List (List Value)), (∀ r ∈ rows, Q r) → ∃ l : List α, rows = l.map row ∧ ∀ x ∈ l, G x
  | [], _ => ⟨[], rfl, by simp⟩
  | r :: rows, h => by
    obtain ⟨x, rfl, hx⟩ := hQ r (h r (by simp))
    obtain ⟨l, rfl, hl⟩ := rows_of hQ rows (fun r hr => h r (by simp [hr]))
    exact ⟨x :: l, rfl, by simp [hx]; exact hl⟩
end
end Go.Proofs.YthiimpleljaimaaGreatDoor

/- A struct, as an argument. -/
namespace Go.Proofs.YthiimpleljaimaaGreatDoor
open Go Go.ChangeShapes Go.WideShapes Go.ChangeAt Go.RowKit Go.Deep

section
variable {H : Type} {enc : TypeId × Value → H} {P : Program} {w : World} {base : Nat} {spare : Nat → Bool} {held : Bool}
/-- A struct that came in. -/
theorem open_flat_struct {r : Reach} {b0 : Nat} {t : TypeId} {n : Nat} {fs : Array Field} {ls : List Leaf} {v : Value} {d : DataW H} {ps : List MemPlace} (ht : P.underlying t = some (.struct fs)) (hfl : flat P n t = some ls)
    (hval : Value.okWide P w r b0 t v) (hd : DataW.Trod enc P w base spare held t v d ps) : ∃ cs : Array Value, v = .agg cs ∧ leaves enc P w base spare held ls cs.toList := by
  unfold Value.okWide at hval
  rw [ht] at hval
  obtain ⟨cs, rfl, _, _⟩ := hval
  obtain ⟨fuel, h⟩ := hd
  exact ⟨cs, rfl, trod_flat n t ls _ _ _ hfl h⟩
end
end Go.Proofs.YthiimpleljaimaaGreatDoor

