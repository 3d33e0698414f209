/- The chapter's example of nor. -/
import Derived.Test.YtokpoogcoeodkaaGreatDoorNorN
import Derived.Test.YtokpoogcoeodkaaGreatDoorPh
import Derived.ProofKit
import Derived.OpenShut
import Derived.ChangeArms
import Derived.ChangeMaps5
import Derived.Deep.Slices
import Derived.Deep.Fields
import Derived.SizedLaws
namespace Go.Proofs.YtokpoogcoeodkaaGreatDoor
open Go.RowKit Flo

theorem far_new {O : Nat → Prop} {w : World} (h : ∀ k, O k → k < w.heap.size) {g : Nat} (hg : w.heap.size ≤ g) (o n c : Nat) : Far O (.slice (some ⟨g, o, none⟩) n c) := by
  intro b off n' c' e ho
  injection e with e
  injection e with e
  injection e with e
  subst e
  have := h _ ho
  omega
theorem part0 : part? 0 = some 0 := by
  have h : near 0 = 0 := by decide
  rw [← h]
  exact part_some (nearest_Whole (n := 0) (by decide))

theorem prog_fresh {N : Nor} {a b k o : Nat} {lb l : List Nat} (hoff : N.off = false) (hlb : lb.length ≠ 0) (ha : part? a = some k) (hb : part? b = some o) (hk : k < N.S) (hin : o + lb.length ≤ N.Z) (hbad : N.bad = []) (hcut : N.cut = none) (hl : N.data[k]? = some l) :
    N.prog a b lb = (0, { N with acts := N.acts + 1, data := N.data.set k (stepRow (fun i m old => pUp (lb.getD i 0) m old) o l lb.length) }) := by
  unfold Nor.prog
  rw [if_neg (by rw [hoff]; decide), if_neg hlb, within_yes ha hb, if_neg (by simp; omega), ha, hb]
  have hb2 : N.isBad ((some k).getD 0) = false := by unfold Nor.isBad; rw [hbad]; rfl
  rw [if_neg (by rw [hb2]; decide)]
  unfold Nor.act
  rw [hcut]
  have : N.data.getD ((some k).getD 0) [] = l := by rw [List.getD_eq_getElem?_getD]; show (N.data[k]?).getD [] = l; rw [hl]; rfl
  rw [this]
  rfl

/-- As the example stands between its acts. -/
structure Ex (N : Nor) (row : List Nat) (n : Nat) : Prop where
  off : N.off = false
  S : N.S = 6
  Z : N.Z = 512
  bad : N.bad = []
  cut : N.cut = none
  data : N.data[0]? = some row
  acts : N.acts = n
  offs : N.offs = 0
theorem Ex.prog {N : Nor} {row : List Nat} {n : Nat} (h : Ex N row n) (x : Nat) : ∃ N', N.prog 0 4613937818241073152 [x] = (0, N') ∧ ptrD N' = ptrD N ∧ Ex N' (row.set 3 (pUp x 255 (row.getD 3 0))) (n + 1) := by
  have hp3 : part? 4613937818241073152 = some 3 := by rw [← near3]; exact part3
  have hp := prog_fresh (N := N) (lb := [x]) (l := row) h.off (by simp) part0 hp3 (by rw [h.S]; decide) (by rw [h.Z]; simp) h.bad h.cut h.data
  refine ⟨_, hp, rfl, ⟨h.off, h.S, h.Z, h.bad, h.cut, ?_, by show N.acts + 1 = _; rw [h.acts], h.offs⟩⟩
  have h0 : 0 < N.data.length := (List.getElem?_eq_some_iff.1 h.data).1
  show (N.data.set 0 _)[0]? = _
  rw [List.getElem?_set_self h0]
  rfl
theorem Ex.got {N : Nor} {row : List Nat} {n x : Nat} (h : Ex N row n) (hx : row[3]? = some x) : N.got 0 4613937818241073152 1 = ([x], 0) := by
  unfold Nor.got
  rw [if_neg (by rw [h.off]; decide), within_yes part0 (by rw [← near3]; exact part3), if_pos (by rw [h.S, h.Z]; decide), part0, show part? 4613937818241073152 = some 3 by rw [← near3]; exact part3]
  show (((N.data.getD 0 []).drop 3).take 1, 0) = _
  have : N.data.getD 0 [] = row := by rw [List.getD_eq_getElem?_getD, h.data]; rfl
  rw [this, List.drop_eq_getElem_cons (List.getElem?_eq_some_iff.1 hx).1]
  rw [(List.getElem?_eq_some_iff.1 hx).2]
  rfl

end Go.Proofs.YtokpoogcoeodkaaGreatDoor

/- The operations of the law: as many as are gone through. -/
namespace Go.Proofs.YtokpoogcoeodkaaGreatDoor
open Go.RowKit Flo

structure OpV where
  kind : Int
  sector : Int
  offset : Int
  A : Option Addr
  bn : Nat
  bc : Nat
  n : Int
  k : Int
  mask : Nat
def OpV.row (o : OpV) : List Value := [i64 o.kind, i64 o.sector, i64 o.offset, .slice o.A o.bn o.bc, i64 o.n, i64 o.k, bv o.mask]
abbrev OpV.val (o : OpV) : Value := .agg #[i64 o.kind, i64 o.sector, i64 o.offset, .slice o.A o.bn o.bc, i64 o.n, i64 o.k, bv o.mask]
abbrev Ops (w : World) (v : Value) (l : List OpV) : Prop := Sl w 7 v (l.map OpV.row)
def cutGo : Nat → Nat → List Nat → Nat
  | i, _, [] => i
  | i, n, x :: xs => if 60 ≤ i ∨ 6000 < n + min x 90000 then i else cutGo (i + 1) (n + min x 90000) xs
theorem cutGo_le : ∀ (l : List Nat) (i n : Nat), cutGo i n l ≤ i + l.length
  | [], i, n => Nat.le_refl _
  | x :: xs, i, n => by
    unfold cutGo
    split
    · simp
    · have := cutGo_le xs (i + 1) (n + min x 90000)
      simp only [List.length_cons]; omega
theorem cutGo_ge : ∀ (l : List Nat) (i n : Nat), i ≤ cutGo i n l
  | [], i, n => Nat.le_refl _
  | x :: xs, i, n => by
    unfold cutGo
    split
    · exact Nat.le_refl _
    · have := cutGo_ge xs (i + 1) (n + min x 90000)
      omega
/-- What is gone through is short. -/
theorem cutGo_small : ∀ (l : List Nat) (i n j : Nat), j < cutGo i n l - i → ∃ x, l[j]? = some x ∧ x ≤ 6000
  | [], i, n, j, h => by simp [cutGo] at h
  | x :: xs, i, n, j, h => by
    unfold cutGo at h
    split at h
    · omega
    · rename_i hc
      cases j with
      | zero => exact ⟨x, rfl, by omega⟩
      | succ j =>
        have := cutGo_ge xs (i + 1) (n + min x 90000)
        have h2 : j < cutGo (i + 1) (n + min x 90000) xs - (i + 1) := by omega
        simpa using cutGo_small xs (i + 1) _ j h2
theorem cutGo_60 : ∀ (l : List Nat) (i n : Nat), i ≤ 60 → cutGo i n l ≤ 60
  | [], i, n, h => h
  | x :: xs, i, n, h => by
    unfold cutGo
    split
    · exact h
    · rename_i hc
      exact cutGo_60 xs (i + 1) _ (by omega)

theorem cutGo_stop {l : List Nat} {j n x : Nat} (hx : l[j]? = some x) (h : 60 ≤ j ∨ 6000 < n + min x 90000) : cutGo j n (l.drop j) = j := by
  rw [List.drop_eq_getElem_cons (List.getElem?_eq_some_iff.1 hx).1, (List.getElem?_eq_some_iff.1 hx).2]
  unfold cutGo
  rw [if_pos h]
theorem cutGo_next {l : List Nat} {j n x : Nat} (hx : l[j]? = some x) (h : ¬ (60 ≤ j ∨ 6000 < n + min x 90000)) : cutGo j n (l.drop j) = cutGo (j + 1) (n + min x 90000) (l.drop (j + 1)) := by
  rw [List.drop_eq_getElem_cons (List.getElem?_eq_some_iff.1 hx).1, (List.getElem?_eq_some_iff.1 hx).2]
  conv => lhs; unfold cutGo
  rw [if_neg h]
theorem Ops.at {w : World} {A : Option Addr} {n cap : Nat} {l : List OpV} (h : Ops w (.slice A n cap) l) (hp : 0 < l.length) :
    ∃ b off, A = some ⟨b, off, none⟩ ∧ b < w.heap.size ∧ ∀ (i : Nat) (o : OpV), l[i]? = some o → ∀ (j : Nat) (u : Value), o.row[j]? = some u → w.cell? ⟨b, off + i * 7 + j, none⟩ = some u := by
  have hn := h.len
  rw [List.length_map] at hn
  obtain ⟨b, off, hA, hb, hx⟩ := Sl.at h (by omega)
  refine ⟨b, off, hA, hb, fun i o ho j u hj => (hx i o.row (by rw [List.getElem?_map, ho]; rfl)).2 j u hj⟩

end Go.Proofs.YtokpoogcoeodkaaGreatDoor

/- The walk of NorNil: whatever is asked of a nil device. -/
namespace Go.Proofs.YtokpoogcoeodkaaGreatDoor
open Go.RowKit Flo

noncomputable def ofPl (a b : Int) : Nat × Nat := if a < 0 ∨ 2147483647 < a ∨ b < 0 ∨ 2147483647 < b then (0, 0) else (near a, near b)
theorem of_any (a b : Int) (w : World) : Gives 7 #[i64 a, i64 b] w (cx (ofPl a b).1 (ofPl a b).2) := by
  unfold ofPl
  split
  · rename_i h; exact of_out a b w h
  · rename_i h; exact of_in a b w (by omega) (by omega) (by omega) (by omega)
theorem rof_any (a b : Int) (w : World) : Gives 10 #[i64 a, i64 b] w (cx (ofPl a b).1 (ofPl a b).2) := by
  unfold ofPl
  split
  · rename_i h; exact rof_out a b w h
  · rename_i h; exact rof_in a b w (by omega) (by omega) (by omega) (by omega)

end Go.Proofs.YtokpoogcoeodkaaGreatDoor

/- What an argument is, out of its reading: flat types (structs and arrays of integers, bools, strings), and slices of them; whatever the type. -/
namespace Go.Proofs.YtokpoogcoeodkaaGreatDoor
open Go Go.ChangeShapes Go.WideShapes Go.ChangeAt Go.RowKit Go.Deep

/-- What one cell of a flat value is. -/
inductive Leaf where
  | int (k : IntKind)
  | bool
  | str
  | sl (t : TypeId)

section
variable {H : Type} {enc : TypeId × Value → H} {P : Program} {w : World} {base : Nat} {spare : Nat → Bool} {held : Bool}

def flatFs (P : Program) (g : TypeId → Option (List Leaf)) : Nat → List Field → Option (List Leaf)
  | _, [] => some []
  | off, f :: fs => if f.offset = off then (g f.type).bind fun l => if l.length = P.cellsOf f.type then (flatFs P g (off + l.length) fs).map (l ++ ·) else none else none
def flat (P : Program) : Nat → TypeId → Option (List Leaf)
  | 0, _ => none
  | n + 1, t => match P.underlying t with
    | some .bool => some [.bool]
    | some (.int k) => some [.int k]
    | some .string => some [.str]
    | some (.slice _) => some [.sl t]
    | some (.struct fs) => (flatFs P (flat P n) 0 fs.toList).bind fun l => if l.length = P.cellsOf t then some l else none
    | some (.array m e) => (flat P n e).bind fun l => if l.length = P.cellsOf e ∧ m * l.length = P.cellsOf t then some (List.replicate m l).flatten else none
    | _ => none

/-- A cell is what the leaf says. -/
def leafOk (enc : TypeId × Value → H) (P : Program) (w : World) (base : Nat) (spare : Nat → Bool) (held : Bool) : Leaf → Value → Prop
  | .int k, c => ∃ n, c = .int k n ∧ (Lit.int k n).wf = true
  | .bool, c => ∃ b, c = .bool b
  | .str, c => ∃ s : ByteArray, c = .string s ∧ s.size ≤ maxLen
  | .sl t, c => ∃ m y, DataW.trod enc P w base spare held m t [c] = some y
def leaves (enc : TypeId × Value → H) (P : Program) (w : World) (base : Nat) (spare : Nat → Bool) (held : Bool) : List Leaf → List Value → Prop
  | [], [] => True
  | l :: ls, c :: cs => leafOk enc P w base spare held l c ∧ leaves enc P w base spare held ls cs
  | _, _ => False

theorem leaves_append : ∀ (l l' : List Leaf) (c c' : List Value), leaves enc P w base spare held l c → leaves enc P w base spare held l' c' → leaves enc P w base spare held (l ++ l') (c ++ c')
  | [], _, [], _, _, h => h
  | _ :: l, l', _ :: c, c', h, h' => ⟨h.1, leaves_append l l' c c' h.2 h'⟩
  | [], _, _ :: _, _, h, _ => h.elim
  | _ :: _, _, [], _, h, _ => h.elim
theorem leaves_cons {l : Leaf} {ls : List Leaf} {cs : List Value} (h : leaves enc P w base spare held (l :: ls) cs) : ∃ c cs', cs = c :: cs' ∧ leafOk enc P w base spare held l c ∧ leaves enc P w base spare held ls cs' := by
  cases cs with
  | nil => exact h.elim
  | cons c cs => exact ⟨c, cs, rfl, h.1, h.2⟩
theorem leaves_nil {cs : List Value} (h : leaves enc P w base spare held [] cs) : cs = [] := by
  cases cs with
  | nil => rfl
  | cons c cs => exact h.elim
theorem leaves_len : ∀ (l : List Leaf) (c : List Value), leaves enc P w base spare held l c → c.length = l.length
  | [], [], _ => rfl
  | _ :: l, _ :: c, h => by simp [leaves_len l c h.2]
  | [], _ :: _, h => h.elim
  | _ :: _, [], h => h.elim

theorem flatFs_leaves {g : TypeId → Option (List Leaf)} {cs : List Value} (hg : ∀ (t : TypeId) (l : List Leaf) (c : List Value) (m : Nat) (y : DataW H × List MemPlace), g t = some l → DataW.trod enc P w base spare held m t c = some y → leaves enc P w base spare held l c) :
    ∀ (fs : List Field) (off : Nat) (ls : List Leaf), flatFs P g off fs = some ls → (∀ f ∈ fs, ∃ m y, DataW.trod enc P w base spare held m f.type ((cs.drop f.offset).take (P.cellsOf f.type)) = some y) →
      leaves enc P w base spare held ls ((cs.drop off).take ls.length)
  | [], off, ls, h, _ => by simp [flatFs] at h; subst h; simp [leaves]
  | f :: fs, off, ls, h, hf => by
    unfold flatFs at h
    split at h
    · rename_i ho
      rw [Option.bind_eq_some_iff] at h
      obtain ⟨l, hl, h⟩ := h
      split at h
      · rename_i hlen
        rw [Option.map_eq_some_iff] at h
        obtain ⟨r, hr, rfl⟩ := h
        obtain ⟨m, y, hy⟩ := hf f (by simp)
        have h1 := hg _ _ _ _ _ hl hy
        rw [ho, ← hlen] at h1
        have h2 := flatFs_leaves hg fs _ _ hr (fun f hf' => hf f (by simp [hf']))
        have := leaves_append _ _ _ _ h1 h2
        rw [List.length_append, List.take_add, List.drop_drop]
        exact this
      · cases h
    · cases h

theorem trod_flat : ∀ (n : Nat) (t : TypeId) (ls : List Leaf) (cs : List Value) (m : Nat) (y : DataW H × List MemPlace), flat P n t = some ls → DataW.trod enc P w base spare held m t cs = some y → leaves enc P w base spare held ls cs
  | 0, _, _, _, _, _, h, _ => by simp [flat] at h
  | n + 1, t, ls, cs, m, y, h, hd => by
    unfold flat at h
    split at h
    · rename_i ht
      obtain ⟨b, rfl, _⟩ := DataW.trod_bool ht hd
      injection h with h; subst h
      exact ⟨⟨b, rfl⟩, trivial⟩
    · rename_i k ht
      obtain ⟨b, rfl, _, hw⟩ := DataW.trod_int ht hd
      injection h with h; subst h
      exact ⟨⟨b, rfl, hw⟩, trivial⟩
    · rename_i ht
      obtain ⟨b, rfl, _, hw⟩ := DataW.trod_string ht hd
      injection h with h; subst h
      exact ⟨⟨b, rfl, hw⟩, trivial⟩
    · rename_i e ht
      injection h with h; subst h
      rcases open_slice ht hd with ⟨rfl, _⟩ | ⟨a, len, cap, _, _, _, _, rfl, _⟩
      · exact ⟨⟨m, y, hd⟩, trivial⟩
      · exact ⟨⟨m, y, hd⟩, trivial⟩
    · rename_i fs ht
      rw [Option.bind_eq_some_iff] at h
      obtain ⟨l, hl, h⟩ := h
      split at h
      · rename_i hlen
        injection h with h; subst h
        obtain ⟨xs, q, _, _, hcl, hxl, hf⟩ := DataW.trod_struct ht hd
        have := flatFs_leaves (cs := cs) (fun t l c m y hg hy => trod_flat n t l c m y hg hy) fs.toList 0 l hl (fun f hf' => by
          obtain ⟨i, hi⟩ := List.mem_iff_getElem?.1 hf'
          have hi2 : fs[i]? = some f := by simpa using hi
          have h3 := hf i f hi2
          have hil : i < xs.length := by rw [hxl]; exact (Array.getElem?_eq_some_iff.1 hi2).1
          rw [List.getElem?_eq_getElem hil] at h3
          exact ⟨q, _, h3⟩)
        rw [List.drop_zero, List.take_of_length_le (by omega)] at this
        exact this
      · cases h
    · rename_i k e ht
      rw [Option.bind_eq_some_iff] at h
      obtain ⟨l, hl, h⟩ := h
      split at h
      · rename_i hlen
        injection h with h; subst h
        obtain ⟨xs, q, _, _, hcl, hxl, hf⟩ := DataW.trod_array ht hd
        have key : ∀ j, j ≤ k → leaves enc P w base spare held (List.replicate j l).flatten (cs.take (j * l.length)) := by
          intro j
          induction j with
          | zero => intro _; simp [leaves]
          | succ j ih =>
            intro hj
            have h3 := hf j (by omega)
            rw [List.getElem?_eq_getElem (by omega)] at h3
            have h4 := trod_flat n e l _ q _ hl h3
            rw [← hlen.1] at h4
            have := leaves_append _ _ _ _ (ih (by omega)) h4
            rw [List.replicate_succ', List.flatten_append, Nat.add_mul, Nat.one_mul, List.take_add]
            simpa using this
        have := key k (Nat.le_refl _)
        rw [List.take_of_length_le (by omega)] at this
        exact this
      · cases h
    · cases h

theorem cell_spot2 {w : World} {a : Addr} {v : Value} (h : w.cell? a = some v) : a.spot = none ∧ a.block < w.heap.size := by
  unfold World.cell? at h
  split at h
  · rename_i c _ _ hh
    split at h
    · cases h
    · rename_i hs
      exact ⟨by simpa using hs, (Array.getElem?_eq_some_iff.1 hh).1⟩
  · cases h

/-- A slice of flat elements. -/
theorem open_flat {t e : TypeId} {n k : Nat} {ls : List Leaf} {m : Nat} {v : Value} {y : DataW H × List MemPlace} (ht : P.underlying t = some (.slice e)) (hfl : flat P n e = some ls) (hk : ls.length = k) (hc : P.cellsOf e = k) (hk0 : 0 < k)
    (h : DataW.trod enc P w 0 spare held m t [v] = some y) :
    ∃ rows : List (List Value), Sl w k v rows ∧ (∀ r ∈ rows, leaves enc P w 0 spare held ls r) ∧ (y.1 = .nil ∧ rows = [] ∨ ∃ es sp, y.1 = .slice es sp ∧ es.length = rows.length) ∧ ∃ A cap, v = .slice A rows.length cap := by
  rcases open_slice ht h with ⟨hcs, hx⟩ | ⟨a, len, cap, q, z, D, Pl, hcs, _, hl, hm, hmm, hx, hi⟩
  · simp at hcs
    subst hcs
    exact ⟨[], Sl.nil _ _, by simp, .inl ⟨by rw [hx], rfl⟩, none, 0, rfl⟩
  · simp at hcs
    subst hcs
    rw [hc] at hi
    have hmle : len ≤ q := by rw [hmm]; split <;> omega
    have hel : ∀ i, i < len → ∃ r, w.cells? 0 (a.add (i * k)) k = some r ∧ leaves enc P w 0 spare held ls r := fun i hil => by
      obtain ⟨cs', h1, h2⟩ := hi i (by omega)
      exact ⟨cs', h1, trod_flat _ _ _ _ _ _ hfl h2⟩
    have hall : ∀ j, j ≤ len → ∃ l : List (List Value), l.length = j ∧ ∀ i (hil : i < l.length), w.cells? 0 (a.add (i * k)) k = some (l[i]) ∧ leaves enc P w 0 spare held ls l[i] := by
      intro j
      induction j with
      | zero => exact fun _ => ⟨[], rfl, fun i hil => absurd hil (by simp)⟩
      | succ j ih =>
        intro hj
        obtain ⟨l, h1, h2⟩ := ih (by omega)
        obtain ⟨x, hx⟩ := hel j (by omega)
        refine ⟨l ++ [x], by simp [h1], fun i hil => ?_⟩
        by_cases hik : i < l.length
        · rw [List.getElem_append_left hik]; exact h2 i hik
        · have : i = j := by simp at hil; omega
          subst this
          rw [List.getElem_append_right (by omega)]
          simp [h1, hx]
    obtain ⟨l, h1, h2⟩ := hall len (Nat.le_refl _)
    refine ⟨l, ⟨some a, cap, by rw [h1], by rw [h1]; exact hl, hm, (fun h => by cases h), fun hpos => ?_⟩, fun r hr => ?_, .inr ⟨_, _, by rw [hx], by simp [h1]⟩, some a, cap, by rw [h1]⟩
    · have hlen0 : ∀ i (hil : i < l.length), (l[i]).length = k := fun i hil => (leaves_len _ _ (h2 i hil).2).trans hk
      have hz := (World.cells?_some (h2 0 hpos).1).2.2 0 (by omega)
      rw [Nat.zero_mul] at hz
      have ha : (a.add 0).add 0 = a := by unfold Addr.add; rfl
      rw [ha, List.getElem?_eq_getElem (by rw [hlen0 0 hpos]; exact hk0)] at hz
      obtain ⟨hs, hb⟩ := cell_spot2 hz
      obtain ⟨b, off, spot⟩ := a
      simp only at hs
      subst hs
      refine ⟨b, off, rfl, hb, fun i x hix => ?_⟩
      obtain ⟨hil, rfl⟩ := List.getElem?_eq_some_iff.1 hix
      refine ⟨hlen0 i hil, fun j v hj => ?_⟩
      have hjk : j < k := by have := (List.getElem?_eq_some_iff.1 hj).1; rw [hlen0 i hil] at this; exact this
      have := (World.cells?_some (h2 i hil).1).2.2 j hjk
      rw [add_add, hj] at this
      rw [← this]
      refine congrArg _ ?_
      unfold Addr.add
      split
      · rename_i h0
        rw [show off + i * k + j = off from by omega]
      · rw [Nat.add_assoc]
    · obtain ⟨i, hil, rfl⟩ := List.getElem_of_mem hr
      exact (h2 i hil).2

/-- .. an argument: with what the row says of its size. -/
theorem open_flat_arg {t e : TypeId} {n k b : Nat} {ls : List Leaf} {v : Value} {d : DataW H} {ps : List MemPlace} {ts : List TypeId} {ds : List (DataW H)} {j : Nat} (ht : P.underlying t = some (.slice e)) (hfl : flat P n e = some ls) (hk : ls.length = k) (hc : P.cellsOf e = k) (hk0 : 0 < k) (hb : P.bytesOf e = b)
    (hsz : (DataW.weightsEach P ts ds).all (· ≤ reachBytes) = true) (hts : ts[j]? = some t) (hds : ds[j]? = some d)
    (hv : ∃ A len cap, v = .slice A len cap)
    (h : DataW.Trod enc P w 0 spare held t v d ps) :
    ∃ rows : List (List Value), Sl w k v rows ∧ (∀ r ∈ rows, leaves enc P w 0 spare held ls r) ∧ rows.length * b ≤ 140737488351232 ∧ ∃ A cap, v = .slice A rows.length cap := by
  obtain ⟨A, len, cap, rfl⟩ := hv
  obtain ⟨m, hm⟩ := h
  obtain ⟨rows, h1, h2, h3, h4⟩ := open_flat ht hfl hk hc hk0 hm
  refine ⟨rows, h1, h2, ?_, h4⟩
  rcases h3 with ⟨_, rfl⟩ | ⟨es, sp, he, hl⟩
  · simp
  · have hd' : d = .slice es sp := he
    subst hd'
    have z := sized_slice hsz hts hds ht
    rw [hb, ← hl] at *
    exact Nat.le_trans (Nat.mul_le_mul_right _ (by omega)) z

/-- Rows as a list of things. -/
theorem rows_of {α : Type} {row : α → List Value} {Q : List Value → Prop} {G : α → Prop} (hQ : ∀ r, Q r → ∃ x, r = row x ∧ G x) : ∀ (rows : List (List Value)), (∀ r ∈ rows, Q r) → ∃ l : List α, rows = l.map row ∧ ∀ x ∈ l, G x
  | [], _ => ⟨[], rfl, by simp⟩
  | r :: rows, h => by
    obtain ⟨x, rfl, hx⟩ := hQ r (h r (by simp))
    obtain ⟨l, rfl, hl⟩ := rows_of hQ rows (fun r hr => h r (by simp [hr]))
    exact ⟨x :: l, rfl, by simp [hx]; exact hl⟩
end
end Go.Proofs.YtokpoogcoeodkaaGreatDoor

/- A struct, as an argument. -/
namespace Go.Proofs.YtokpoogcoeodkaaGreatDoor
open Go Go.ChangeShapes Go.WideShapes Go.ChangeAt Go.RowKit Go.Deep

section
variable {H : Type} {enc : TypeId × Value → H} {P : Program} {w : World} {base : Nat} {spare : Nat → Bool} {held : Bool}
/-- A struct that came in. -/
theorem open_flat_struct {r : Reach} {b0 : Nat} {t : TypeId} {n : Nat} {fs : Array Field} {ls : List Leaf} {v : Value} {d : DataW H} {ps : List MemPlace} (ht : P.underlying t = some (.struct fs)) (hfl : flat P n t = some ls)
    (hval : Value.okWide P w r b0 t v) (hd : DataW.Trod enc P w base spare held t v d ps) : ∃ cs : Array Value, v = .agg cs ∧ leaves enc P w base spare held ls cs.toList := by
  unfold Value.okWide at hval
  rw [ht] at hval
  obtain ⟨cs, rfl, _, _⟩ := hval
  obtain ⟨fuel, h⟩ := hd
  exact ⟨cs, rfl, trod_flat n t ls _ _ _ hfl h⟩
end
end Go.Proofs.YtokpoogcoeodkaaGreatDoor

/- An operation of the law, as an argument. -/
namespace Go.Proofs.YtokpoogcoeodkaaGreatDoor
open Go Go.ChangeShapes Go.WideShapes Go.ChangeAt Go.RowKit Go.Deep

section
variable {H : Type} {enc : TypeId × Value → H} {P : Program} {w : World} {base : Nat} {spare : Nat → Bool} {held : Bool}

end

section
variable {H : Type} {enc : TypeId × Value → H} {w : World} {spare : Nat → Bool} {held : Bool}
def opLeaves : List Leaf := [.int .i64, .int .i64, .int .i64, .sl 38, .int .i64, .int .i64, .int .u8]
set_option maxRecDepth 100000 in
/-- Bytes that came in. -/
theorem leaf_bytes {c : Value} (h : leafOk enc Tryz.prog w 0 spare held (.sl 38) c) : ∃ (A : Option Addr) (n cap : Nat) (l : List Nat), c = .slice A n cap ∧ Byt w (.slice A n cap) l ∧ ∀ x ∈ l, x < 256 := by
  obtain ⟨m, y, hy⟩ := h
  obtain ⟨rows, hsl, hlv, _, A, cap, rfl⟩ := open_flat (n := 2) (k := 1) (ls := [.int .u8]) Tryz.underlying38 (by kernel_rfl) rfl (by kernel_rfl) (by decide) hy
  obtain ⟨l, hl, hG⟩ := rows_of (α := Nat) (row := fun x => [bv x]) (G := fun x => x < 256) (Q := fun r => leaves enc Tryz.prog w 0 spare held [.int .u8] r) (by
    intro r hr
    obtain ⟨_, r1, rfl, ⟨a, rfl, ha⟩, q1⟩ := leaves_cons hr
    obtain rfl := leaves_nil q1
    have h2 : 0 ≤ a ∧ a ≤ 255 := by simp [Lit.wf] at ha; exact ha
    refine ⟨a.toNat, ?_, by omega⟩
    show [Value.int .u8 a] = [Value.int .u8 (a.toNat : Int)]
    rw [show (a.toNat : Int) = a by omega]) rows hlv
  subst hl
  exact ⟨A, _, cap, l, rfl, hsl, hG⟩
set_option maxRecDepth 100000 in
theorem leaf_op {r : List Value} (h : leaves enc Tryz.prog w 0 spare held opLeaves r) :
    ∃ (o : OpV) (l : List Nat), r = o.row ∧ Byt w (.slice o.A o.bn o.bc) l ∧ (∀ x ∈ l, x < 256) ∧ o.mask < 256 ∧ (-9223372036854775808 ≤ o.n ∧ o.n ≤ 9223372036854775807) ∧ (-9223372036854775808 ≤ o.k ∧ o.k ≤ 9223372036854775807) ∧ (-9223372036854775808 ≤ o.sector ∧ o.sector ≤ 9223372036854775807) ∧ (-9223372036854775808 ≤ o.offset ∧ o.offset ≤ 9223372036854775807) := by
  obtain ⟨_, r1, rfl, ⟨a, rfl, ha⟩, q1⟩ := leaves_cons h
  obtain ⟨_, r2, rfl, ⟨b, rfl, hb⟩, q2⟩ := leaves_cons q1
  obtain ⟨_, r3, rfl, ⟨c, rfl, hc⟩, q3⟩ := leaves_cons q2
  obtain ⟨_, r4, rfl, hd, q4⟩ := leaves_cons q3
  obtain ⟨_, r5, rfl, ⟨e, rfl, he⟩, q5⟩ := leaves_cons q4
  obtain ⟨_, r6, rfl, ⟨f, rfl, hf⟩, q6⟩ := leaves_cons q5
  obtain ⟨_, r7, rfl, ⟨g, rfl, hg⟩, q7⟩ := leaves_cons q6
  obtain rfl := leaves_nil q7
  obtain ⟨A, n, cap, l, rfl, hy, h8⟩ := leaf_bytes hd
  have w64 : ∀ {x : Int}, (Lit.int .i64 x).wf = true → -9223372036854775808 ≤ x ∧ x ≤ 9223372036854775807 := by
    intro x hx
    simp [Lit.wf] at hx
    exact hx
  have h2 : 0 ≤ g ∧ g ≤ 255 := by simp [Lit.wf] at hg; exact hg
  refine ⟨⟨a, b, c, A, n, cap, e, f, g.toNat⟩, l, ?_, hy, h8, by show g.toNat < 256; omega, w64 he, w64 hf, w64 hb, w64 hc⟩
  show _ = [i64 a, i64 b, i64 c, .slice A n cap, i64 e, i64 f, Value.int .u8 (g.toNat : Int)]
  rw [show (g.toNat : Int) = g by omega]
end
end Go.Proofs.YtokpoogcoeodkaaGreatDoor

