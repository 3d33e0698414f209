/- Maps in memory: a block that is a map reads as a list of keys and values; looked up, stored into, struck out, gone through. -/
import Derived.Test.YthiimpleljaimaaGreatDoorPh
import Derived.Maps.RangeWalk
import Derived.Maps.OwnOps
namespace Go.Proofs.YthiimpleljaimaaGreatDoor
open Go Go.RowKit

section
variable {P : Program} {κ : Type} {mk : κ → Value}

/-- What the laws need of the keys' type. -/
structure KeyLaws (P : Program) (k : TypeId) (mk : κ → Value) : Prop where
  inj : ∀ a b, mk a = mk b → a = b
  check : ∀ (w : World) (em : Bool) x, (Instr.checkKey em 10000 k (mk x)).run P w = .ok () w
  find : ∀ (w : World) x (es : List MapEntry), (∀ e ∈ es, ∃ y, e.key = mk y) →
    ((Instr.findKey k (mk x) es).run P w = .ok none w ∧ ∀ e ∈ es, e.key ≠ mk x) ∨ ∃ j e, (Instr.findKey k (mk x) es).run P w = .ok (some (j, e.val)) w ∧ es[j]? = some e ∧ e.key = mk x
  stays : ∀ (w : World) x, (Instr.keyThatStays (mk x) (mk x)).run P w = .ok (mk x) w

theorem keys_plain {k : TypeId} {d : TypeDesc} (hk : P.underlying k = some d) (hd : ∀ x, MapKept.IsKey d (mk x)) (hi : ∀ a b, mk a = mk b → a = b) : KeyLaws P k mk where
  inj := hi
  check w em x := MapKept.run_checkKey hk (hd x) em 9999
  find w x es h := by
    rcases MapKept.findNow_spec (hd x) es 0 (fun e he => by obtain ⟨y, hy⟩ := h e he; rw [hy]; exact hd y) with ⟨h1, h2⟩ | ⟨j, e, h1, h2, h3⟩
    · exact .inl ⟨MapKept.run_findKey hk h1, h2⟩
    · exact .inr ⟨j, e, by simpa using MapKept.run_findKey hk h1, h2, h3⟩
  stays w x := MapKept.run_keyThatStays (hd x)
theorem keys_int {k : TypeId} {q : IntKind} (hk : P.underlying k = some (.int q)) : KeyLaws P k (Value.int q) := keys_plain hk (fun _ => rfl) (fun a b h => by injection h)
theorem keys_string {k : TypeId} (hk : P.underlying k = some .string) : KeyLaws P k Value.string := keys_plain hk (fun _ => trivial) (fun a b h => by injection h)

/-! ### The block -/
abbrev ent (mk : κ → Value) (p : κ × Value × Nat) : MapEntry := { key := mk p.1, val := p.2.1, born := p.2.2 }
/-- The entries L under the clock c read as l. -/
structure Ents (L : List (κ × Value × Nat)) (c : Nat) (l : List (κ × Value)) : Prop where
  eq : l = L.map fun p => (p.1, p.2.1)
  keys : (L.map fun p => p.1).Nodup
  clock : ∀ p ∈ L, p.2.2 < c
  born : (L.map fun p => p.2.2).Nodup
/-- Block b is a map that reads as l. -/
def MapR (mk : κ → Value) (w : World) (b : Nat) (l : List (κ × Value)) : Prop := ∃ L c, w.heap[b]? = some (.map (L.map (ent mk)).toArray c) ∧ Ents L c l

variable {w : World} {b : Nat} {l : List (κ × Value)}

theorem MapR.nodup (h : MapR mk w b l) : (l.map Prod.fst).Nodup := by
  obtain ⟨L, c, _, E⟩ := h
  rw [E.eq, List.map_map]
  exact E.keys
theorem MapR.lt (h : MapR mk w b l) : b < w.heap.size := by
  obtain ⟨L, c, hb, _⟩ := h
  exact (Array.getElem?_eq_some_iff.1 hb).1
theorem MapR.of_block {w' : World} (h : MapR mk w b l) (hb : w'.heap[b]? = w.heap[b]?) : MapR mk w' b l := by
  obtain ⟨L, c, hh, E⟩ := h
  exact ⟨L, c, hb.trans hh, E⟩
theorem MapR.below {w' : World} (h : MapR mk w b l) (hb : Below w.heap.size w w') : MapR mk w' b l := h.of_block (hb.block b h.lt)
theorem MapR.grown {w' : World} {row : Option Nat} (h : MapR mk w b l) (hg : w.grownBy w' row) (hne : some b ≠ row) : MapR mk w' b l := h.of_block (hg.block b h.lt hne)
theorem MapR.alloc (h : MapR mk w b l) (o : Obj) : MapR mk (w.alloc o) b l := h.below (Base.al (Below.refl _ _) o)
theorem MapR.made (mk : κ → Value) (w : World) : MapR mk (w.alloc (.map #[] 0)) w.heap.size [] :=
  ⟨[], 0, blk_new _ _, ⟨rfl, by simp, by simp, by simp⟩⟩

variable [DecidableEq κ]
/-! ### Lists of keys and values -/
def mget (l : List (κ × Value)) (x : κ) : Option Value := (l.find? fun p => decide (p.1 = x)).map Prod.snd
def mput (l : List (κ × Value)) (x : κ) (v : Value) : List (κ × Value) := if (mget l x).isSome then l.map fun p => if p.1 = x then (x, v) else p else l ++ [(x, v)]
def mdel (l : List (κ × Value)) (x : κ) : List (κ × Value) := l.filter fun p => decide (p.1 ≠ x)

theorem mget_none {l : List (κ × Value)} {x : κ} : mget l x = none ↔ ∀ p ∈ l, p.1 ≠ x := by
  unfold mget
  rw [Option.map_eq_none_iff, List.find?_eq_none]
  simp
theorem mget_isSome {l : List (κ × Value)} {x : κ} : (mget l x).isSome = true ↔ x ∈ l.map Prod.fst := by
  rw [Option.isSome_iff_ne_none, Ne, mget_none]
  simp only [List.mem_map]
  constructor
  · intro h
    exact Classical.byContradiction fun g => h fun p hp e => g ⟨p, hp, e⟩
  · rintro ⟨p, hp, rfl⟩ h
    exact h p hp rfl
theorem mget_some {l : List (κ × Value)} (hn : (l.map Prod.fst).Nodup) {x : κ} {v : Value} : mget l x = some v ↔ (x, v) ∈ l := by
  induction l with
  | nil => simp [mget]
  | cons p l ih =>
    rw [List.map_cons, List.nodup_cons] at hn
    unfold mget at *
    rw [List.find?_cons]
    by_cases h : p.1 = x
    · simp only [h, decide_true, Option.map_some, List.mem_cons]
      constructor
      · intro e; left; injection e with e; rw [← e, ← h]
      · rintro (e | e)
        · rw [← e]
        · exact absurd (List.mem_map.2 ⟨_, e, h.symm⟩) hn.1
    · simp only [h, decide_false, List.mem_cons]
      rw [ih hn.2]
      constructor
      · exact .inr
      · rintro (e | e)
        · rw [← e] at h; exact absurd rfl h
        · exact e
theorem mput_keys (l : List (κ × Value)) (x : κ) (v : Value) : (mput l x v).map Prod.fst = if (mget l x).isSome then l.map Prod.fst else l.map Prod.fst ++ [x] := by
  unfold mput
  split
  · rw [List.map_map]
    refine List.map_congr_left fun p _ => ?_
    simp only [Function.comp]
    split
    · rename_i h; exact h.symm
    · rfl
  · simp
theorem mput_nodup {l : List (κ × Value)} (hn : (l.map Prod.fst).Nodup) (x : κ) (v : Value) : ((mput l x v).map Prod.fst).Nodup := by
  rw [mput_keys]
  split
  · exact hn
  · rename_i h
    rw [mget_isSome] at h
    exact List.nodup_append.2 ⟨hn, by simp, fun a ha b hb => by simp at hb; subst hb; intro e; subst e; exact h ha⟩
theorem mget_mput {l : List (κ × Value)} (hn : (l.map Prod.fst).Nodup) (x y : κ) (v : Value) : mget (mput l x v) y = if y = x then some v else mget l y := by
  apply Option.ext
  intro u
  rw [mget_some (mput_nodup hn x v)]
  by_cases hy : y = x
  · subst hy
    rw [if_pos rfl]
    unfold mput
    split
    · rename_i h
      obtain ⟨u0, hu0⟩ := Option.isSome_iff_exists.1 h
      have hm := (mget_some hn).1 hu0
      constructor
      · intro hu
        obtain ⟨p, hp, hpe⟩ := List.mem_map.1 hu
        split at hpe
        · rw [← (Prod.mk.inj hpe).2]
        · rename_i hne; rw [hpe] at hne; exact absurd rfl hne
      · intro e
        injection e with e
        subst e
        exact List.mem_map.2 ⟨_, hm, by simp⟩
    · rename_i h
      rw [mget_isSome] at h
      simp only [List.mem_append, List.mem_singleton, Prod.mk.injEq, true_and, Option.some.injEq]
      constructor
      · rintro (e | e)
        · exact absurd (List.mem_map.2 ⟨_, e, rfl⟩) h
        · exact e.symm
      · intro e; exact .inr e.symm
  · rw [if_neg hy, mget_some hn]
    unfold mput
    split
    · constructor
      · intro hu
        obtain ⟨p, hp, hpe⟩ := List.mem_map.1 hu
        split at hpe
        · exact absurd (Prod.mk.inj hpe).1.symm hy
        · rw [← hpe]; exact hp
      · intro hu
        exact List.mem_map.2 ⟨_, hu, by simp [hy]⟩
    · simp [hy]

theorem ents_find {k : TypeId} (K : KeyLaws P k mk) {L : List (κ × Value × Nat)} {c : Nat} (E : Ents L c l) (w : World) (x : κ) :
    (mget l x = none ∧ (Instr.findKey k (mk x) (L.map (ent mk))).run P w = .ok none w) ∨
    ∃ j p, L[j]? = some p ∧ p.1 = x ∧ mget l x = some p.2.1 ∧ (Instr.findKey k (mk x) (L.map (ent mk))).run P w = .ok (some (j, p.2.1)) w := by
  have hk : ∀ e ∈ L.map (ent mk), ∃ y, e.key = mk y := fun e he => by
    obtain ⟨p, _, rfl⟩ := List.mem_map.1 he
    exact ⟨p.1, rfl⟩
  have hn : (l.map Prod.fst).Nodup := by rw [E.eq, List.map_map]; exact E.keys
  rcases K.find w x _ hk with ⟨h1, h2⟩ | ⟨j, e, h1, h2, h3⟩
  · refine .inl ⟨mget_none.2 fun p hp => ?_, h1⟩
    rw [E.eq] at hp
    obtain ⟨q, hq, rfl⟩ := List.mem_map.1 hp
    intro he
    exact h2 _ (List.mem_map.2 ⟨q, hq, rfl⟩) (by show mk q.1 = mk x; rw [← he])
  · rw [List.getElem?_map, Option.map_eq_some_iff] at h2
    obtain ⟨p, hp, rfl⟩ := h2
    have hx : p.1 = x := K.inj _ _ h3
    refine .inr ⟨j, p, hp, hx, (mget_some hn).2 ?_, h1⟩
    rw [E.eq]
    exact List.mem_map.2 ⟨p, List.mem_of_getElem? hp, by rw [hx]⟩

/-- 'm[x]', 'v, ok := m[x]'. -/
theorem MapR.lookup {k e t : TypeId} {z : Value} (h : MapR mk w b l) (K : KeyLaws P k mk) (ht : P.underlying t = some (.map k e)) (hz : (zeroValue e).run P w = .ok z w) (x : κ) (c : Bool) :
    (Instr.lookup t (.map (some b)) (mk x) c).run P w = .ok (if c then .tuple #[(mget l x).getD z, .bool (mget l x).isSome] else (mget l x).getD z) w := by
  obtain ⟨L, cl, hb, E⟩ := h
  rcases ents_find K E w x with ⟨h1, h2⟩ | ⟨j, p, _, _, h1, h2⟩
  · simp [Instr.lookup, run_underlying ht, MapKept.run_getObj_map hb, K.check w, h2, hz, h1, Result.andThen]
  · simp [Instr.lookup, run_underlying ht, MapKept.run_getObj_map hb, K.check w, h2, h1, Result.andThen]

theorem grown_block (w : World) {b : Nat} (o' : Obj) : w.grownBy (ChangeMaps.setBlock w b o') (some b) :=
  ⟨rfl, rfl, rfl, by simp [ChangeMaps.setBlock], fun i _ hi => by
    have : i ≠ b := fun e => hi (by rw [e])
    simp [ChangeMaps.setBlock, Array.getElem?_setIfInBounds_ne (Ne.symm this)]⟩

/-- 'm[x] = v'. -/
theorem MapR.update {k e t : TypeId} (h : MapR mk w b l) (K : KeyLaws P k mk) (ht : P.underlying t = some (.map k e)) (x : κ) (v : Value) :
    ∃ w', (Instr.mapUpdate t (.map (some b)) (mk x) v).run P w = .ok () w' ∧ MapR mk w' b (mput l x v) ∧ w.grownBy w' (some b) ∧ w'.heap.size = w.heap.size := by
  obtain ⟨L, cl, hb, E⟩ := h
  have hlt := (Array.getElem?_eq_some_iff.1 hb).1
  rcases ents_find K E w x with ⟨h1, h2⟩ | ⟨j, p, hj, hx, h1, h2⟩
  · have hkey : x ∉ L.map fun p => p.1 := by
      intro hm
      obtain ⟨p, hp, rfl⟩ := List.mem_map.1 hm
      exact mget_none.1 h1 (p.1, p.2.1) (by rw [E.eq]; exact List.mem_map.2 ⟨p, hp, rfl⟩) rfl
    refine ⟨ChangeMaps.setBlock w b (.map ((L ++ [(x, v, cl)]).map (ent mk)).toArray (cl + 1)), ?_, ⟨L ++ [(x, v, cl)], cl + 1, by simp [ChangeMaps.setBlock, hlt], ⟨?_, ?_, ?_, ?_⟩⟩, grown_block w _, by simp [ChangeMaps.setBlock]⟩
    · simp [Instr.mapUpdate, run_underlying ht, MapKept.run_getObj_map hb, K.check w, h2, MapKept.run_setObj_map _ hb, Result.andThen, ChangeMaps.setBlock]
    · unfold mput
      rw [h1, E.eq]
      simp
    · rw [List.map_append]
      exact List.nodup_append.2 ⟨E.keys, by simp, fun a ha b hb => by simp at hb; subst hb; intro e; subst e; exact hkey ha⟩
    · intro p hp
      rcases List.mem_append.1 hp with hp | hp
      · exact Nat.lt_succ_of_lt (E.clock p hp)
      · simp at hp; subst hp; exact Nat.lt_succ_self _
    · rw [List.map_append]
      refine List.nodup_append.2 ⟨E.born, by simp, fun a ha b hb => ?_⟩
      simp at hb; subst hb
      obtain ⟨p, hp, rfl⟩ := List.mem_map.1 ha
      exact Nat.ne_of_lt (E.clock p hp)
  · have hjl := (List.getElem?_eq_some_iff.1 hj).1
    have hmod : ((L.map (ent mk)).toArray.modify j fun e => { e with key := mk x, val := v }) = ((L.modify j fun p => (x, v, p.2.2)).map (ent mk)).toArray := by
      apply Array.ext'
      apply List.ext_getElem?
      intro i
      simp only [Array.getElem?_toList, Array.getElem?_modify, List.getElem?_toArray, List.getElem?_map, List.getElem?_modify]
      by_cases hij : j = i
      · subst hij; cases L[j]? <;> simp
      · simp [hij]
    have hL : (L.modify j fun p => (x, v, p.2.2)) = L.map fun q => if q.1 = x then (x, v, q.2.2) else q := by
      apply List.ext_getElem?
      intro i
      rw [List.getElem?_modify, List.getElem?_map]
      cases hi : L[i]? with
      | none => simp
      | some q =>
        simp only [Option.map_some]
        by_cases hij : j = i
        · subst hij
          rw [hj] at hi
          injection hi with hi
          subst hi
          simp [hx]
        · have hq : q.1 ≠ x := by
            intro hq
            obtain ⟨hjl, hjp⟩ := List.getElem?_eq_some_iff.1 hj
            obtain ⟨hil, hiq⟩ := List.getElem?_eq_some_iff.1 hi
            have hpw := List.pairwise_iff_getElem.1 E.keys
            rcases Nat.lt_or_gt_of_ne hij with h | h
            · refine hpw j i (by simpa using hjl) (by simpa using hil) h ?_
              rw [List.getElem_map, List.getElem_map, hjp, hiq, hx, hq]
            · refine hpw i j (by simpa using hil) (by simpa using hjl) h ?_
              rw [List.getElem_map, List.getElem_map, hjp, hiq, hx, hq]
          simp [hij, hq]
    have hfst : (L.map fun q => if q.1 = x then (x, v, q.2.2) else q).map (fun p => p.1) = L.map fun p => p.1 := by
      rw [List.map_map]
      refine List.map_congr_left fun q _ => ?_
      simp only [Function.comp]
      split
      · rename_i h; exact h.symm
      · rfl
    have hbr : (L.map fun q => if q.1 = x then (x, v, q.2.2) else q).map (fun p => p.2.2) = L.map fun p => p.2.2 := by
      rw [List.map_map]
      refine List.map_congr_left fun q _ => ?_
      simp only [Function.comp]
      split <;> rfl
    refine ⟨ChangeMaps.setBlock w b (.map ((L.modify j fun p => (x, v, p.2.2)).map (ent mk)).toArray cl), ?_, ⟨L.modify j fun p => (x, v, p.2.2), cl, by simp [ChangeMaps.setBlock, hlt], ⟨?_, ?_, ?_, ?_⟩⟩, grown_block w _, by simp [ChangeMaps.setBlock]⟩
    · have hkj : ((L.map (ent mk)).toArray[j]?.map (·.key)).getD (mk x) = mk x := by simp [hj, hx]
      simp only [Instr.mapUpdate, Sem.run_bind, run_underlying ht, Result.andThen_ok, MapKept.run_getObj_map hb, K.check w, h2, hkj, K.stays w]
      simp only [MapKept.run_setObj_map _ hb, ChangeMaps.setBlock, hmod]
    · unfold mput
      rw [h1, hL, E.eq, if_pos (by rfl), List.map_map, List.map_map]
      refine List.map_congr_left fun q _ => ?_
      simp only [Function.comp]
      split <;> rfl
    · rw [hL, hfst]; exact E.keys
    · intro p hp
      rw [hL] at hp
      obtain ⟨q, hq, rfl⟩ := List.mem_map.1 hp
      split
      · exact E.clock q hq
      · exact E.clock q hq
    · rw [hL, hbr]; exact E.born

/-! ### Gone through -/
/-- Block r goes through the map b, that reads as l; the keys S have come out. -/
def RangeR (mk : κ → Value) (w : World) (b r : Nat) (l : List (κ × Value)) (S : List κ) : Prop :=
  ∃ L c since seen c0, w.heap[b]? = some (.map (L.map (ent mk)).toArray c) ∧ Ents L c l ∧ w.heap[r]? = some (.mapIter (some b) since seen c0) ∧ (∀ p ∈ L, p.2.2 < since) ∧ since ≤ c0 ∧ since ≤ c ∧
    S.Nodup ∧ (∀ x ∈ S, x ∈ l.map Prod.fst) ∧ ∀ p ∈ L, seen.contains p.2.2 = decide (p.1 ∈ S)

variable {r : Nat} {S : List κ}
theorem RangeR.map (h : RangeR mk w b r l S) : MapR mk w b l := by
  obtain ⟨L, c, _, _, _, hb, E, _⟩ := h
  exact ⟨L, c, hb, E⟩
theorem RangeR.lt (h : RangeR mk w b r l S) : r < w.heap.size := by
  obtain ⟨L, c, _, _, _, hb, E, hr, _⟩ := h
  exact (Array.getElem?_eq_some_iff.1 hr).1
theorem RangeR.ne (h : RangeR mk w b r l S) : r ≠ b := by
  obtain ⟨L, c, _, _, _, hb, E, hr, _⟩ := h
  intro e
  rw [e, hb] at hr
  cases hr
theorem RangeR.of_blocks {w' : World} (h : RangeR mk w b r l S) (hb : w'.heap[b]? = w.heap[b]?) (hr : w'.heap[r]? = w.heap[r]?) : RangeR mk w' b r l S := by
  obtain ⟨L, c, since, seen, c0, h1, h2, h3, h4⟩ := h
  exact ⟨L, c, since, seen, c0, hb.trans h1, h2, hr.trans h3, h4⟩
theorem RangeR.below {w' : World} (h : RangeR mk w b r l S) (hb : Below w.heap.size w w') : RangeR mk w' b r l S := h.of_blocks (hb.block b h.map.lt) (hb.block r h.lt)
theorem RangeR.grown {w' : World} {row : Option Nat} (h : RangeR mk w b r l S) (hg : w.grownBy w' row) (h1 : some b ≠ row) (h2 : some r ≠ row) : RangeR mk w' b r l S := h.of_blocks (hg.block b h.map.lt h1) (hg.block r h.lt h2)

theorem rangeLeft_same {w' : World} (hb : w'.heap[b]? = w.heap[b]?) (hr : w'.heap[r]? = w.heap[r]?) : w'.rangeLeft b r = w.rangeLeft b r := by
  unfold World.rangeLeft
  rw [hb, hr]

/-- 'range m'. -/
theorem MapR.range {t k e : TypeId} (h : MapR mk w b l) (ht : P.underlying t = some (.map k e)) :
    ∃ w', (Instr.range t (.map (some b))).run P w = .ok (.pointer (some ⟨w.heap.size, 0, none⟩)) w' ∧ RangeR mk w' b w.heap.size l [] ∧ Below w.heap.size w w' ∧ w'.heap.size = w.heap.size + 1 := by
  have hlt := h.lt
  obtain ⟨L, c, hb, E⟩ := h
  refine ⟨_, run_range_map w t k e b _ c ht hb, ⟨L, c, c, #[], c, blk_old hb, E, blk_new _ _, E.clock, Nat.le_refl _, Nat.le_refl _, by simp, by simp, by simp⟩, Base.al (Below.refl _ _) _, by simp⟩

theorem RangeR.next (h : RangeR mk w b r l S) (ty : TypeId) :
    ((∀ x ∈ l.map Prod.fst, x ∈ S) ∧ (Instr.next (.pointer (some ⟨r, 0, none⟩)) false ty).run P w = .ok (.tuple #[.bool false]) w) ∨
    ∃ x v w', (x, v) ∈ l ∧ x ∉ S ∧ (Instr.next (.pointer (some ⟨r, 0, none⟩)) false ty).run P w = .ok (.tuple #[.bool true, mk x, v]) w' ∧ RangeR mk w' b r l (S ++ [x]) ∧ w'.rangeLeft b r < w.rangeLeft b r ∧
      w.grownBy w' (some r) ∧ w'.heap.size = w.heap.size ∧ (Instr.entry (.pointer (some ⟨r, 0, none⟩))).run P w' = .ok (.tuple #[mk x, v]) w' := by
  have hne := h.ne
  obtain ⟨L, c, since, seen, c0, hb, E, hr, hold, h0, h1, hS, hSk, hseen⟩ := h
  have hold' : ∀ x ∈ (L.map (ent mk)).toArray.toList, x.born < since := fun x hx => by
    obtain ⟨p, hp, rfl⟩ := List.mem_map.1 (show x ∈ L.map (ent mk) from hx)
    exact hold p hp
  rcases run_next_at (P := P) w ty r b since c0 seen _ c hr hb hold' h0 with ⟨hz, hrun⟩ | ⟨e, he, w1, hal, hrun⟩
  · refine .inl ⟨fun x hx => ?_, hrun⟩
    rw [E.eq, List.map_map] at hx
    obtain ⟨p, hp, rfl⟩ := List.mem_map.1 hx
    have := all_seen _ seen hz (ent mk p) (show ent mk p ∈ L.map (ent mk) from List.mem_map.2 ⟨p, hp, rfl⟩)
    rw [show (ent mk p).born = p.2.2 from rfl, hseen p hp] at this
    exact of_decide_eq_true this
  · obtain ⟨hem, hes⟩ := mem_left he
    obtain ⟨p, hp, rfl⟩ := List.mem_map.1 (show e ∈ L.map (ent mk) from hem)
    have hpS : p.1 ∉ S := by
      rw [show (ent mk p).born = p.2.2 from rfl, hseen p hp] at hes
      exact of_decide_eq_false hes
    have hr1 : w1.heap[r]? = some (.mapIter (some b) since seen c0) := by rcases hal with rfl | rfl <;> exact hr
    have hb1 : w1.heap[b]? = some (.map (L.map (ent mk)).toArray c) := by rcases hal with rfl | rfl <;> exact hb
    have hset := MapKept.heap_set (o' := .mapIter (some b) since (seen.push (ent mk p).born) c) hr1
    have hb' := (hset.2 b (fun e1 => hne e1.symm)).trans hb1
    have hl : (p.1, p.2.1) ∈ l := by rw [E.eq]; exact List.mem_map.2 ⟨p, hp, rfl⟩
    refine .inr ⟨p.1, p.2.1, _, hl, hpS, hrun, ⟨L, c, since, seen.push p.2.2, c, hb', E, hset.1, hold, h1, h1, ?_, ?_, ?_⟩, ?_, ?_, ?_, ?_⟩
    · exact List.nodup_append.2 ⟨hS, by simp, fun a ha x hx => by simp at hx; subst hx; intro e; subst e; exact hpS ha⟩
    · intro x hx
      rcases List.mem_append.1 hx with hx | hx
      · exact hSk x hx
      · simp at hx; subst hx; exact List.mem_map.2 ⟨_, hl, rfl⟩
    · intro q hq
      rw [contains_push, hseen q hq]
      by_cases hqp : q.2.2 = p.2.2
      · have : q = p := by
          obtain ⟨i, hi, rfl⟩ := List.mem_iff_getElem.1 hq
          obtain ⟨j, hj, rfl⟩ := List.mem_iff_getElem.1 hp
          have hij : i = j := by
            have hpw := List.pairwise_iff_getElem.1 E.born
            rcases Nat.lt_trichotomy i j with h | h | h
            · exact absurd (by rw [List.getElem_map, List.getElem_map]; exact hqp) (hpw i j (by simpa using hi) (by simpa using hj) h)
            · exact h
            · exact absurd (by rw [List.getElem_map, List.getElem_map]; exact hqp.symm) (hpw j i (by simpa using hj) (by simpa using hi) h)
          subst hij; rfl
        subst this
        simp
      · have hqk : q.1 ≠ p.1 := by
          intro hqk
          apply hqp
          obtain ⟨i, hi, rfl⟩ := List.mem_iff_getElem.1 hq
          obtain ⟨j, hj, rfl⟩ := List.mem_iff_getElem.1 hp
          have hij : i = j := by
            have hpw := List.pairwise_iff_getElem.1 E.keys
            rcases Nat.lt_trichotomy i j with h | h | h
            · exact absurd (by rw [List.getElem_map, List.getElem_map]; exact hqk) (hpw i j (by simpa using hi) (by simpa using hj) h)
            · exact h
            · exact absurd (by rw [List.getElem_map, List.getElem_map]; exact hqk.symm) (hpw j i (by simpa using hj) (by simpa using hi) h)
          subst hij; rfl
        simp [hqp, hqk]
    · unfold World.rangeLeft
      rw [hb, hr, show (ChangeMaps.setBlock w1 r (.mapIter (some b) since (seen.push p.2.2) c)).heap[b]? = _ from hb', show (ChangeMaps.setBlock w1 r (.mapIter (some b) since (seen.push p.2.2) c)).heap[r]? = _ from hset.1]
      exact left_shrinks _ seen (ent mk p) he
    · rcases hal with rfl | rfl <;> exact ⟨rfl, rfl, rfl, by simp [ChangeMaps.setBlock], fun i _ hi => hset.2 i (fun e1 => hi (by rw [e1]))⟩
    · rcases hal with rfl | rfl <;> simp [ChangeMaps.setBlock]
    · refine run_entry_at _ r b since seen _ c (ent mk p) hset.1 hb' (show ent mk p ∈ L.map (ent mk) from List.mem_map.2 ⟨p, hp, rfl⟩) ?_
      have : ((L.map (ent mk)).toArray.toList.map (·.born)) = L.map fun p => p.2.2 := by simp [Function.comp_def]
      rw [this]
      exact E.born

/-- 'range m' at the operation; 'go_frame' ahead of the loop. -/
theorem wpList_range_R {ops : Array Oper} {rest : List Oper} {o : Oper} {a : Act} {Q : Exit → Act → World → Prop} (hg : o.guard = none) (m : Operand) (t : TypeId) (hop : o.op = Op.range t m) (k e : TypeId) (ht : P.underlying t = some (.map k e))
    (hm : a.eval m = .map (some b)) (h : MapR mk w b l)
    (hK : ∀ w', RangeR mk w' b w.heap.size l [] → Below w.heap.size w w' → w'.heap.size = w.heap.size + 1 → wpList P ops Q rest (a.put o.dst (.pointer (some ⟨w.heap.size, 0, none⟩))) w') : wpList P ops Q (o :: rest) a w := by
  refine wpList_plain hg fun K' hK' => ?_
  obtain ⟨w', hrun, r1, r2, r3⟩ := h.range (P := P) ht
  unfold Oper.wp
  simp [execOp, hop, hm, hrun, Result.andThen]
  exact hK' _ _ (hK w' r1 r2 r3)
/-- The loop's step. -/
theorem wpList_next_R {ops : Array Oper} {rest : List Oper} {o : Oper} {a : Act} {Q : Exit → Act → World → Prop} (hg : o.guard = none) (it : Operand) (hop : o.op = Op.next it false) (hit : a.eval it = .pointer (some ⟨r, 0, none⟩)) (h : RangeR mk w b r l S)
    (hDone : (∀ x ∈ l.map Prod.fst, x ∈ S) → wpList P ops Q rest (a.put o.dst (.tuple #[.bool false])) w)
    (hMore : ∀ x v w', (x, v) ∈ l → x ∉ S → RangeR mk w' b r l (S ++ [x]) → w'.rangeLeft b r < w.rangeLeft b r → w.grownBy w' (some r) → w'.heap.size = w.heap.size →
      (Instr.entry (.pointer (some ⟨r, 0, none⟩))).run P w' = .ok (.tuple #[mk x, v]) w' → wpList P ops Q rest (a.put o.dst (.tuple #[.bool true, mk x, v])) w') : wpList P ops Q (o :: rest) a w := by
  refine wpList_plain hg fun K' hK' => ?_
  unfold Oper.wp
  rcases h.next (P := P) o.type with ⟨h0, hrun⟩ | ⟨x, v, w', h1, h2, hrun, h3, h4, h5, h6, h7⟩
  · simp [execOp, hop, hit, hrun, Result.andThen]
    exact hK' _ _ (hDone h0)
  · simp [execOp, hop, hit, hrun, Result.andThen]
    exact hK' _ _ (hMore x v w' h1 h2 h3 h4 h5 h6 h7)
/-- 'm[x] = v' at the operation. -/
theorem wpList_update_R {ops : Array Oper} {rest : List Oper} {o : Oper} {a : Act} {Q : Exit → Act → World → Prop} (hg : o.guard = none) (t : TypeId) (m kx vx : Operand) (hop : o.op = Op.mapUpdate t m kx vx) (k e : TypeId) (K : KeyLaws P k mk) (ht : P.underlying t = some (.map k e))
    (hm : a.eval m = .map (some b)) (x : κ) (hk : a.eval kx = mk x) (v : Value) (hv : a.eval vx = v) (h : MapR mk w b l)
    (hK : ∀ w', MapR mk w' b (mput l x v) → w.grownBy w' (some b) → w'.heap.size = w.heap.size → wpList P ops Q rest (a.put o.dst undef) w') : wpList P ops Q (o :: rest) a w := by
  refine wpList_plain hg fun K' hK' => ?_
  obtain ⟨w', hrun, r1, r2, r3⟩ := h.update K ht x v
  unfold Oper.wp
  simp [execOp, hop, hm, hk, hv, hrun, Result.andThen]
  exact hK' _ _ (hK w' r1 r2 r3)
end
end Go.Proofs.YthiimpleljaimaaGreatDoor
