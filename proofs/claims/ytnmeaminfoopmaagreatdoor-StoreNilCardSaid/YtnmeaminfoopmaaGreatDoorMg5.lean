/- When a ring is whole, in plain words; the order changes nothing of it. -/
import Derived.Test.YtnmeaminfoopmaaGreatDoorRingC
namespace Go.Proofs.YtnmeaminfoopmaaGreatDoor
open Go.RowKit Flo

def wholeP (l : List Found) : Prop :=
  (∀ f ∈ l, f.item.count = l.length ∧ 0 ≤ f.item.index ∧ f.item.index < l.length) ∧ (l.map fun f => f.item.index).Nodup ∧
  ∀ f ∈ l, ∀ g ∈ l, g.item.index = (f.item.index + 1) % l.length → cxEq f.item.a f.item.b g.at0 g.at1 = true

theorem fd_mem {l : List Found} {k : Nat} (h : k < l.length) : fd l k ∈ l := by simp [fd, List.getD, h]
theorem mem_fd {l : List Found} {f : Found} (h : f ∈ l) : ∃ k, k < l.length ∧ fd l k = f := by
  obtain ⟨k, hk, rfl⟩ := List.mem_iff_getElem.1 h
  exact ⟨k, hk, by simp [fd, List.getD, hk]⟩
theorem nodup_fd {l : List Found} (h : (l.map fun f => f.item.index).Nodup) {p q : Nat} (hp : p < l.length) (hq : q < l.length) (he : (fd l p).item.index = (fd l q).item.index) : p = q := by
  have hpw := List.pairwise_iff_getElem.1 h
  simp only [fd, List.getD, List.getElem?_eq_getElem hp, List.getElem?_eq_getElem hq, Option.getD_some] at he
  rcases Nat.lt_trichotomy p q with h1 | h1 | h1
  · exact absurd (by rw [List.getElem_map, List.getElem_map]; exact he) (hpw p q (by simpa using hp) (by simpa using hq) h1)
  · exact h1
  · exact absurd (by rw [List.getElem_map, List.getElem_map]; exact he.symm) (hpw q p (by simpa using hq) (by simpa using hp) h1)

theorem fillTo_ok {l : List Found} (h1 : ∀ f ∈ l, f.item.count = l.length ∧ 0 ≤ f.item.index ∧ f.item.index < l.length) (h2 : (l.map fun f => f.item.index).Nodup) : ∀ k, k ≤ l.length → ∃ f, fillTo l k = some f ∧ ∀ j p, f j = some p → p < k ∧ (fd l p).item.index = j
  | 0, _ => ⟨_, rfl, by simp⟩
  | k + 1, hk => by
    obtain ⟨f, hf, hs⟩ := fillTo_ok h1 h2 k (by omega)
    obtain ⟨c1, c2, c3⟩ := h1 _ (fd_mem (l := l) (k := k) (by omega))
    have hno : (f (fd l k).item.index.toNat).isSome = false := by
      cases hp : f (fd l k).item.index.toNat with
      | none => rfl
      | some p =>
        obtain ⟨q1, q2⟩ := hs _ _ hp
        have := nodup_fd h2 (p := p) (q := k) (by omega) (by omega) (by omega)
        omega
    refine ⟨fun j => if j = (fd l k).item.index.toNat then some k else f j, ?_, fun j p hj => ?_⟩
    · unfold fillTo
      rw [hf]
      simp only
      rw [if_neg]
      rw [hno, c1]
      rintro (h | h | h | h)
      · exact h rfl
      · omega
      · omega
      · cases h
    · simp only at hj
      split at hj
      · rename_i e
        injection hj with hj
        subst hj
        exact ⟨by omega, by omega⟩
      · obtain ⟨q1, q2⟩ := hs j p hj
        exact ⟨by omega, q2⟩

theorem wholeB_iff {l : List Found} (hpos : 0 < l.length) : wholeB l = true ↔ wholeP l := by
  constructor
  · intro h
    unfold wholeB at h
    split at h
    · cases h
    · rename_i h0
      cases hf : fillTo l l.length with
      | none => rw [hf] at h; cases h
      | some f =>
        rw [hf] at h
        obtain ⟨s1, s2⟩ := fillTo_spec hf
        refine ⟨fun x hx => ?_, ?_, fun x hx y hy hxy => ?_⟩
        · obtain ⟨p, hp, rfl⟩ := mem_fd hx
          obtain ⟨q1, q2, q3, _⟩ := s2 p hp
          exact ⟨q3, q1, q2⟩
        · refine List.pairwise_iff_getElem.2 fun i j hi hj hij he => ?_
          rw [List.length_map] at hi hj
          rw [List.getElem_map, List.getElem_map] at he
          have e1 := (s2 i hi).2.2.2
          have e2 := (s2 j hj).2.2.2
          have f1 : fd l i = l[i] := by simp [fd, List.getD, hi]
          have f2 : fd l j = l[j] := by simp [fd, List.getD, hj]
          rw [f1, he, ← f2, e2] at e1
          injection e1 with e1
          omega
        · obtain ⟨p, hp, rfl⟩ := mem_fd hx
          obtain ⟨q, hq, rfl⟩ := mem_fd hy
          obtain ⟨p1, p2, p3, p4⟩ := s2 p hp
          obtain ⟨q1, q2, q3, q4⟩ := s2 q hq
          have hl := List.all_eq_true.1 h (fd l p).item.index.toNat (List.mem_range.2 (by omega))
          unfold linkB at hl
          have hk : ((fd l p).item.index.toNat + 1) % l.length = (fd l q).item.index.toNat := by
            have : ((fd l p).item.index + 1) % (l.length : Int) = ((((fd l p).item.index.toNat + 1) % l.length : Nat) : Int) := by
              rw [show (fd l p).item.index + 1 = (((fd l p).item.index.toNat + 1 : Nat) : Int) from by omega]
              exact (Int.natCast_emod _ _).symm
            rw [hxy, this, Int.toNat_natCast]
          rw [p4, hk, q4] at hl
          exact hl
  · rintro ⟨h1, h2, h3⟩
    obtain ⟨f, hf, hs⟩ := fillTo_ok h1 h2 l.length (Nat.le_refl _)
    unfold wholeB
    rw [if_neg (fun h => h (h1 _ (fd_mem (l := l) (k := 0) hpos)).1), hf]
    simp only
    rw [List.all_eq_true]
    intro k hk
    have hkl := List.mem_range.1 hk
    obtain ⟨p, hp, hpl⟩ := fillTo_all hf hkl
    obtain ⟨q, hq, hql⟩ := fillTo_all hf (Nat.mod_lt (k + 1) hpos)
    obtain ⟨_, e1⟩ := hs _ _ hp
    obtain ⟨_, e2⟩ := hs _ _ hq
    unfold linkB
    rw [hp, hq]
    refine h3 _ (fd_mem hpl) _ (fd_mem hql) ?_
    simp only [Option.getD_some]
    rw [e1, e2]
    push_cast
    rfl

theorem wholeP_perm {l m : List Found} (hp : l.Perm m) (h : wholeP l) : wholeP m := by
  obtain ⟨h1, h2, h3⟩ := h
  refine ⟨fun f hf => ?_, (hp.map _).nodup_iff.1 h2, fun f hf g hg hfg => ?_⟩
  · rw [← hp.length_eq]; exact h1 f (hp.mem_iff.2 hf)
  · rw [← hp.length_eq] at hfg; exact h3 f (hp.mem_iff.2 hf) g (hp.mem_iff.2 hg) hfg
theorem wholeB_perm {l m : List Found} (hp : l.Perm m) (hpos : 0 < l.length) : wholeB l = wholeB m := by
  rw [Bool.eq_iff_iff, wholeB_iff hpos, wholeB_iff (by rw [← hp.length_eq]; exact hpos)]
  exact ⟨wholeP_perm hp, wholeP_perm hp.symm⟩
theorem ringOf_pos {l : List Found} {f : Found} (h : f ∈ l) : 0 < (ringOf l f.item.seq).length := List.length_pos_of_mem (a := f) (List.mem_filter.2 ⟨h, by simp⟩)

/-- Turned by k. -/
def turn (l : List Found) (k : Nat) : List Found := l.drop k ++ l.take k
theorem turn_perm (l : List Found) (k : Nat) : (turn l k).Perm l := by
  unfold turn
  exact List.perm_append_comm.trans (by rw [List.take_append_drop])
theorem turn_length (l : List Found) (k : Nat) : (turn l k).length = l.length := (turn_perm l k).length_eq
theorem turn_get {l : List Found} {k i : Nat} (hk : k < l.length) (hi : i < l.length) : (turn l k)[(i + l.length - k) % l.length]? = l[i]? := by
  unfold turn
  by_cases h : i < k
  · rw [Nat.mod_eq_of_lt (by omega), List.getElem?_append_right (by simp; omega), List.getElem?_take, if_pos (by simp; omega)]
    simp
    congr 1
    omega
  · have : (i + l.length - k) % l.length = i - k := by
      rw [show i + l.length - k = (i - k) + l.length from by omega, Nat.add_mod_right, Nat.mod_eq_of_lt (by omega)]
    rw [this, List.getElem?_append_left (by simp; omega), List.getElem?_drop]
    congr 1
    omega
theorem count_turn {l : List Found} {k i : Nat} (hk : k < l.length) (hi : i < l.length) : (countB (turn l k))[(i + l.length - k) % l.length]? = (countB l)[i]? := by
  unfold countB
  rw [List.getElem?_map, List.getElem?_map, turn_get hk hi, List.getElem?_eq_getElem hi]
  simp only [Option.map_some]
  have h := wholeB_perm (l := ringOf l l[i].item.seq) (m := ringOf (turn l k) l[i].item.seq) (((turn_perm l k).filter _).symm) (ringOf_pos (List.getElem_mem hi))
  rw [h]
end Go.Proofs.YtnmeaminfoopmaaGreatDoor

/- Items as they come: flintlaw07's Raw and Put. -/
namespace Go.Proofs.YtnmeaminfoopmaaGreatDoor
open Go.RowKit Flo
attribute [local go_sem] run_store_complex

structure Raw where
  seq : Int
  ver : Int
  index : Int
  count : Int
  n0 : Int
  n1 : Int
  gone : Bool
  key : ByteArray
  value : ByteArray
structure Put where
  a0 : Int
  a1 : Int
  settled : Bool
  item : Raw
def Raw.item (r : Raw) : Item := ⟨r.seq, r.ver, r.index, r.count, r.n0.toNat, r.n1.toNat, r.gone, r.key, r.value⟩
abbrev Raw.val (r : Raw) : Value := .agg #[.int .u64 r.seq, .int .u64 r.ver, i64 r.index, i64 r.count, .int .u64 r.n0, .int .u64 r.n1, .bool r.gone, .string r.key, .string r.value]
abbrev Put.row (p : Put) : List Value := [.int .u64 p.a0, .int .u64 p.a1, .bool p.settled, .int .u64 p.item.seq, .int .u64 p.item.ver, i64 p.item.index, i64 p.item.count, .int .u64 p.item.n0, .int .u64 p.item.n1, .bool p.item.gone, .string p.item.key, .string p.item.value]
abbrev Puts (w : World) (v : Value) (l : List Put) : Prop := Sl w 12 v (l.map Put.row)
def Put.found (p : Put) : Found := ⟨p.a0.toNat, p.a1.toNat, sizeB p.item.key p.item.value, p.settled, p.item.item⟩

theorem Puts.cell {w : World} {A : Option Addr} {n cap : Nat} {xs : List Put} (h : Puts w (.slice A n cap) xs) (hn : 0 < xs.length) (d : Put) :
    ∃ b off, A = some ⟨b, off, none⟩ ∧ b < w.heap.size ∧ ∀ k, k < xs.length → ∀ j u, (xs.getD k d).row[j]? = some u → w.cell? ⟨b, off + k * 12 + j, none⟩ = some u := by
  have hl := h.len
  rw [List.length_map] at hl
  obtain ⟨b, off, hA, hb, hx⟩ := h.at (by omega)
  exact ⟨b, off, hA, hb, fun k hk => (hx k (xs.getD k d).row (by simp [List.getD, hk])).2⟩

end Go.Proofs.YtnmeaminfoopmaaGreatDoor

