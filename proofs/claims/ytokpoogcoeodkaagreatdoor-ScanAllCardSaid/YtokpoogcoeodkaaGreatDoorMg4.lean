/- ring.Count: which items count. -/
import Derived.Test.YtokpoogcoeodkaaGreatDoorMg3
import Derived.Deep.DeepMust
namespace Go.Proofs.YtokpoogcoeodkaaGreatDoor
open Go.RowKit Flo
attribute [local go_sem] run_store_complex

/-- The ring of a number. -/
def ringOf (l : List Found) (s : Int) : List Found := l.filter fun g => decide (g.item.seq = s)
noncomputable def countB (l : List Found) : List Bool := l.map fun f => f.settled || wholeB (ringOf l f.item.seq)

theorem zero_int (w : World) : (zeroValue 3).run Tryz.prog w = .ok (i64 0) w := by kernel_rfl
theorem info_boolE : (Tryz.prog.info? 4).map (fun i => (i.zero, i.size, i.bytes)) = some (some (.bool false), 1, 1) := by kernel_rfl
theorem zero_slice (w : World) : (zeroValue 50).run Tryz.prog w = .ok (.slice none 0 0) w := by kernel_rfl
theorem info_Found : (Tryz.prog.info? 98).map (fun i => (i.zero, i.size, i.bytes)) = some (some (.agg (Found.row default).toArray), 11, 120) := by kernel_rfl

theorem Sl.own {w : World} {base : Nat} {e : TypeId} {k : Nat} {v : Value} (rows : List (List Value)) (hk : ∀ x ∈ rows, x.length = k) (h : w.ownsRow base e k v rows.length rows.flatten) : Sl w k v rows := by
  rcases h.2 with ⟨rfl, hn⟩ | ⟨g, cap, cur, rfl, hbg, hgg, hnc, hcm, hcs, htake⟩
  · have : rows = [] := List.eq_nil_of_length_eq_zero hn
    subst this
    exact Sl.nil w k
  · refine ⟨some ⟨g, 0, none⟩, cap, rfl, hnc, hcm, (fun h => by cases h), fun _ => ⟨g, 0, rfl, (Array.getElem?_eq_some_iff.1 hgg).1, fun i x hi => ⟨hk x (List.mem_of_getElem? hi), fun j u hj => ?_⟩⟩⟩
    have := h.cells (g := g) rfl _ u (flatten_get hk i x hi j u hj)
    simpa [Addr.add_lit] using this

/-- The groups of the first items. -/
def Grp (wr : World) (mb base : Nat) (l : List Found) : Prop :=
  ∃ gl : List (Int × Value), MapR (Value.int .u64) wr mb gl ∧ mb < base ∧ (∀ s v, (s, v) ∈ gl → wr.ownsRow base 98 11 v (ringOf l s).length ((ringOf l s).flatMap Found.row) ∧ ringOf l s ≠ []) ∧
    (∀ f ∈ l, f.item.seq ∈ gl.map Prod.fst) ∧ (∀ s v s' v', (s, v) ∈ gl → (s', v') ∈ gl → s ≠ s' → v.ownBlock ≠ v'.ownBlock)

theorem ringOf_snoc (l : List Found) (f : Found) (s : Int) : ringOf (l ++ [f]) s = if f.item.seq = s then ringOf l s ++ [f] else ringOf l s := by
  unfold ringOf
  rw [List.filter_append]
  by_cases h : f.item.seq = s
  · simp [h]
  · simp [h]
theorem own_block_some {w : World} {base : Nat} {e : TypeId} {size : Nat} {v : Value} {n : Nat} {xs : List Value} (h : w.ownsRow base e size v n xs) (hn : 0 < n) : ∃ g, v.ownBlock = some g ∧ base ≤ g ∧ g < w.heap.size := by
  rcases h.2 with ⟨_, h0⟩ | ⟨g, cap, cur, rfl, hbg, hgg, _⟩
  · omega
  · exact ⟨g, rfl, hbg, (Array.getElem?_eq_some_iff.1 hgg).1⟩

/-- What is known of the group of one number ahead of an append, and the way back behind it. -/
theorem Grp.open {wr : World} {mb base : Nat} {l : List Found} (h : Grp wr mb base l) (f : Found) :
    ∃ (gl : List (Int × Value)) (v : Value), MapR (Value.int .u64) wr mb gl ∧ v = (mget gl f.item.seq).getD (.slice none 0 0) ∧ mb < base ∧
      wr.ownsRow base 98 11 v (ringOf l f.item.seq).length ((ringOf l f.item.seq).flatMap Found.row) ∧ v.ownBlock ≠ some mb ∧ (∀ g, v.ownBlock = some g → base ≤ g ∧ g < wr.heap.size) ∧
      ∀ (wq wz : World) (v' : Value), wr.grownBy wq v.ownBlock → wq.ownsRow base 98 11 v' ((ringOf l f.item.seq).length + 1) ((ringOf l f.item.seq).flatMap Found.row ++ f.row) →
        (v'.ownBlock = v.ownBlock ∨ ∃ g, v'.ownBlock = some g ∧ wr.heap.size ≤ g) → wq.grownBy wz (some mb) → MapR (Value.int .u64) wz mb (mput gl f.item.seq v') → Grp wz mb base (l ++ [f]) := by
  obtain ⟨gl, hm, hmb, hown, hkeys, hdis⟩ := h
  have hn := hm.nodup
  have hemp : mget gl f.item.seq = none → ringOf l f.item.seq = [] := fun h0 => by
    unfold ringOf
    rw [List.filter_eq_nil_iff]
    intro g hg
    have h1 := hkeys g hg
    simp only [decide_eq_true_eq]
    intro he
    rw [he, ← mget_isSome, h0] at h1
    cases h1
  obtain ⟨v, hv⟩ : ∃ v, v = (mget gl f.item.seq).getD (.slice none 0 0) := ⟨_, rfl⟩
  have hvown : wr.ownsRow base 98 11 v (ringOf l f.item.seq).length ((ringOf l f.item.seq).flatMap Found.row) := by
    cases hg : mget gl f.item.seq with
    | none =>
      rw [hg] at hv
      rw [hv, hemp hg]
      exact World.ownsRow_nil _ _ _ _
    | some u =>
      rw [hg] at hv
      rw [hv]
      exact (hown _ _ ((mget_some hn).1 hg)).1
  have hblk : ∀ g, v.ownBlock = some g → base ≤ g ∧ g < wr.heap.size := fun g hg => by
    rcases hvown.2 with ⟨he, _⟩ | ⟨g', cap, cur, he, hbg, hgg, _⟩
    · rw [he] at hg; cases hg
    · rw [he] at hg
      have : g' = g := by simpa [Value.ownBlock] using hg
      subst this
      exact ⟨hbg, (Array.getElem?_eq_some_iff.1 hgg).1⟩
  refine ⟨gl, v, hm, hv, hmb, hvown, fun he => by have := (hblk mb he).1; omega, hblk, fun wq wz v' hgrow hown' hloc hgz hmz => ?_⟩
  refine ⟨mput gl f.item.seq v', hmz, hmb, ?_, ?_, ?_⟩
  · intro s u hsu
    have hget := (mget_some (mput_nodup hn _ _)).2 hsu
    rw [mget_mput hn] at hget
    by_cases hs : s = f.item.seq
    · subst hs
      rw [if_pos rfl] at hget
      injection hget with hget
      subst hget
      rw [ringOf_snoc, if_pos rfl]
      refine ⟨?_, by simp⟩
      have hne : v'.ownBlock = none ∨ v'.ownBlock ≠ some mb := .inr fun he => by
        rcases hloc with h | ⟨g, h, hg⟩
        · have := (hblk mb (h ▸ he)).1; omega
        · rw [he] at h; injection h with h; have := hm.lt; omega
      have := hown'.kept hgz hne
      simpa [List.flatMap_append] using this
    · rw [if_neg hs] at hget
      have hmem := (mget_some hn).1 hget
      obtain ⟨h1, h2⟩ := hown s u hmem
      rw [ringOf_snoc, if_neg (fun e => hs e.symm)]
      obtain ⟨g, hg, hbg, hgl⟩ := own_block_some h1 (by cases hr : ringOf l s with | nil => exact absurd hr h2 | cons => simp)
      refine ⟨(h1.kept hgrow ?_).kept hgz ?_, h2⟩
      · right
        intro he
        cases hgv : mget gl f.item.seq with
        | none =>
          rw [hgv] at hv
          rw [hv] at he
          rw [hg] at he
          cases he
        | some u0 =>
          rw [hgv] at hv
          rw [hv] at he
          exact hdis s u _ _ hmem ((mget_some hn).1 hgv) hs he
      · right
        rw [hg]
        intro he
        injection he with he
        omega
  · intro g hg
    rw [mput_keys]
    rcases List.mem_append.1 hg with hg | hg
    · split
      · exact hkeys g hg
      · exact List.mem_append_left _ (hkeys g hg)
    · simp at hg
      subst hg
      split
      · rename_i h; exact mget_isSome.1 h
      · simp
  · intro s u s' u' h1 h2 hne
    have g1 := (mget_some (mput_nodup hn _ _)).2 h1
    have g2 := (mget_some (mput_nodup hn _ _)).2 h2
    rw [mget_mput hn] at g1 g2
    have key : ∀ t x, mget gl t = some x → t ≠ f.item.seq → x.ownBlock ≠ v'.ownBlock := fun t x hx ht he => by
      have hmem := (mget_some hn).1 hx
      obtain ⟨q1, q2⟩ := hown t x hmem
      obtain ⟨g, hg, hbg, hgl⟩ := own_block_some q1 (by cases hr : ringOf l t with | nil => exact absurd hr q2 | cons => simp)
      rcases hloc with h | ⟨g', h, hg'⟩
      · rw [h] at he
        cases hgv : mget gl f.item.seq with
        | none =>
          rw [hgv] at hv
          rw [hv, hg] at he
          cases he
        | some u0 =>
          rw [hgv] at hv
          rw [hv] at he
          exact hdis t x _ _ hmem ((mget_some hn).1 hgv) ht he
      · rw [hg, h] at he
        injection he with he
        omega
    by_cases e1 : s = f.item.seq
    · have e2 : s' ≠ f.item.seq := fun e => hne (e1.trans e.symm)
      rw [if_pos e1] at g1
      rw [if_neg e2] at g2
      injection g1 with g1
      subst g1
      exact fun e => key s' u' g2 e2 e.symm
    · rw [if_neg e1] at g1
      by_cases e2 : s' = f.item.seq
      · rw [if_pos e2] at g2
        injection g2 with g2
        subst g2
        exact key s u g1 e1
      · rw [if_neg e2] at g2
        exact hdis s u s' u' ((mget_some hn).1 g1) ((mget_some hn).1 g2) hne

end Go.Proofs.YtokpoogcoeodkaaGreatDoor

/- When a ring is whole, in plain words; the order changes nothing of it. -/
namespace Go.Proofs.YtokpoogcoeodkaaGreatDoor
open Go.RowKit Flo

def wholeP (l : List Found) : Prop :=
  (∀ f ∈ l, f.item.count = l.length ∧ 0 ≤ f.item.index ∧ f.item.index < l.length) ∧ (l.map fun f => f.item.index).Nodup ∧
  ∀ f ∈ l, ∀ g ∈ l, g.item.index = (f.item.index + 1) % l.length → cxEq f.item.a f.item.b g.at0 g.at1 = true

theorem fd_mem {l : List Found} {k : Nat} (h : k < l.length) : fd l k ∈ l := by simp [fd, List.getD, h]
theorem mem_fd {l : List Found} {f : Found} (h : f ∈ l) : ∃ k, k < l.length ∧ fd l k = f := by
  obtain ⟨k, hk, rfl⟩ := List.mem_iff_getElem.1 h
  exact ⟨k, hk, by simp [fd, List.getD, hk]⟩
theorem nodup_fd {l : List Found} (h : (l.map fun f => f.item.index).Nodup) {p q : Nat} (hp : p < l.length) (hq : q < l.length) (he : (fd l p).item.index = (fd l q).item.index) : p = q := by
  have hpw := List.pairwise_iff_getElem.1 h
  simp only [fd, List.getD, List.getElem?_eq_getElem hp, List.getElem?_eq_getElem hq, Option.getD_some] at he
  rcases Nat.lt_trichotomy p q with h1 | h1 | h1
  · exact absurd (by rw [List.getElem_map, List.getElem_map]; exact he) (hpw p q (by simpa using hp) (by simpa using hq) h1)
  · exact h1
  · exact absurd (by rw [List.getElem_map, List.getElem_map]; exact he.symm) (hpw q p (by simpa using hq) (by simpa using hp) h1)

theorem fillTo_ok {l : List Found} (h1 : ∀ f ∈ l, f.item.count = l.length ∧ 0 ≤ f.item.index ∧ f.item.index < l.length) (h2 : (l.map fun f => f.item.index).Nodup) : ∀ k, k ≤ l.length → ∃ f, fillTo l k = some f ∧ ∀ j p, f j = some p → p < k ∧ (fd l p).item.index = j
  | 0, _ => ⟨_, rfl, by simp⟩
  | k + 1, hk => by
    obtain ⟨f, hf, hs⟩ := fillTo_ok h1 h2 k (by omega)
    obtain ⟨c1, c2, c3⟩ := h1 _ (fd_mem (l := l) (k := k) (by omega))
    have hno : (f (fd l k).item.index.toNat).isSome = false := by
      cases hp : f (fd l k).item.index.toNat with
      | none => rfl
      | some p =>
        obtain ⟨q1, q2⟩ := hs _ _ hp
        have := nodup_fd h2 (p := p) (q := k) (by omega) (by omega) (by omega)
        omega
    refine ⟨fun j => if j = (fd l k).item.index.toNat then some k else f j, ?_, fun j p hj => ?_⟩
    · unfold fillTo
      rw [hf]
      simp only
      rw [if_neg]
      rw [hno, c1]
      rintro (h | h | h | h)
      · exact h rfl
      · omega
      · omega
      · cases h
    · simp only at hj
      split at hj
      · rename_i e
        injection hj with hj
        subst hj
        exact ⟨by omega, by omega⟩
      · obtain ⟨q1, q2⟩ := hs j p hj
        exact ⟨by omega, q2⟩

theorem wholeB_iff {l : List Found} (hpos : 0 < l.length) : wholeB l = true ↔ wholeP l := by
  constructor
  · intro h
    unfold wholeB at h
    split at h
    · cases h
    · rename_i h0
      cases hf : fillTo l l.length with
      | none => rw [hf] at h; cases h
      | some f =>
        rw [hf] at h
        obtain ⟨s1, s2⟩ := fillTo_spec hf
        refine ⟨fun x hx => ?_, ?_, fun x hx y hy hxy => ?_⟩
        · obtain ⟨p, hp, rfl⟩ := mem_fd hx
          obtain ⟨q1, q2, q3, _⟩ := s2 p hp
          exact ⟨q3, q1, q2⟩
        · refine List.pairwise_iff_getElem.2 fun i j hi hj hij he => ?_
          rw [List.length_map] at hi hj
          rw [List.getElem_map, List.getElem_map] at he
          have e1 := (s2 i hi).2.2.2
          have e2 := (s2 j hj).2.2.2
          have f1 : fd l i = l[i] := by simp [fd, List.getD, hi]
          have f2 : fd l j = l[j] := by simp [fd, List.getD, hj]
          rw [f1, he, ← f2, e2] at e1
          injection e1 with e1
          omega
        · obtain ⟨p, hp, rfl⟩ := mem_fd hx
          obtain ⟨q, hq, rfl⟩ := mem_fd hy
          obtain ⟨p1, p2, p3, p4⟩ := s2 p hp
          obtain ⟨q1, q2, q3, q4⟩ := s2 q hq
          have hl := List.all_eq_true.1 h (fd l p).item.index.toNat (List.mem_range.2 (by omega))
          unfold linkB at hl
          have hk : ((fd l p).item.index.toNat + 1) % l.length = (fd l q).item.index.toNat := by
            have : ((fd l p).item.index + 1) % (l.length : Int) = ((((fd l p).item.index.toNat + 1) % l.length : Nat) : Int) := by
              rw [show (fd l p).item.index + 1 = (((fd l p).item.index.toNat + 1 : Nat) : Int) from by omega]
              exact (Int.natCast_emod _ _).symm
            rw [hxy, this, Int.toNat_natCast]
          rw [p4, hk, q4] at hl
          exact hl
  · rintro ⟨h1, h2, h3⟩
    obtain ⟨f, hf, hs⟩ := fillTo_ok h1 h2 l.length (Nat.le_refl _)
    unfold wholeB
    rw [if_neg (fun h => h (h1 _ (fd_mem (l := l) (k := 0) hpos)).1), hf]
    simp only
    rw [List.all_eq_true]
    intro k hk
    have hkl := List.mem_range.1 hk
    obtain ⟨p, hp, hpl⟩ := fillTo_all hf hkl
    obtain ⟨q, hq, hql⟩ := fillTo_all hf (Nat.mod_lt (k + 1) hpos)
    obtain ⟨_, e1⟩ := hs _ _ hp
    obtain ⟨_, e2⟩ := hs _ _ hq
    unfold linkB
    rw [hp, hq]
    refine h3 _ (fd_mem hpl) _ (fd_mem hql) ?_
    simp only [Option.getD_some]
    rw [e1, e2]
    push_cast
    rfl

theorem wholeP_perm {l m : List Found} (hp : l.Perm m) (h : wholeP l) : wholeP m := by
  obtain ⟨h1, h2, h3⟩ := h
  refine ⟨fun f hf => ?_, (hp.map _).nodup_iff.1 h2, fun f hf g hg hfg => ?_⟩
  · rw [← hp.length_eq]; exact h1 f (hp.mem_iff.2 hf)
  · rw [← hp.length_eq] at hfg; exact h3 f (hp.mem_iff.2 hf) g (hp.mem_iff.2 hg) hfg
theorem wholeB_perm {l m : List Found} (hp : l.Perm m) (hpos : 0 < l.length) : wholeB l = wholeB m := by
  rw [Bool.eq_iff_iff, wholeB_iff hpos, wholeB_iff (by rw [← hp.length_eq]; exact hpos)]
  exact ⟨wholeP_perm hp, wholeP_perm hp.symm⟩
theorem ringOf_pos {l : List Found} {f : Found} (h : f ∈ l) : 0 < (ringOf l f.item.seq).length := List.length_pos_of_mem (a := f) (List.mem_filter.2 ⟨h, by simp⟩)

/-- Turned by k. -/
def turn (l : List Found) (k : Nat) : List Found := l.drop k ++ l.take k
theorem turn_perm (l : List Found) (k : Nat) : (turn l k).Perm l := by
  unfold turn
  exact List.perm_append_comm.trans (by rw [List.take_append_drop])
theorem turn_length (l : List Found) (k : Nat) : (turn l k).length = l.length := (turn_perm l k).length_eq
theorem turn_get {l : List Found} {k i : Nat} (hk : k < l.length) (hi : i < l.length) : (turn l k)[(i + l.length - k) % l.length]? = l[i]? := by
  unfold turn
  by_cases h : i < k
  · rw [Nat.mod_eq_of_lt (by omega), List.getElem?_append_right (by simp; omega), List.getElem?_take, if_pos (by simp; omega)]
    simp
    congr 1
    omega
  · have : (i + l.length - k) % l.length = i - k := by
      rw [show i + l.length - k = (i - k) + l.length from by omega, Nat.add_mod_right, Nat.mod_eq_of_lt (by omega)]
    rw [this, List.getElem?_append_left (by simp; omega), List.getElem?_drop]
    congr 1
    omega
theorem count_turn {l : List Found} {k i : Nat} (hk : k < l.length) (hi : i < l.length) : (countB (turn l k))[(i + l.length - k) % l.length]? = (countB l)[i]? := by
  unfold countB
  rw [List.getElem?_map, List.getElem?_map, turn_get hk hi, List.getElem?_eq_getElem hi]
  simp only [Option.map_some]
  have h := wholeB_perm (l := ringOf l l[i].item.seq) (m := ringOf (turn l k) l[i].item.seq) (((turn_perm l k).filter _).symm) (ringOf_pos (List.getElem_mem hi))
  rw [h]
end Go.Proofs.YtokpoogcoeodkaaGreatDoor

/- Items as they come: flintlaw07's Raw and Put. -/
namespace Go.Proofs.YtokpoogcoeodkaaGreatDoor
open Go.RowKit Flo
attribute [local go_sem] run_store_complex

structure Raw where
  seq : Int
  ver : Int
  index : Int
  count : Int
  n0 : Int
  n1 : Int
  gone : Bool
  key : ByteArray
  value : ByteArray
structure Put where
  a0 : Int
  a1 : Int
  settled : Bool
  item : Raw
def Raw.item (r : Raw) : Item := ⟨r.seq, r.ver, r.index, r.count, r.n0.toNat, r.n1.toNat, r.gone, r.key, r.value⟩
abbrev Raw.val (r : Raw) : Value := .agg #[.int .u64 r.seq, .int .u64 r.ver, i64 r.index, i64 r.count, .int .u64 r.n0, .int .u64 r.n1, .bool r.gone, .string r.key, .string r.value]
abbrev Put.row (p : Put) : List Value := [.int .u64 p.a0, .int .u64 p.a1, .bool p.settled, .int .u64 p.item.seq, .int .u64 p.item.ver, i64 p.item.index, i64 p.item.count, .int .u64 p.item.n0, .int .u64 p.item.n1, .bool p.item.gone, .string p.item.key, .string p.item.value]
abbrev Puts (w : World) (v : Value) (l : List Put) : Prop := Sl w 12 v (l.map Put.row)
def Put.found (p : Put) : Found := ⟨p.a0.toNat, p.a1.toNat, sizeB p.item.key p.item.value, p.settled, p.item.item⟩

theorem Puts.cell {w : World} {A : Option Addr} {n cap : Nat} {xs : List Put} (h : Puts w (.slice A n cap) xs) (hn : 0 < xs.length) (d : Put) :
    ∃ b off, A = some ⟨b, off, none⟩ ∧ b < w.heap.size ∧ ∀ k, k < xs.length → ∀ j u, (xs.getD k d).row[j]? = some u → w.cell? ⟨b, off + k * 12 + j, none⟩ = some u := by
  have hl := h.len
  rw [List.length_map] at hl
  obtain ⟨b, off, hA, hb, hx⟩ := h.at (by omega)
  exact ⟨b, off, hA, hb, fun k hk => (hx k (xs.getD k d).row (by simp [List.getD, hk])).2⟩

end Go.Proofs.YtokpoogcoeodkaaGreatDoor

