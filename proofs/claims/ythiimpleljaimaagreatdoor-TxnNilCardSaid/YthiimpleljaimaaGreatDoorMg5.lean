/- When a ring is whole, in plain words; the order changes nothing of it. -/
import Derived.Test.YthiimpleljaimaaGreatDoorRingC
import Derived.Test.YthiimpleljaimaaGreatDoorMg1
import Derived.Test.YthiimpleljaimaaGreatDoorMg4
import Derived.Test.YthiimpleljaimaaGreatDoorPh
import Derived.Laws.MakeOwn
import Derived.Laws.CopyOwn
import Derived.Laws.BytesArg
import Derived.Deep.DeepMust
import Derived.Deep.WholeRow
import Derived.Lib.AppendStr
import Derived.Lib.BufferWrite
namespace Go.Proofs.YthiimpleljaimaaGreatDoor
open Go.RowKit Flo

def wholeP (l : List Found) : Prop :=
  (∀ f ∈ l, f.item.count = l.length ∧ 0 ≤ f.item.index ∧ f.item.index < l.length) ∧ (l.map fun f => f.item.index).Nodup ∧
  ∀ f ∈ l, ∀ g ∈ l, g.item.index = (f.item.index + 1) % l.length → cxEq f.item.a f.item.b g.at0 g.at1 = true

theorem fd_mem {l : List Found} {k : Nat} (h : k < l.length) : fd l k ∈ l := by simp [fd, List.getD, h]
theorem mem_fd {l : List Found} {f : Found} (h : f ∈ l) : ∃ k, k < l.length ∧ fd l k = f := by
  obtain ⟨k, hk, rfl⟩ := List.mem_iff_getElem.1 h
  exact ⟨k, hk, by simp [fd, List.getD, hk]⟩
theorem nodup_fd {l : List Found} (h : (l.map fun f => f.item.index).Nodup) {p q : Nat} (hp : p < l.length) (hq : q < l.length) (he : (fd l p).item.index = (fd l q).item.index) : p = q := by
  have hpw := List.pairwise_iff_getElem.1 h
  simp only [fd, List.getD, List.getElem?_eq_getElem hp, List.getElem?_eq_getElem hq, Option.getD_some] at he
  rcases Nat.lt_trichotomy p q with h1 | h1 | h1
  · exact absurd (by rw [List.getElem_map, List.getElem_map]; exact he) (hpw p q (by simpa using hp) (by simpa using hq) h1)
  · exact h1
  · exact absurd (by rw [List.getElem_map, List.getElem_map]; exact he.symm) (hpw q p (by simpa using hq) (by simpa using hp) h1)

theorem fillTo_ok {l : List Found} (h1 : ∀ f ∈ l, f.item.count = l.length ∧ 0 ≤ f.item.index ∧ f.item.index < l.length) (h2 : (l.map fun f => f.item.index).Nodup) : ∀ k, k ≤ l.length → ∃ f, fillTo l k = some f ∧ ∀ j p, f j = some p → p < k ∧ (fd l p).item.index = j
  | 0, _ => ⟨_, rfl, by simp⟩
  | k + 1, hk => by
    obtain ⟨f, hf, hs⟩ := fillTo_ok h1 h2 k (by omega)
    obtain ⟨c1, c2, c3⟩ := h1 _ (fd_mem (l := l) (k := k) (by omega))
    have hno : (f (fd l k).item.index.toNat).isSome = false := by
      cases hp : f (fd l k).item.index.toNat with
      | none => rfl
      | some p =>
        obtain ⟨q1, q2⟩ := hs _ _ hp
        have := nodup_fd h2 (p := p) (q := k) (by omega) (by omega) (by omega)
        omega
    refine ⟨fun j => if j = (fd l k).item.index.toNat then some k else f j, ?_, fun j p hj => ?_⟩
    · unfold fillTo
      rw [hf]
      simp only
      rw [if_neg]
      rw [hno, c1]
      rintro (h | h | h | h)
      · exact h rfl
      · omega
      · omega
      · cases h
    · simp only at hj
      split at hj
      · rename_i e
        injection hj with hj
        subst hj
        exact ⟨by omega, by omega⟩
      · obtain ⟨q1, q2⟩ := hs j p hj
        exact ⟨by omega, q2⟩

theorem wholeB_iff {l : List Found} (hpos : 0 < l.length) : wholeB l = true ↔ wholeP l := by
  constructor
  · intro h
    unfold wholeB at h
    split at h
    · cases h
    · rename_i h0
      cases hf : fillTo l l.length with
      | none => rw [hf] at h; cases h
      | some f =>
        rw [hf] at h
        obtain ⟨s1, s2⟩ := fillTo_spec hf
        refine ⟨fun x hx => ?_, ?_, fun x hx y hy hxy => ?_⟩
        · obtain ⟨p, hp, rfl⟩ := mem_fd hx
          obtain ⟨q1, q2, q3, _⟩ := s2 p hp
          exact ⟨q3, q1, q2⟩
        · refine List.pairwise_iff_getElem.2 fun i j hi hj hij he => ?_
          rw [List.length_map] at hi hj
          rw [List.getElem_map, List.getElem_map] at he
          have e1 := (s2 i hi).2.2.2
          have e2 := (s2 j hj).2.2.2
          have f1 : fd l i = l[i] := by simp [fd, List.getD, hi]
          have f2 : fd l j = l[j] := by simp [fd, List.getD, hj]
          rw [f1, he, ← f2, e2] at e1
          injection e1 with e1
          omega
        · obtain ⟨p, hp, rfl⟩ := mem_fd hx
          obtain ⟨q, hq, rfl⟩ := mem_fd hy
          obtain ⟨p1, p2, p3, p4⟩ := s2 p hp
          obtain ⟨q1, q2, q3, q4⟩ := s2 q hq
          have hl := List.all_eq_true.1 h (fd l p).item.index.toNat (List.mem_range.2 (by omega))
          unfold linkB at hl
          have hk : ((fd l p).item.index.toNat + 1) % l.length = (fd l q).item.index.toNat := by
            have : ((fd l p).item.index + 1) % (l.length : Int) = ((((fd l p).item.index.toNat + 1) % l.length : Nat) : Int) := by
              rw [show (fd l p).item.index + 1 = (((fd l p).item.index.toNat + 1 : Nat) : Int) from by omega]
              exact (Int.natCast_emod _ _).symm
            rw [hxy, this, Int.toNat_natCast]
          rw [p4, hk, q4] at hl
          exact hl
  · rintro ⟨h1, h2, h3⟩
    obtain ⟨f, hf, hs⟩ := fillTo_ok h1 h2 l.length (Nat.le_refl _)
    unfold wholeB
    rw [if_neg (fun h => h (h1 _ (fd_mem (l := l) (k := 0) hpos)).1), hf]
    simp only
    rw [List.all_eq_true]
    intro k hk
    have hkl := List.mem_range.1 hk
    obtain ⟨p, hp, hpl⟩ := fillTo_all hf hkl
    obtain ⟨q, hq, hql⟩ := fillTo_all hf (Nat.mod_lt (k + 1) hpos)
    obtain ⟨_, e1⟩ := hs _ _ hp
    obtain ⟨_, e2⟩ := hs _ _ hq
    unfold linkB
    rw [hp, hq]
    refine h3 _ (fd_mem hpl) _ (fd_mem hql) ?_
    simp only [Option.getD_some]
    rw [e1, e2]
    push_cast
    rfl

theorem wholeP_perm {l m : List Found} (hp : l.Perm m) (h : wholeP l) : wholeP m := by
  obtain ⟨h1, h2, h3⟩ := h
  refine ⟨fun f hf => ?_, (hp.map _).nodup_iff.1 h2, fun f hf g hg hfg => ?_⟩
  · rw [← hp.length_eq]; exact h1 f (hp.mem_iff.2 hf)
  · rw [← hp.length_eq] at hfg; exact h3 f (hp.mem_iff.2 hf) g (hp.mem_iff.2 hg) hfg
theorem wholeB_perm {l m : List Found} (hp : l.Perm m) (hpos : 0 < l.length) : wholeB l = wholeB m := by
  rw [Bool.eq_iff_iff, wholeB_iff hpos, wholeB_iff (by rw [← hp.length_eq]; exact hpos)]
  exact ⟨wholeP_perm hp, wholeP_perm hp.symm⟩
theorem ringOf_pos {l : List Found} {f : Found} (h : f ∈ l) : 0 < (ringOf l f.item.seq).length := List.length_pos_of_mem (a := f) (List.mem_filter.2 ⟨h, by simp⟩)

/-- Turned by k. -/
def turn (l : List Found) (k : Nat) : List Found := l.drop k ++ l.take k
theorem turn_perm (l : List Found) (k : Nat) : (turn l k).Perm l := by
  unfold turn
  exact List.perm_append_comm.trans (by rw [List.take_append_drop])
theorem turn_length (l : List Found) (k : Nat) : (turn l k).length = l.length := (turn_perm l k).length_eq
theorem turn_get {l : List Found} {k i : Nat} (hk : k < l.length) (hi : i < l.length) : (turn l k)[(i + l.length - k) % l.length]? = l[i]? := by
  unfold turn
  by_cases h : i < k
  · rw [Nat.mod_eq_of_lt (by omega), List.getElem?_append_right (by simp; omega), List.getElem?_take, if_pos (by simp; omega)]
    simp
    congr 1
    omega
  · have : (i + l.length - k) % l.length = i - k := by
      rw [show i + l.length - k = (i - k) + l.length from by omega, Nat.add_mod_right, Nat.mod_eq_of_lt (by omega)]
    rw [this, List.getElem?_append_left (by simp; omega), List.getElem?_drop]
    congr 1
    omega
theorem count_turn {l : List Found} {k i : Nat} (hk : k < l.length) (hi : i < l.length) : (countB (turn l k))[(i + l.length - k) % l.length]? = (countB l)[i]? := by
  unfold countB
  rw [List.getElem?_map, List.getElem?_map, turn_get hk hi, List.getElem?_eq_getElem hi]
  simp only [Option.map_some]
  have h := wholeB_perm (l := ringOf l l[i].item.seq) (m := ringOf (turn l k) l[i].item.seq) (((turn_perm l k).filter _).symm) (ringOf_pos (List.getElem_mem hi))
  rw [h]
end Go.Proofs.YthiimpleljaimaaGreatDoor

/- Items as they come: flintlaw07's Raw and Put. -/
namespace Go.Proofs.YthiimpleljaimaaGreatDoor
open Go.RowKit Flo
attribute [local go_sem] run_store_complex

structure Raw where
  seq : Int
  ver : Int
  index : Int
  count : Int
  n0 : Int
  n1 : Int
  gone : Bool
  key : ByteArray
  value : ByteArray
structure Put where
  a0 : Int
  a1 : Int
  settled : Bool
  item : Raw
def Raw.item (r : Raw) : Item := ⟨r.seq, r.ver, r.index, r.count, r.n0.toNat, r.n1.toNat, r.gone, r.key, r.value⟩
abbrev Raw.val (r : Raw) : Value := .agg #[.int .u64 r.seq, .int .u64 r.ver, i64 r.index, i64 r.count, .int .u64 r.n0, .int .u64 r.n1, .bool r.gone, .string r.key, .string r.value]
abbrev Put.row (p : Put) : List Value := [.int .u64 p.a0, .int .u64 p.a1, .bool p.settled, .int .u64 p.item.seq, .int .u64 p.item.ver, i64 p.item.index, i64 p.item.count, .int .u64 p.item.n0, .int .u64 p.item.n1, .bool p.item.gone, .string p.item.key, .string p.item.value]
abbrev Puts (w : World) (v : Value) (l : List Put) : Prop := Sl w 12 v (l.map Put.row)
def Put.found (p : Put) : Found := ⟨p.a0.toNat, p.a1.toNat, sizeB p.item.key p.item.value, p.settled, p.item.item⟩

theorem Puts.cell {w : World} {A : Option Addr} {n cap : Nat} {xs : List Put} (h : Puts w (.slice A n cap) xs) (hn : 0 < xs.length) (d : Put) :
    ∃ b off, A = some ⟨b, off, none⟩ ∧ b < w.heap.size ∧ ∀ k, k < xs.length → ∀ j u, (xs.getD k d).row[j]? = some u → w.cell? ⟨b, off + k * 12 + j, none⟩ = some u := by
  have hl := h.len
  rw [List.length_map] at hl
  obtain ⟨b, off, hA, hb, hx⟩ := h.at (by omega)
  exact ⟨b, off, hA, hb, fun k hk => (hx k (xs.getD k d).row (by simp [List.getD, hk])).2⟩

end Go.Proofs.YthiimpleljaimaaGreatDoor

/- pack: numbers and texts behind bytes. -/
namespace Go.Proofs.YthiimpleljaimaaGreatDoor
open Go.RowKit

abbrev bv (x : Nat) : Value := .int .u8 (x : Int)
/-- A slice that reads as these bytes. -/
abbrev Byt (w : World) (v : Value) (l : List Nat) : Prop := Sl w 1 v (l.map fun x => [bv x])
/-- A call that comes back with bytes in one new block, and has made nothing else. -/
abbrev Own1 (f : FuncId) (args : Array Value) (w : World) (l : List Nat) : Prop := Makes1 f args w (.slice (some ⟨w.heap.size, 0, none⟩) l.length l.length) (.cells (l.map bv).toArray 5)
theorem bv_flat (l : List Nat) : (l.map fun x => [bv x]).flatten = l.map bv := by
  induction l with
  | nil => rfl
  | cons x l ih => rw [List.map_cons, List.flatten_cons, ih]; rfl
theorem Byt.fresh {w : World} {g : Nat} {l : List Nat} (h : w.heap[g]? = some (.cells (l.map bv).toArray 5 (0, 0))) (hm : l.length ≤ 4294967296) : Byt w (.slice (some ⟨g, 0, none⟩) l.length l.length) l := by
  have := Sl.lit (w := w) (k := 1) (l.map fun x => [bv x]) (g := g) (t := 5) (n := l.length) h (by rw [bv_flat]) (by rw [List.length_map]) (by intro x hx; obtain ⟨y, _, rfl⟩ := List.mem_map.1 hx; rfl) (by rw [List.length_map]; exact hm)
  exact this
theorem Byt.cell {w : World} {A : Option Addr} {n cap : Nat} {l : List Nat} (h : Byt w (.slice A n cap) l) (hp : 0 < l.length) :
    ∃ b off, A = some ⟨b, off, none⟩ ∧ b < w.heap.size ∧ ∀ j u, (l.map bv)[j]? = some u → w.cell? ((⟨b, off, none⟩ : Addr).add j) = some u := by
  have hn := h.len
  rw [List.length_map] at hn
  obtain ⟨b, off, hA, hb, hx⟩ := h.at (by omega)
  refine ⟨b, off, hA, hb, fun j u hj => ?_⟩
  rw [List.getElem?_map] at hj
  obtain ⟨x, hx1, rfl⟩ := Option.map_eq_some_iff.1 hj
  have := (hx j [bv x] (by rw [List.getElem?_map, hx1]; rfl)).2 0 (bv x) rfl
  rw [Addr.add_lit, show off + j = off + j * 1 + 0 by omega]
  exact this

theorem info_u8 : (Tryz.prog.info? 5).map (fun i => (i.zero, i.size, i.bytes)) = some (some (.int .u8 0), 1, 1) := by kernel_rfl

set_option maxHeartbeats 1000000 in
theorem wide_any (n : Int) (w : World) (h1 : 1 ≤ n) (h2 : n ≤ 8) : Gives 87 #[i64 n] w (i64 n) := by
  go_enter Tryz.func87, Tryz.ntmps87
  go_wp2_with fail
  go_ret
  exact ⟨rfl, rfl⟩

theorem made_zeros (n : Nat) : madeCells #[.int .u8 0] n = ((List.replicate n 0).map bv).toArray := by
  unfold madeCells
  apply Array.ext'
  apply List.ext_getElem
  · simp
  · intro i h1 h2
    simp [Nat.mod_one]

set_option maxHeartbeats 4000000 in
set_option maxRecDepth 100000 in
theorem own_any (A : Option Addr) (n cap : Nat) (l : List Nat) (more : Nat) (w : World) (h : Byt w (.slice A n cap) l) (hm : l.length + more ≤ 1000000) :
    Own1 225 #[.slice A n cap, i64 more] w (l ++ List.replicate more 0) := by
  have hn := h.len
  rw [List.length_map] at hn
  subst hn
  obtain ⟨i0, hi, hz0, hz1, hz2⟩ := info_parts info_u8
  have hmk := fun W => run_make (P := Tryz.prog) W 22 5 i0 _ Tryz.underlying22 hi hz0 .i64 .i64 ((l.length : Int) + (more : Int)) ((l.length : Int) + (more : Int)) (by omega) (Int.le_refl _) (by rw [hz2]; omega) (by omega)
  have hz : madeCells (Value.int IntKind.u8 0).cells ((l.length + more) * i0.size) = ((List.replicate (l.length + more) 0).map bv).toArray := by rw [hz1, Nat.mul_one]; exact made_zeros _
  have hN : ((l.length : Int) + (more : Int)).toNat = l.length + more := by omega
  rw [hN, hz] at hmk
  have hinfo : (Tryz.prog.info? 5).map (·.size) = some 1 := by rw [hi]; exact congrArg some hz1
  have hmin : Nat.min l.length (l.length + more) = l.length := Nat.min_eq_left (by omega)
  have hlen : (l ++ List.replicate more 0).length = l.length + more := by rw [List.length_append, List.length_replicate]
  have hcp : (Builtin.copy_ #[22, 22] 3 #[.slice (some ⟨w.heap.size, 0, none⟩) (l.length + more) (l.length + more), .slice A l.length cap]).run Tryz.prog (w.alloc (.cells ((List.replicate (l.length + more) 0).map bv).toArray 5)) =
      .ok (goInt l.length) (w.alloc (.cells ((l ++ List.replicate more 0).map bv).toArray 5)) := by
    by_cases h0 : l.length = 0
    · have := List.eq_nil_of_length_eq_zero h0
      subst this
      simpa using run_copy_none (P := Tryz.prog) (w.alloc (.cells ((List.replicate (([] : List Nat).length + more) 0).map bv).toArray 5)) 22 22 3 5 (some ⟨w.heap.size, 0, none⟩) A (0 + more) (0 + more) 0 cap Tryz.underlying22 hinfo (Nat.zero_min _)
    · obtain ⟨b, off, rfl, hb, hx⟩ := Byt.cell h (by omega)
      have := run_copy_row (P := Tryz.prog) (w.alloc (.cells ((List.replicate (l.length + more) 0).map bv).toArray 5)) 22 22 3 5 w.heap.size 0 (l.length + more) (l.length + more) ⟨b, off, none⟩ l.length cap _ _ (l.map bv) Tryz.underlying22 hinfo (blk_new _ _) (by rw [List.length_map]; exact hmin.symm)
        (fun j v hj => by rw [World.cell?_alloc_lt _ _ _ (by rw [block_add]; exact hb)]; exact hx j v hj) (by simp) (by intro v hv; obtain ⟨x, _, rfl⟩ := List.mem_map.1 hv; rfl)
      rw [this, List.length_map, World.setRow_alloc_new]
      congr 4
      simp
  have HN := Lib.hid hlen
  generalize (List.replicate (l.length + more) 0).map bv = Z at *
  obtain ⟨R, hR⟩ : ∃ R, R = ((l ++ List.replicate more 0).map bv).toArray := ⟨_, rfl⟩
  rw [← hR] at hcp
  have HR := Lib.hid hR
  clear hR
  clear h hz hlen hmin hz0 hz1 hz2 hinfo hi hN
  go_enter Tryz.func225, Tryz.ntmps225
  go_wp2_with fail
  go_ret
  exact ⟨by rw [HN.out]; rfl, by rw [HR.out]⟩

theorem setCell_new (w : World) (c : Array Value) (t : TypeId) (o : Nat) (v : Value) : (w.alloc (.cells c t)).setCell ⟨w.heap.size, o, none⟩ v = w.alloc (.cells (c.setIfInBounds o v) t) := by
  rw [setCell_eq_setRow _ _ _ _ _ _ _ (blk_new w (.cells c t)), World.setRow_alloc_new]

set_option maxHeartbeats 4000000 in
set_option maxRecDepth 100000 in
theorem put_any (A : Option Addr) (n cap : Nat) (l : List Nat) (k x : Nat) (w : World) (h : Byt w (.slice A n cap) l) (hk : 1 ≤ k) (hk2 : k ≤ 8) (hm : l.length ≤ 100000) :
    Own1 157 #[.slice A n cap, i64 k, .int .u64 x] w (l ++ be k x) := by
  have g0 := fun W => Lib.hid (wide_any k W (by omega) (by omega))
  have g1 := own_any A n cap l k w h (by omega)
  have hln : (l ++ List.replicate k 0).length = l.length + k := by rw [List.length_append, List.length_replicate]
  have hlf : (l ++ be k x).length = l.length + k := by rw [List.length_append, be_len]
  have hl0 : (l ++ List.replicate k 0) = putRow l k x 0 := by simp [putRow, be]
  unfold Own1 at g1
  rw [hln, hl0] at g1
  have G1 := Lib.hid g1
  have HLF := Lib.hid hlf
  clear h hln hl0 hlf g1
  go_enter Tryz.func157, Tryz.ntmps157
  go_wp2_with fail
  refine (g0 _).out.mono ?_; rintro e w' ⟨rfl, rfl⟩
  go_wp2_with fail
  refine G1.out.mono ?_; rintro e w1 ⟨rfl, rfl⟩
  go_wp2_with fail
  go_loopw [15] (fun i wr => ∃ j : Nat, j ≤ k ∧ i = .int .i64 j ∧ wr = w'.alloc (.cells ((putRow l k x j).map bv).toArray 5)) (fun i _ => k - (intOf i).toNat)
  case atStart => exact ⟨0, by omega, rfl, rfl⟩
  case round =>
    obtain ⟨j, hj, rfl, rfl⟩ := hrel
    by_cases hlt : j < k
    · have hgj := blk_new w' (.cells ((putRow l k x j).map bv).toArray 5)
      have hfz : (w'.alloc (.cells ((putRow l k x j).map bv).toArray 5)).frozen? ⟨w'.heap.size, l.length + k - 1 - j, none⟩ = false := frozen_blk hgj _
      have hlen := putRow_len l k x j hj
      obtain ⟨u, hu⟩ : ∃ u, (w'.alloc (.cells ((putRow l k x j).map bv).toArray 5)).cell? ⟨w'.heap.size, l.length + k - 1 - j, none⟩ = some u := by
        rw [cell_blk hgj]
        refine ⟨_, Array.getElem?_eq_getElem (by rw [List.size_toArray, List.length_map, hlen]; omega)⟩
      have hset := putRow_set l k x j hlt
      have hv : Value.int .u8 ((x : Int) / 2 ^ (8 * j) % 256) = bv (x / 256 ^ j % 256) := by
        rw [show (256 : Nat) ^ j = 2 ^ (8 * j) from by rw [Nat.pow_mul]]
        show _ = Value.int .u8 ((x / 2 ^ (8 * j) % 256 : Nat) : Int)
        push_cast; rfl
      have hnew : ((putRow l k x j).map bv).set (l.length + k - 1 - j) (bv (x / 256 ^ j % 256)) = (putRow l k x (j + 1)).map bv := by
        rw [← hset]
        simp
      rw [← hv] at hnew
      have HN := Lib.hid hnew
      generalize hC : (putRow l k x j).map bv = C at *
      clear hset hv hlen hgj hnew
      go_wp2_with fail
      refine ⟨⟨j + 1, by omega, by push_cast; rfl, ?_⟩, by simp [intOf]; omega⟩
      rw [HN.out]
    · have hje : j = k := by omega
      subst hje
      have he := putRow_end l j x
      generalize putRow l j x j = C at *
      subst he
      go_wp2_with fail
      go_ret
      exact ⟨by rw [HLF.out]; rfl, by simp⟩

/-- The bytes of a string, as numbers. -/
def sb (s : ByteArray) : List Nat := s.data.toList.map UInt8.toNat
theorem sb_len (s : ByteArray) : (sb s).length = s.size := by unfold sb; rw [List.length_map, Array.length_toList]; rfl
theorem sb_lt (s : ByteArray) : ∀ b ∈ sb s, b < 256 := by
  intro b hb
  obtain ⟨x, _, rfl⟩ := List.mem_map.1 hb
  exact x.toNat_lt
/-- Numbers as a string. -/
def toB (l : List Nat) : ByteArray := ⟨(l.map UInt8.ofNat).toArray⟩
theorem toB_sb (s : ByteArray) : toB (sb s) = s := by
  unfold toB sb
  rw [List.map_map]
  have : (UInt8.ofNat ∘ UInt8.toNat) = id := by funext x; simp
  rw [this, List.map_id]
theorem sb_toB (l : List Nat) (h : ∀ b ∈ l, b < 256) : sb (toB l) = l := by
  unfold sb toB
  rw [List.map_map]
  have : ∀ b ∈ l, (UInt8.toNat ∘ UInt8.ofNat) b = b := fun b hb => by
    show (UInt8.ofNat b).toNat = b
    rw [UInt8.toNat_ofNat']
    exact Nat.mod_eq_of_lt (h b hb)
  rw [List.map_congr_left this, List.map_id']
theorem toB_size (l : List Nat) : (toB l).size = l.length := by unfold toB; simp [ByteArray.size]
theorem toB_nums (l : List Nat) : toB l = strOfNums (l.map fun x : Nat => (x : Int)) := by
  unfold toB strOfNums
  rw [List.map_map]
  rfl
theorem sb_cells (s : ByteArray) : (sb s).map bv = Lib.byteCells s.data.toList := by unfold sb Lib.byteCells; rw [List.map_map]; rfl

set_option maxHeartbeats 4000000 in
set_option maxRecDepth 100000 in
theorem putText_any (A : Option Addr) (n cap : Nat) (l : List Nat) (s : ByteArray) (w : World) (h : Byt w (.slice A n cap) l) (hs : s.size ≤ 255) (hm : l.length ≤ 100000) :
    Own1 204 #[.slice A n cap, .string s] w (l ++ s.size :: sb s) := by
  have g1 := own_any A n cap l (1 + s.size) w h (by omega)
  rw [show ((1 + s.size : Nat) : Int) = 1 + (s.size : Int) from Int.natCast_add 1 s.size] at g1
  have hln : (l ++ List.replicate (1 + s.size) 0).length = l.length + (1 + s.size) := by rw [List.length_append, List.length_replicate]
  have hlf : (l ++ s.size :: sb s).length = l.length + (1 + s.size) := by simp [sb_len]; omega
  unfold Own1 at g1
  rw [hln] at g1
  have G1 := Lib.hid g1
  have HLF := Lib.hid hlf
  have hn := h.len
  rw [List.length_map] at hn
  subst hn
  have hrow : (((l ++ List.replicate (1 + s.size) 0).map bv).toArray.setIfInBounds l.length (bv s.size)).toList = l.map bv ++ bv s.size :: List.replicate s.size (bv 0) := by
    rw [Nat.add_comm 1, List.replicate_succ]
    simp
  have hc0 : ((l ++ List.replicate (1 + s.size) 0).map bv)[l.length]? = some (bv 0) := by
    rw [Nat.add_comm 1, List.replicate_succ]
    simp
  generalize hC : (l ++ List.replicate (1 + s.size) 0).map bv = C at *
  have hCl : C.length = l.length + (1 + s.size) := by rw [← hC, List.length_map, hln]
  have hgj := blk_new w (.cells C.toArray 5)
  have hfz : (w.alloc (.cells C.toArray 5)).frozen? ⟨w.heap.size, l.length, none⟩ = false := frozen_blk hgj _
  have hu : (w.alloc (.cells C.toArray 5)).cell? ⟨w.heap.size, l.length, none⟩ = some (bv 0) := by
    rw [cell_blk hgj]
    simpa using hc0
  have hst : (w.alloc (.cells C.toArray 5)).setCell ⟨w.heap.size, l.length, none⟩ (.int .u8 (s.size : Int)) = w.alloc (.cells (C.toArray.setIfInBounds l.length (bv s.size)) 5) := setCell_new _ _ _ _ _
  by_cases h0 : s.size = 0
  · have he : s = ByteArray.empty := by
      apply ByteArray.ext
      exact Array.eq_empty_of_size_eq_zero h0
    subst he
    have hcp : ∀ (W : World) d dl dc, (Builtin.copy_ #[22, 9] 3 #[.slice d dl dc, .string ByteArray.empty]).run Tryz.prog W = .ok (goInt 0) W := fun W d dl dc => Lib.run_copy_empty_string W _ _ _ 5 d dl dc _ Tryz.underlying22 (by kernel_rfl) rfl
    have hend : C.toArray.setIfInBounds l.length (bv 0) = ((l ++ ByteArray.empty.size :: sb ByteArray.empty).map bv).toArray := by
      apply Array.ext'
      rw [show bv 0 = bv ByteArray.empty.size from rfl, hrow]
      simp [sb]
    have HEND := Lib.hid hend
    clear h hrow hc0 hC hgj hln hlf hend g1
    go_enter Tryz.func204, Tryz.ntmps204
    go_wp2_with fail
    refine G1.out.mono ?_; rintro e w1 ⟨rfl, rfl⟩
    go_wp2_with fail
    all_goals
      go_ret
      refine ⟨by rw [HLF.out]; rfl, ?_⟩
      rw [← HEND.out]
      simp
      rfl
  · have hne : s ≠ ByteArray.empty := by rintro rfl; exact h0 rfl
    have hset : C.toArray.setIfInBounds l.length (bv s.size) = (C.set l.length (.int .u8 (s.size : Int))).toArray := by simp
    rw [hset] at hrow
    have hcp := Lib.run_copy_row_string (P := Tryz.prog) (w.alloc (.cells (C.set l.length (.int .u8 (s.size : Int))).toArray 5)) 22 9 3 5 w.heap.size (l.length + 1) (l.length + (1 + s.size) - (l.length + 1)) (l.length + (1 + s.size) - (l.length + 1)) s _ _ Tryz.underlying22 (by kernel_rfl) (blk_new _ _) (by omega) (by simp [hCl]; omega)
    have hfin : ((C.set l.length (.int .u8 (s.size : Int))).toArray.toList.take (l.length + 1) ++ Lib.byteCells s.data.toList ++ (C.set l.length (.int .u8 (s.size : Int))).toArray.toList.drop (l.length + 1 + s.size)).toArray = ((l ++ s.size :: sb s).map bv).toArray := by
      congr 1
      rw [hrow, ← sb_cells, List.map_append, List.map_cons]
      have e1 : (l.map bv ++ bv s.size :: List.replicate s.size (bv 0)).take (l.length + 1) = l.map bv ++ [bv s.size] := by
        rw [show l.map bv ++ bv s.size :: List.replicate s.size (bv 0) = (l.map bv ++ [bv s.size]) ++ List.replicate s.size (bv 0) by simp]
        exact List.take_left' (by simp)
      rw [e1, List.drop_eq_nil_of_le (by simp; omega), List.append_nil, List.append_assoc]
      rfl
    rw [hfin, World.setRow_alloc_new] at hcp
    obtain ⟨R, hR⟩ : ∃ R, R = ((l ++ s.size :: sb s).map bv).toArray := ⟨_, rfl⟩
    rw [← hR] at hcp
    have HR := Lib.hid hR
    clear hR
    clear h hrow hc0 hC hgj hln hlf hfin g1 h0 hset
    go_enter Tryz.func204, Tryz.ntmps204
    go_wp2_with fail
    refine G1.out.mono ?_; rintro e w1 ⟨rfl, rfl⟩
    go_wp2_with fail
    go_ret
    exact ⟨by rw [HLF.out]; rfl, by rw [HR.out]⟩

theorem wraps_u64 (n : Int) (h0 : 0 ≤ n) (h1 : n < 2 ^ 64) : IntKind.u64.wrap n = n := by rw [IntKind.wrap_u64]; omega

set_option maxHeartbeats 4000000 in
set_option maxRecDepth 100000 in
theorem pkGet_any (A : Option Addr) (n cap : Nat) (l : List Nat) (a k : Nat) (w : World) (h : Byt w (.slice A n cap) l) (hl : ∀ b ∈ l, b < 256) (ha : a ≤ l.length) (hk : 1 ≤ k) (hk2 : k ≤ 8) (hm : l.length ≤ 100000) :
    Gives 61 #[.slice A n cap, i64 a, i64 k] w (.tuple #[.int .u64 (pGet l a k).1, i64 (pGet l a k).2.1, i64 (pGet l a k).2.2]) := by
  have g0 := fun W => Lib.hid (wide_any k W (by omega) (by omega))
  have hn := h.len
  rw [List.length_map] at hn
  subst hn
  by_cases hs : l.length < a + k
  · have hv : pGet l a k = (0, 0, 3) := if_pos hs
    rw [hv]
    clear hv h
    go_enter Tryz.func61, Tryz.ntmps61
    go_wp2_with fail
    refine (g0 _).out.mono ?_; rintro e w' ⟨rfl, rfl⟩
    go_wp2_with fail
    exact bodyPost_ret (v := .tuple #[.int .u64 0, i64 0, i64 3]) (by simp [results, Tryz.results61, go_sem]) rfl ⟨rfl, rfl⟩
  · have hv : pGet l a k = (beVal ((l.drop a).take k), a + k, 0) := if_neg hs
    rw [hv]
    obtain ⟨b, off, rfl, hb, hx⟩ := Byt.cell h (by omega)
    have hcap : l.length ≤ cap := by obtain ⟨_, _, he, hle, _⟩ := h; injection he with _ _ he; subst he; rwa [List.length_map] at hle
    have c1 : (0 : Int) ≤ (a : Int) + (k : Int) ∧ (a : Int) + (k : Int) ≤ (cap : Int) := by omega
    have c2 : ¬ cap = a := by omega
    have c3 : (a : Int) ≤ (a : Int) + (k : Int) := by omega
    have c4 : ((a : Int) + (k : Int)).toNat = a + k := by omega
    have c5 : a + k - a = k := by omega
    clear hv h
    go_enter Tryz.func61, Tryz.ntmps61
    go_wp2_with fail
    refine (g0 _).out.mono ?_; rintro e w' ⟨rfl, rfl⟩
    go_wp2_with fail
    go_loopw [9, 37] (fun x i wr => ∃ j : Nat, j ≤ k ∧ i = .int .i64 j ∧ x = .int .u64 (beVal ((l.drop a).take j)) ∧ wr = w') (fun _ i _ => k - (intOf i).toNat)
    case atStart => exact ⟨0, by omega, rfl, by simp [beVal], rfl⟩
    case round =>
      obtain ⟨j, hj, rfl, rfl, rfl⟩ := hrel
      by_cases hlt : j < k
      · have hal : a + j < l.length := by omega
        have hcl := hx (a + j) (bv l[a + j]) (by rw [List.getElem?_map, List.getElem?_eq_getElem hal]; rfl)
        rw [Addr.add_lit, ← Nat.add_assoc] at hcl
        have hc : l[a + j] < 256 := hl _ (List.getElem_mem hal)
        have hstep : (l.drop a).take (j + 1) = (l.drop a).take j ++ [l[a + j]] := by
          rw [List.take_succ_eq_append_getElem (by rw [List.length_drop]; omega)]
          congr 2
          rw [List.getElem_drop]
        have hval : beVal ((l.drop a).take (j + 1)) = beVal ((l.drop a).take j) * 256 + l[a + j] := by rw [hstep, beVal_snoc]
        have hXlt : beVal ((l.drop a).take j) < 256 ^ 7 := by
          refine Nat.lt_of_lt_of_le (beVal_lt _ (fun b hb => hl b (List.mem_of_mem_drop (List.mem_of_mem_take hb)))) ?_
          exact Nat.pow_le_pow_right (by decide) (by rw [List.length_take, List.length_drop]; omega)
        generalize beVal ((l.drop a).take j) = X at *
        generalize l[a + j] = c at *
        have hor : bits .or .u64 ((X : Int) * 256) c = ((X * 256 + c : Nat) : Int) := by
          rw [bits_join .u64 64 (by decide) wraps_u64 8 ((X : Int) * 256) c (by omega) (by omega) (by omega) (by omega) (by omega) (by omega)]
          push_cast; rfl
        go_wp2_with fail
        exact ⟨⟨j + 1, by omega, by push_cast; rfl, by rw [hval]; push_cast; rfl, trivial⟩, by simp [intOf]; omega⟩
      · have hje : j = k := by omega
        subst hje
        go_wp2_with fail
        exact bodyPost_ret (v := .tuple #[.int .u64 (beVal ((l.drop a).take j)), i64 (a + j), i64 0]) (by simp [results, Tryz.results61, go_sem]) rfl ⟨by simp, rfl⟩

/-- A piece of bytes as a string. -/
theorem conv_piece {w : World} {b off cap : Nat} {l : List Nat} (hx : ∀ j u, (l.map bv)[j]? = some u → w.cell? ((⟨b, off, none⟩ : Addr).add j) = some u) (a k : Nat) (hk : a + k ≤ l.length) :
    (convert 22 9 (.slice (some ⟨b, off + a, none⟩) k cap)).run Tryz.prog w = .ok (.string (toB ((l.drop a).take k))) w := by
  rw [toB_nums]
  refine run_convert_bytes_arg w 22 5 Tryz.underlying22 Tryz.underlying5 b (off + a) k cap _ ?_ ?_ 9 Tryz.underlying9
  · rw [List.length_map, List.length_take, List.length_drop]; omega
  · intro i hi
    have hal : a + i < l.length := by omega
    have := hx (a + i) (bv l[a + i]) (by rw [List.getElem?_map, List.getElem?_eq_getElem hal]; rfl)
    rw [Addr.add_lit, ← Nat.add_assoc] at this
    rw [this]
    congr 2
    rw [List.getD_eq_getElem?_getD, List.getElem?_map, List.getElem?_take_of_lt hi, List.getElem?_drop, List.getElem?_eq_getElem hal]
    rfl

set_option maxHeartbeats 4000000 in
set_option maxRecDepth 100000 in
theorem pkText_any (A : Option Addr) (n cap : Nat) (l : List Nat) (a most : Nat) (w : World) (h : Byt w (.slice A n cap) l) (hl : ∀ b ∈ l, b < 256) (ha : a ≤ l.length) (hm : l.length ≤ 100000) :
    Gives 274 #[.slice A n cap, i64 a, i64 most] w (.tuple #[.string (toB (pText l a most).1), i64 (pText l a most).2.1, i64 (pText l a most).2.2]) := by
  have g1 := pkGet_any A n cap l a 1 w h hl ha (by omega) (by omega) hm
  have hn := h.len
  rw [List.length_map] at hn
  subst hn
  by_cases h1 : l.length < a + 1
  · have hv : pText l a most = ([], 0, 3) := if_pos h1
    rw [hv]
    have hg : pGet l a 1 = (0, 0, 3) := if_pos h1
    rw [hg] at g1
    have G1 := Lib.hid g1
    clear hv hg g1 h
    go_enter Tryz.func274, Tryz.ntmps274
    go_wp2_with fail
    refine G1.out.mono ?_; rintro e w' ⟨rfl, rfl⟩
    go_wp2_with fail
    exact bodyPost_ret (v := .tuple #[.string { data := #[] }, i64 0, i64 3]) (by simp [results, Tryz.results274, go_sem]) rfl ⟨rfl, rfl⟩
  · obtain ⟨b, off, rfl, hb, hx⟩ := Byt.cell h (by omega)
    have hal : a < l.length := by omega
    have hc : l[a] < 256 := hl _ (List.getElem_mem hal)
    have hg : pGet l a 1 = (l[a], a + 1, 0) := by
      unfold pGet
      rw [if_neg h1]
      have : (l.drop a).take 1 = [l[a]] := by rw [List.drop_eq_getElem_cons hal]; rfl
      rw [this]
      simp [beVal]
    have hd : l.getD a 0 = l[a] := by rw [List.getD_eq_getElem?_getD, List.getElem?_eq_getElem hal]; rfl
    rw [hg] at g1
    have hpt : pText l a most = if most < l[a] then ([], 0, 4) else if l.length < a + 1 + l[a] then ([], 0, 3) else ((l.drop (a + 1)).take l[a], a + 1 + l[a], 0) := by unfold pText; rw [if_neg h1, hd]
    have hcap : l.length ≤ cap := by obtain ⟨_, _, he, hle, _⟩ := h; injection he with _ _ he; subst he; rwa [List.length_map] at hle
    generalize l[a] = c at *
    have G1 := Lib.hid g1
    clear g1 hg h hd
    by_cases h2 : most < c
    · rw [if_pos h2] at hpt
      rw [hpt]
      clear hpt
      go_enter Tryz.func274, Tryz.ntmps274
      go_wp2_with fail
      refine G1.out.mono ?_; rintro e w' ⟨rfl, rfl⟩
      go_wp2_with fail
      exact bodyPost_ret (v := .tuple #[.string { data := #[] }, i64 0, i64 4]) (by simp [results, Tryz.results274, go_sem]) rfl ⟨rfl, rfl⟩
    · rw [if_neg h2] at hpt
      by_cases h3 : l.length < a + 1 + c
      · rw [if_pos h3] at hpt
        rw [hpt]
        clear hpt
        go_enter Tryz.func274, Tryz.ntmps274
        go_wp2_with fail
        refine G1.out.mono ?_; rintro e w' ⟨rfl, rfl⟩
        go_wp2_with fail
        exact bodyPost_ret (v := .tuple #[.string { data := #[] }, i64 0, i64 3]) (by simp [results, Tryz.results274, go_sem]) rfl ⟨rfl, rfl⟩
      · rw [if_neg h3] at hpt
        rw [hpt]
        clear hpt
        by_cases h4 : cap = a + 1
        · have hc0 : c = 0 := by omega
          subst hc0
          subst h4
          have hcv : (convert 22 9 (.slice (some ⟨b, off, none⟩) 0 0)).run Tryz.prog w = .ok (.string { data := #[] }) w := conv_piece (cap := 0) hx 0 0 (by omega)
          go_enter Tryz.func274, Tryz.ntmps274
          go_wp2_with fail
          refine G1.out.mono ?_; rintro e w' ⟨rfl, rfl⟩
          go_wp2_with fail
          exact bodyPost_ret (v := .tuple #[.string { data := #[] }, i64 (a + 1), i64 0]) (by simp [results, Tryz.results274, go_sem]) rfl ⟨rfl, rfl⟩
        · have hcv := conv_piece (cap := cap - (a + 1)) hx (a + 1) c (by omega)
          go_enter Tryz.func274, Tryz.ntmps274
          go_wp2_with fail
          refine G1.out.mono ?_; rintro e w' ⟨rfl, rfl⟩
          go_wp2_with fail
          exact bodyPost_ret (v := .tuple #[.string (toB ((l.drop (a + 1)).take c)), i64 (a + 1 + c), i64 0]) (by simp [results, Tryz.results274, go_sem]) rfl ⟨rfl, rfl⟩
end Go.Proofs.YthiimpleljaimaaGreatDoor

