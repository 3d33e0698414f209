/- store.may on one pair; slices.Repeat of one number, once. -/
import Derived.Test.YthiimpleljaimaaGreatDoorMg18
import Derived.Test.YthiimpleljaimaaGreatDoorRingC
import Derived.Test.YthiimpleljaimaaGreatDoorMg10
import Derived.Test.YthiimpleljaimaaGreatDoorMg9
import Derived.Test.YthiimpleljaimaaGreatDoorMg7
import Derived.Test.YthiimpleljaimaaGreatDoorMg23
import Derived.Test.YthiimpleljaimaaGreatDoorPick3
import Derived.Test.YthiimpleljaimaaGreatDoorPh2
namespace Go.Proofs.YthiimpleljaimaaGreatDoor
open Go Go.RowKit Flo
attribute [local go_sem] run_store_complex

abbrev mayIt (p : Pair) : Item := ⟨0, 0, 0, 1, 0, 0, p.gone, p.key, p.value⟩
set_option maxHeartbeats 8000000 in
set_option maxRecDepth 100000 in
theorem may_one (A : Option Addr) (c1 : Nat) (p : Pair) (w : World) (h1 : Pairs w (.slice A 1 c1) [p]) (hm : mayB (mayIt p) = true) :
    Makes 97 #[.slice A 1 c1] w (.bool true) := by
  have K := keys_string (P := Tryz.prog) (k := 9) Tryz.underlying9
  have g := may_any (mayIt p)
  rw [hm] at g
  obtain ⟨pk, vv, gg⟩ := p
  have G := fun W => Lib.hid (g W)
  obtain ⟨a1, o1, rfl, b1, p1⟩ := Pairs.cell h1 (by simp)
  obtain ⟨q0, q1, q2⟩ := p1 0 (by simp)
  simp only [List.getD_cons_zero, Nat.zero_mul, Nat.add_zero] at q0 q1 q2
  have Q := Lib.hid (And.intro q0 (And.intro q1 q2))
  clear g hm p1 h1 q0 q1 q2
  have hmm := fun W => @run_makeMap Tryz.prog 243 W
  go_enter Tryz.func97, Tryz.ntmps97
  go_wp2_with fail
  go_loopw [17] (fun i wr => ∃ k : Nat, k ≤ 1 ∧ i = .int .i64 k ∧ (k = 0 → MapR Value.string wr w.heap.size []) ∧ Below w.heap.size w wr) (fun i _ => 1 - (intOf i).toNat)
  case atStart => exact ⟨0, Nat.zero_le _, rfl, fun _ => MapR.made _ _, Base.al (Below.refl _ _) _⟩
  case round =>
    obtain ⟨k, hk, rfl, hmp, hb⟩ := hrel
    by_cases hlt : k = 0
    · subst hlt
      have hm0 := hmp rfl
      have hwr := hm0.lt
      have q0 : wr.cell? ⟨a1, o1, none⟩ = some (.string pk) := (hb.cell (p := ⟨a1, o1, none⟩) b1).trans Q.out.1
      have q1 : wr.cell? ⟨a1, o1 + 1, none⟩ = some (.string vv) := (hb.cell (p := ⟨a1, o1 + 1, none⟩) b1).trans Q.out.2.1
      have q2 : wr.cell? ⟨a1, o1 + 2, none⟩ = some (.bool gg) := (hb.cell (p := ⟨a1, o1 + 2, none⟩) b1).trans Q.out.2.2
      have hlk := (hm0.alloc (.cells #[.string pk, .string vv, .bool gg] 71)).lookup K Tryz.underlying243 (zero_int _) pk false
      have hm1 := hm0.alloc (.cells #[.string pk, .string vv, .bool gg] 71)
      have hgm : (mget ([] : List (ByteArray × Value)) pk).getD (i64 0) = i64 0 := rfl
      simp only [hgm, Bool.false_eq_true, if_false] at hlk
      clear hmp hm0 hgm
      have bx0 := blk_new wr (.cells #[.string pk, .string vv, .bool gg] 71)
      have hlt0 : wr.heap.size < (wr.alloc (.cells #[.string pk, .string vv, .bool gg] 71)).heap.size := by simp
      have hne0 : some wr.heap.size ≠ some w.heap.size := by intro e; injection e with e; omega
      go_wp2_with (refine wpList_update_R rfl 243 _ _ _ rfl 9 3 K Tryz.underlying243 rfl pk rfl (i64 1) rfl hm1 ?_; intro w3 hm5 hg5 hs5; (have hlk3 := hm5.lookup K Tryz.underlying243 (zero_int _) pk false); (have bx := (hg5.block _ hlt0 hne0).trans bx0); (have d0 : w3.cell? ⟨wr.heap.size, 0, none⟩ = some (.string pk) := cell_blk bx 0); (have d1 : w3.cell? ⟨wr.heap.size, 1, none⟩ = some (.string vv) := cell_blk bx 1); (have d2 : w3.cell? ⟨wr.heap.size, 2, none⟩ = some (.bool gg) := cell_blk bx 2); (have hgm : (mget (mput ([] : List (ByteArray × Value)) pk (i64 1)) pk).getD (i64 0) = i64 1 := by (rw [mget_mput (by simp), if_pos rfl]; rfl)); simp only [hgm, Bool.false_eq_true, if_false] at hlk3; have B3 := Lib.hid (Base.gr (Base.al hb (.cells #[.string pk, .string vv, .bool gg] 71)) hg5 (fun g hg => by (injection hg with hg; omega))); clear bx hg5 hm5 hs5 hgm)
      refine (G _).out.mono ?_; rintro e x1 ⟨rfl, hx⟩
      have hb9 := Base.tr B3.out hx
      clear d0 d1 d2 hlk3 hx
      go_wp2_with fail
      exact ⟨⟨1, Nat.le_refl _, by go_num, (fun h => by cases h), hb9⟩, by simp [intOf]⟩
    · obtain rfl : k = 1 := by omega
      clear hmp
      go_wp2_with fail
      go_ret
      exact ⟨rfl, hb⟩
theorem U64s.one {w : World} {b : Nat} {n : Int} {t : TypeId} {fr : Nat × Nat} (h : w.heap[b]? = some (.cells #[.int .u64 n] t fr)) : U64s w (.slice (some ⟨b, 0, none⟩) 1 1) [n] := by
  refine ⟨some ⟨b, 0, none⟩, 1, rfl, Nat.le_refl _, by decide, (fun h => by cases h), fun _ => ⟨b, 0, rfl, (Array.getElem?_eq_some_iff.1 h).1, fun i x hx => ?_⟩⟩
  cases i with
  | zero =>
    injection hx with hx
    subst hx
    refine ⟨rfl, fun j u hj => ?_⟩
    cases j with
    | zero => injection hj with hj; subst hj; exact cell_blk h 0
    | succ j => cases hj
  | succ i => cases hx
theorem info_u64S : (Tryz.prog.info? 47).map (fun i => (i.zero, i.size, i.bytes)) = some (some (.int .u64 0), 1, 8) := by kernel_rfl
set_option maxHeartbeats 8000000 in
set_option maxRecDepth 100000 in
theorem repeat_one {w : World} {b : Nat} {n : Int} (h : w.cell? ⟨b, 0, none⟩ = some (.int .u64 n)) (hb : b < w.heap.size) :
    Calls Tryz.prog 100 #[.slice (some ⟨b, 0, none⟩) 1 1, i64 1] w fun e w' => ∃ g, e = .returned (.slice (some ⟨g, 0, none⟩) 1 1) ∧ U64s w' (.slice (some ⟨g, 0, none⟩) 1 1) [n] ∧ w.heap.size ≤ g ∧ Below w.heap.size w w' := by
  have g0 : ∀ W, Hid (Gives 88 #[.int .u64 1, .int .u64 1] W (.tuple #[.int .u64 0, .int .u64 1])) := fun W => Lib.hid (mul_any 1 W (by decide))
  obtain ⟨i0, hi, hz0, hz1, hz2⟩ := info_parts info_u64S
  have hmk := fun W => run_make (P := Tryz.prog) W 207 47 i0 _ Tryz.underlying207 hi hz0 .i64 .i64 (1 : Int) (1 : Int) (by omega) (Int.le_refl _) (by rw [hz2]; decide) (by omega)
  have hz : madeCells (Value.int IntKind.u64 0).cells ((1 : Int).toNat * i0.size) = #[Value.int .u64 0] := by rw [hz1]; simp [madeCells, Value.cells]; exact ⟨0, by decide, by simp⟩
  rw [hz] at hmk
  have hinfo : (Tryz.prog.info? 47).map (·.size) = some 1 := by rw [hi]; exact congrArg some hz1
  have hcp : (Builtin.copy_ #[207, 207] 3 #[.slice (some ⟨w.heap.size, 0, none⟩) 1 1, .slice (some ⟨b, 0, none⟩) 1 1]).run Tryz.prog (w.alloc (.cells #[Value.int .u64 0] 47)) = .ok (goInt 1) (w.alloc (.cells #[Value.int .u64 n] 47)) := by
    have := run_copy_row (P := Tryz.prog) (w.alloc (.cells #[Value.int .u64 0] 47)) 207 207 3 47 w.heap.size 0 1 1 ⟨b, 0, none⟩ 1 1 _ _ [Value.int .u64 n] Tryz.underlying207 hinfo (blk_new _ _) (by rfl)
      (fun j v hj => by
        rw [World.cell?_alloc_lt _ _ _ (by rw [block_add]; exact hb)]
        cases j with
        | zero => injection hj with hj; subst hj; exact h
        | succ j => cases hj) (by simp) (by intro v hv; rw [List.mem_singleton] at hv; subst hv; rfl)
    rw [this, World.setRow_alloc_new]
    rfl
  clear hz0 hz1 hz2 hz hi hinfo h hb
  go_enter Tryz.func100, Tryz.ntmps100
  go_wp2_with fail
  refine (g0 _).out.mono ?_; rintro e x1 ⟨rfl, rfl⟩
  go_wp2_with fail
  go_loopw [8] (fun v wr => v = i64 1 ∧ wr = x1.alloc (.cells #[Value.int .u64 n] 47)) (fun _ _ => 0)
  case atStart => exact ⟨rfl, rfl⟩
  case round =>
    obtain ⟨rfl, rfl⟩ := hrel
    go_wp2_with fail
    go_ret
    exact ⟨_, rfl, U64s.one (blk_new _ _), Nat.le_refl _, Base.al (Below.refl _ _) _⟩
end Go.Proofs.YthiimpleljaimaaGreatDoor

/- rec.Put. -/
namespace Go.Proofs.YthiimpleljaimaaGreatDoor
open Go Go.RowKit Flo

/-- A record's frame. -/
def frameB (l : List Nat) : List Nat := ((127 :: be 2 l.length) ++ be 4 (checkedB l)) ++ l ++ [0]
theorem frame_len (l : List Nat) : (frameB l).length = l.length + 8 := by unfold frameB; simp [be_len]; omega
theorem checked_lt (l : List Nat) : checkedB l < 4294967296 := by
  have h := adler_lt (1, 0) (be 2 l.length ++ l)
  unfold checkedB sumB sumNum
  have := h.1
  have := h.2
  omega

set_option maxHeartbeats 8000000 in
set_option maxRecDepth 100000 in
theorem recPut_any (a o n cap : Nat) (l : List Nat) (w : World) (h : Byt w (.slice (some ⟨a, o, none⟩) n cap) l) (hl : ∀ b ∈ l, b < 256) (hm : l.length ≤ 4900) (hp : 0 < l.length) :
    Calls Tryz.prog 140 #[.slice (some ⟨a, o, none⟩) n cap] w fun e w' => ∃ g c, e = .returned (.tuple #[.slice (some ⟨g, 0, none⟩) (frameB l).length c, i64 0]) ∧ Byt w' (.slice (some ⟨g, 0, none⟩) (frameB l).length c) (frameB l) ∧ w.heap.size ≤ g ∧ Below w.heap.size w w' := by
  have hn := h.len
  rw [List.length_map] at hn
  subst hn
  have hcl := checked_lt l
  have kw1 : IntKind.u64.wrap (l.length : Int) = (l.length : Int) := by rw [IntKind.wrap_u64]; omega
  have kw2 : IntKind.u64.wrap (checkedB l : Int) = (checkedB l : Int) := by rw [IntKind.wrap_u64]; omega
  have t1 : decide ((65535 : Int) < (l.length : Int)) = false := decide_eq_false (by omega)
  have G1 : ∀ W b, Byt W (.slice (some ⟨b, 0, none⟩) 1 1) [127] → Hid (Own1 157 #[.slice (some ⟨b, 0, none⟩) 1 1, i64 2, .int .u64 l.length] W (127 :: be 2 l.length)) := fun W b hb => Lib.hid (put_any (some ⟨b, 0, none⟩) 1 1 [127] 2 l.length W hb (by decide) (by decide) (by decide))
  have l3 : (127 :: be 2 l.length).length = 3 := by simp [be_len]
  have l7 : ((127 :: be 2 l.length) ++ be 4 (checkedB l)).length = 7 := by simp [be_len]
  have G3 : ∀ W b, Byt W (.slice (some ⟨b, 0, none⟩) 3 3) (127 :: be 2 l.length) → Hid (Own1 157 #[.slice (some ⟨b, 0, none⟩) 3 3, i64 4, .int .u64 (checkedB l)] W ((127 :: be 2 l.length) ++ be 4 (checkedB l))) := fun W b hb => Lib.hid (put_any (some ⟨b, 0, none⟩) 3 3 _ 4 (checkedB l) W hb (by decide) (by decide) (by rw [l3]; decide))
  unfold Own1 at G1 G3
  rw [l3] at G1
  rw [l7] at G3
  have G2 := fun W (hW : Below w.heap.size w W) => Lib.hid (checked_any (some ⟨a, o, none⟩) l.length cap l W (Sl.below h hW) hl hm)
  have L3 := Lib.hid l3
  have L7 := Lib.hid l7
  obtain ⟨i0, hi, hz0, hz1, hz2⟩ := info_parts info_u8
  clear l3 l7
  go_enter Tryz.func140, Tryz.ntmps140
  go_wp2_with fail
  have b1 : Byt (w.alloc (.cells #[.int .u8 127] 5)) (.slice (some ⟨w.heap.size, 0, none⟩) 1 1) [127] := Byt.fresh (l := [127]) (blk_new w (.cells #[.int .u8 127] 5)) (by decide)
  refine (G1 _ _ b1).out.mono ?_; rintro e x1 ⟨rfl, hx1⟩
  have hz : (w.alloc (.cells #[.int .u8 127] 5)).heap.size = w.heap.size + 1 := by simp
  have hB1 : Below w.heap.size w x1 := by rw [hx1]; exact Base.al (Base.al (Below.refl _ _) _) _
  have b3 : Byt x1 (.slice (some ⟨w.heap.size + 1, 0, none⟩) 3 3) (127 :: be 2 l.length) := by
    have := Byt.fresh (l := 127 :: be 2 l.length) (blk_new (w.alloc (.cells #[.int .u8 127] 5)) (.cells ((127 :: be 2 l.length).map bv).toArray 5)) (by rw [L3.out]; decide)
    rw [L3.out, hz] at this
    rw [hx1]
    exact this
  rw [hz]
  have HB1 := Lib.hid hB1
  have HB3 := Lib.hid b3
  clear hx1 b1 hB1 b3 G1
  go_wp2_with fail
  refine (G2 _ HB1.out).out.mono ?_; rintro e x2 ⟨rfl, hb2⟩
  have G3' := G3 x2 _ (Sl.below HB3.out hb2)
  have HB2 := Lib.hid (Base.tr HB1.out hb2)
  have z12 := hb2.size
  have z01 := HB1.out.size
  clear G3 hb2 HB1 HB3 G2
  go_wp2_with fail
  refine G3'.out.mono ?_; rintro e x3 ⟨rfl, hx3⟩
  have hrow : x3.heap[x2.heap.size]? = some (.cells (((127 :: be 2 l.length) ++ be 4 (checkedB l)).map bv).toArray 5 (0, 0)) := by rw [hx3]; exact blk_new x2 _
  have hB3 : Below w.heap.size w x3 := by rw [hx3]; exact Base.al HB2.out _
  have z23 : x2.heap.size < x3.heap.size := by rw [hx3]; simp
  have hown : x3.ownsRow w.heap.size 5 1 (.slice (some ⟨x2.heap.size, 0, none⟩) 7 7) 7 (((127 :: be 2 l.length) ++ be 4 (checkedB l)).map bv) := ⟨by simp [be_len], .inr ⟨x2.heap.size, 7, _, rfl, by omega, hrow, Nat.le_refl _, by unfold maxLen; omega, by simp [be_len], List.take_of_length_le (by simp [be_len])⟩⟩
  have hsrc := Byt.src (Sl.below h hB3)
  have HO := Lib.hid hown
  have HS := Lib.hid hsrc
  have HB := Lib.hid hB3
  clear hx3 hrow hB3 hown hsrc G3' HB2 h hcl
  go_wp2_with (at_builtin; refine wpList_append_own _ rfl _ _ 22 rfl w.heap.size 5 i0 _ 1 1 Tryz.underlying22 hi hz0 hz1 hz2 rfl (by decide) _ _ _ rfl HO.out ⟨a, o, none⟩ l.length cap (l.map bv) rfl (by rw [List.length_map, Nat.mul_one]) ?c1 ?c2 ?c3 ?c4 ?c5 ?_)
  case c1 => exact HS.out
  case c2 => intro v hv; obtain ⟨x, _, rfl⟩ := List.mem_map.1 hv; rfl
  case c3 => unfold maxLen; omega
  case c4 => omega
  case c5 => omega
  intro v4 x4 own4 gr4 _
  have hB4 := Base.gr HB.out gr4 (fun g hg => (HO.out.lt g hg).1)
  have own5 := own4.alloc (.cells #[.int .u8 0] 5)
  have HO4 := Lib.hid own5
  have HB4 := Lib.hid (Base.al hB4 (.cells #[.int .u8 0] 5))
  have z4 := hB4.size
  clear own4 own5 gr4 HO HS HB hB4
  go_wp2_with (at_builtin; refine wpList_append_own _ rfl _ _ 22 rfl w.heap.size 5 i0 _ 1 1 Tryz.underlying22 hi hz0 hz1 hz2 rfl (by decide) _ _ _ rfl HO4.out ⟨x4.heap.size, 0, none⟩ 1 1 [.int .u8 0] rfl rfl ?c1 ?c2 ?c3 ?c4 ?c5 ?_)
  case c1 => exact news_of _ _ _
  case c2 => simp [Value.oneCell']
  case c3 => unfold maxLen; omega
  case c4 => omega
  case c5 => simp; omega
  intro v6 x6 own6 gr6 _
  have hB6 := Base.gr HB4.out gr6 (fun g hg => (HO4.out.lt g hg).1)
  have own7 : x6.ownsRow w.heap.size 5 1 v6 (frameB l).length ((frameB l).map bv) := by
    have e1 : (frameB l).length = 7 + l.length + 1 := by rw [frame_len]; omega
    have e2 : (frameB l).map bv = ((127 :: be 2 l.length) ++ be 4 (checkedB l)).map bv ++ l.map bv ++ [.int .u8 0] := by unfold frameB; simp
    rw [e1, e2]
    exact own6
  have hbyt := own_Byt own7
  have hp2 : 0 < (frameB l).length := by rw [frame_len]; omega
  have hlow : ∀ g, v6.ownBlock = some g → w.heap.size ≤ g := fun g hg => (own7.lt g hg).1
  obtain ⟨g, gc, rfl, -⟩ := own_pos own7 hp2 (by decide)
  have hge := hlow g rfl
  clear own6 own7 gr6 HO4 HB4 hlow
  go_wp2_with fail
  go_ret2
  exact ⟨g, gc, rfl, hbyt, hge, hB6⟩
end Go.Proofs.YthiimpleljaimaaGreatDoor

/- A store in memory, with any tree. -/
namespace Go.Proofs.YthiimpleljaimaaGreatDoor
open Go Go.RowKit Flo

/-- A note: its block, what was found, its sector, whether it counts. -/
structure Nt where
  b : Nat
  f : Found
  sec : Int
  cnt : Bool
def Nt.row (x : Nt) : List Value := x.f.row ++ [i64 x.sec, .bool x.cnt]
abbrev Nt.ptr (x : Nt) : Value := .pointer (some ⟨x.b, 0, none⟩)
structure StV where
  TB : Nat
  MB : Nat
  N : Nor
  H : ShV
  nv : Value
  nts : List Nt
  nm : List (ByteArray × Value)
  trv : Value
  t : Tr
  seq : Nat
  offs : Nat
def StV.cells (T : StV) : Array Value := #[ptrD T.N, i64 T.N.S, i64 T.N.Z, T.H.ptr, T.nv, .map (some T.MB), T.trv, .int .u64 T.seq, i64 T.offs]
abbrev StV.ptr (T : StV) : Value := .pointer (some ⟨T.TB, 0, none⟩)
/-- The store stands in memory, in blocks from B on; the device and the shelf below them. -/
structure StR (O : Nat → Prop) (B : Nat) (w : World) (T : StV) : Prop where
  sh : ShD O w T.N T.H
  lim : ∀ k, shO O T.H k → k < B
  box : w.heap[T.TB]? = some (.cells T.cells 124 (0, 0))
  tb : B ≤ T.TB
  own : w.ownsRow B 188 1 T.nv T.nts.length (T.nts.map Nt.ptr)
  nt : ∀ x ∈ T.nts, w.heap[x.b]? = some (.cells x.row.toArray 190 (0, 0)) ∧ B ≤ x.b
  nd : (T.nts.map Nt.b).Nodup
  map : MapR Value.string w T.MB T.nm
  mb : B ≤ T.MB
  tree : TreeR w B T.t T.trv

theorem StR.lt {O : Nat → Prop} {B : Nat} {w : World} {T : StV} (h : StR O B w T) : T.TB < w.heap.size := (Array.getElem?_eq_some_iff.1 h.box).1
theorem StR.base {O : Nat → Prop} {B : Nat} {w : World} {T : StV} (h : StR O B w T) : B ≤ w.heap.size := by have := h.lt; have := h.tb; omega
/-- The store's own blocks. -/
def StV.own (T : StV) (k : Nat) : Prop := k = T.TB ∨ k = T.MB ∨ T.nv.ownBlock = some k ∨ ∃ x ∈ T.nts, k = x.b
theorem outTr {Q1 Q2 : Nat → Prop} {w v u : World} (h : Out Q1 w v) (g : Out Q2 v u) (hq : ∀ k, Q2 k → Q1 k ∨ w.heap.size ≤ k) : Out Q1 w u :=
  ⟨g.os.trans h.os, g.tape.trans h.tape, g.output.trans h.output, Nat.le_trans h.size g.size, fun k hk hn => (g.block k (Nat.lt_of_lt_of_le hk h.size) (fun h2 => by
    rcases hq k h2 with h3 | h3
    · exact hn h3
    · omega)).trans (h.block k hk hn)⟩
theorem outGr {Q : Nat → Prop} {w w' : World} {row : Option Nat} (h : w.grownBy w' row) (hr : ∀ g, row = some g → Q g) : Out Q w w' := ⟨h.os, h.tape, h.output, h.size, fun k hk hn => h.block k hk (fun e => hn (hr k e.symm))⟩
theorem ShD.baseB {O : Nat → Prop} {B : Nat} {w w' : World} {N : Nor} {H : ShV} (h : ShD O w N H) (lim : ∀ k, shO O H k → k < B) (hb : Below B w w') : ShD O w' N H :=
  { h with
    dev := h.dev.outQ (Q := fun k => B ≤ k) ⟨hb.os, hb.tape, hb.output, hb.size, fun k _ hn => hb.block k (by omega)⟩ (fun k hk hq => by have := lim k (.inl hk); omega)
    sh := h.sh.keep (hb.block _ (lim _ (.inr (.inl rfl)))) (hb.block _ (lim _ (.inr (.inr (.inl rfl))))) (hb.block _ (lim _ (.inr (.inr (.inr rfl))))) }
theorem Below.low {B : Nat} {w w' : World} (h : Below w.heap.size w w') (hB : B ≤ w.heap.size) : Below B w w' := ⟨h.os, h.tape, h.output, h.size, fun k hk => h.block k (by omega)⟩
theorem lowTr {B : Nat} {w v u : World} (h : Below B w v) (g : Below B v u) : Below B w u := ⟨g.os.trans h.os, g.tape.trans h.tape, g.output.trans h.output, Nat.le_trans h.size g.size, fun k hk => (g.block k hk).trans (h.block k hk)⟩
theorem lowSt {B : Nat} (w : World) {g : Nat} (hg : B ≤ g) (o : Nat) (v : Value) : Below B w (w.setCell ⟨g, o, none⟩ v) := ⟨rfl, rfl, rfl, by simp [World.setCell], fun k hk => Below.heap_setCell _ _ _ _ (by show k ≠ g; omega)⟩
theorem lowGr {B : Nat} {w w' : World} {row : Option Nat} (hB : B ≤ w.heap.size) (h : w.grownBy w' row) (hr : ∀ g, row = some g → B ≤ g) : Below B w w' := ⟨h.os, h.tape, h.output, h.size, fun k hk => h.block k (by omega) (fun e => by have := hr k e.symm; omega)⟩
theorem StR.below {O : Nat → Prop} {B : Nat} {w w' : World} {T : StV} (h : StR O B w T) (hb : Below w.heap.size w w') : StR O B w' T :=
  { h with sh := h.sh.below hb, box := blk_below h.box hb, own := own_below h.own hb, nt := fun x hx => ⟨blk_below (h.nt x hx).1 hb, (h.nt x hx).2⟩, map := h.map.below hb, tree := h.tree.below hb }
theorem map_ne {w : World} {b g : Nat} {l : List (ByteArray × Value)} {cs : Array Value} {t : TypeId} {f : Nat × Nat} (h : MapR Value.string w b l) (hg : w.heap[g]? = some (.cells cs t f)) : b ≠ g := by
  rintro rfl
  obtain ⟨L, c, hb, _⟩ := h
  rw [hb] at hg
  cases hg
/-- The map is written. -/
theorem StR.mapped {O : Nat → Prop} {B : Nat} {w w' : World} {T : StV} (h : StR O B w T) {nm' : List (ByteArray × Value)} (hm : MapR Value.string w' T.MB nm') (hg : w.grownBy w' (some T.MB)) : StR O B w' { T with nm := nm' } := by
  have kp : ∀ {g : Nat} {cs : Array Value} {t : TypeId} {f : Nat × Nat}, w.heap[g]? = some (.cells cs t f) → w'.heap[g]? = some (.cells cs t f) := fun {g cs t f} hx => by
    rw [hg.block g (Array.getElem?_eq_some_iff.1 hx).1 (fun e => map_ne h.map hx (by injection e with e; exact e.symm))]
    exact hx
  have hb : Below B w w' := lowGr h.base hg (fun g hg => by injection hg with hg; have := h.mb; omega)
  refine { h with sh := h.sh.baseB h.lim hb, box := kp h.box, own := ?_, nt := fun x hx => ⟨kp (h.nt x hx).1, (h.nt x hx).2⟩, map := hm, tree := h.tree.keep fun g cs f _ hx => kp hx }
  refine ⟨h.own.1, ?_⟩
  rcases h.own.2 with hn | ⟨g, cap, cur, e, hbg, hgg, rest⟩
  · exact .inl hn
  · exact .inr ⟨g, cap, cur, e, hbg, kp hgg, rest⟩
/-- A cell of the box is written. -/
theorem StR.setBox {O : Nat → Prop} {B : Nat} {w : World} {T T' : StV} (h : StR O B w T) (i : Nat) (v : Value) (hs : T' = { T with trv := T'.trv, t := T'.t, seq := T'.seq }) (hc : T.cells.setIfInBounds i v = T'.cells)
    (hl : TreeR w B T'.t T'.trv) : StR O B (w.setCell ⟨T.TB, i, none⟩ v) T' := by
  have hb : Below B w (w.setCell ⟨T.TB, i, none⟩ v) := lowSt w h.tb _ _
  rw [hs]
  refine { sh := h.sh.baseB h.lim hb, lim := h.lim, box := ?_, tb := h.tb, own := own_setT h.own h.box (by decide), nt := fun x hx => ⟨blk_set (h.nt x hx).1 _ _ (ne_type (h.nt x hx).1 h.box (by decide)), (h.nt x hx).2⟩, nd := h.nd, map := h.map.of_block (Below.heap_setCell _ _ _ _ (map_ne h.map h.box)), mb := h.mb, tree := hl.keep fun g cs f _ hx => blk_set hx _ _ (ne_type hx h.box (by decide)) }
  rw [← hs, ← hc]
  have := heap_setCell h.box i v
  rw [hs]
  exact this
/-- A note counts. -/
theorem StR.counted {O : Nat → Prop} {B : Nat} {w : World} {T : StV} (h : StR O B w T) {xs : List Nt} {x : Nt} (hx : T.nts = xs ++ [x]) : StR O B (w.setCell ⟨x.b, 12, none⟩ (.bool true)) { T with nts := xs ++ [{ x with cnt := true }] } := by
  have hm : x ∈ T.nts := by rw [hx]; simp
  have hxb := h.nt x hm
  have hb : Below B w (w.setCell ⟨x.b, 12, none⟩ (.bool true)) := lowSt w hxb.2 _ _
  have hnd := h.nd
  rw [hx, List.map_append, List.nodup_append] at hnd
  refine { h with sh := h.sh.baseB h.lim hb, box := blk_set h.box _ _ (ne_type h.box hxb.1 (by decide)), own := ?_, nt := ?_, nd := ?_, map := h.map.of_block (Below.heap_setCell _ _ _ _ (map_ne h.map hxb.1)), tree := h.tree.keep fun g cs f _ hy => blk_set hy _ _ (ne_type hy hxb.1 (by decide)) }
  · have := own_setT (o := 12) (u := .bool true) h.own hxb.1 (by decide)
    rw [hx] at this
    simpa using this
  · intro y hy
    rcases List.mem_append.1 hy with hy | hy
    · have hyT : y ∈ T.nts := by rw [hx]; exact List.mem_append_left _ hy
      refine ⟨blk_set (h.nt y hyT).1 _ _ ?_, (h.nt y hyT).2⟩
      exact hnd.2.2 y.b (List.mem_map.2 ⟨y, hy, rfl⟩) x.b (by simp)
    · rw [List.mem_singleton] at hy
      subst hy
      refine ⟨?_, hxb.2⟩
      rw [heap_setCell hxb.1]
      rfl
  · have := h.nd
    rw [hx] at this
    simpa using this
/-- The device has acted, the shelf has changed. -/
theorem StR.shelved {O : Nat → Prop} {B : Nat} {w w' : World} {T : StV} (h : StR O B w T) {N' : Nor} {H' : ShV} (hd : ShD O w' N' H') (ho : Out (shO O T.H) w w') (e1 : N'.D = T.N.D) (e2 : N'.S = T.N.S) (e3 : N'.Z = T.N.Z) (e4 : H'.SB = T.H.SB) (e5 : H'.LB = T.H.LB) (e6 : H'.EB = T.H.EB) : StR O B w' { T with N := N', H := H' } := by
  have kp : ∀ {g : Nat} {x : Obj}, B ≤ g → w.heap[g]? = some x → w'.heap[g]? = some x := fun {g x} hg hx => ho.blk hx (fun hk => by have := h.lim g hk; omega)
  refine { sh := hd, lim := ?_, box := ?_, tb := h.tb, own := own_keepAll h.own (fun g x hg hx => kp hg hx), nt := fun x hx => ⟨kp (h.nt x hx).2 (h.nt x hx).1, (h.nt x hx).2⟩, nd := h.nd, map := ?_, mb := h.mb, tree := h.tree.keep fun g cs f hg hx => kp hg hx }
  · intro k hk
    refine h.lim k ?_
    rcases hk with hk | hk | hk | hk
    · exact .inl hk
    · exact .inr (.inl (hk.trans e4))
    · exact .inr (.inr (.inl (hk.trans e5)))
    · exact .inr (.inr (.inr (hk.trans e6)))
  · have hc : ({ T with N := N', H := H' } : StV).cells = T.cells := by
      unfold StV.cells
      simp only [ptrD, ShV.ptr, e1, e2, e3, e4]
    rw [hc]
    exact kp h.tb h.box
  · obtain ⟨L, c, hb, he⟩ := h.map
    exact ⟨L, c, kp h.mb hb, he⟩
/-- A note is added. -/
theorem StR.noted {O : Nat → Prop} {B : Nat} {w w' : World} {T : StV} (h : StR O B w T) {x : Nt} {v : Value} (hg : w.grownBy w' T.nv.ownBlock) (ho : w'.ownsRow B 188 1 v (T.nts.length + 1) (T.nts.map Nt.ptr ++ [x.ptr]))
    (hx : w.heap[x.b]? = some (.cells x.row.toArray 190 (0, 0))) (hxB : B ≤ x.b) (hn : ∀ y ∈ T.nts, y.b ≠ x.b) : StR O B (w'.setCell ⟨T.TB, 4, none⟩ v) { T with nv := v, nts := T.nts ++ [x] } := by
  have hb : Below B w w' := lowGr h.base hg (fun g hg => (h.own.lt g hg).1)
  have hbox := keepNS h.own hg h.box (by decide)
  have hm : MapR Value.string w' T.MB T.nm := h.map.grown hg (fun e => by
    rcases h.own.2 with ⟨h1, _⟩ | ⟨g, cap, cur, h1, _, hgg, _⟩
    · rw [h1] at e; cases e
    · rw [h1] at e
      injection e with e
      exact map_ne h.map hgg e)
  have hb2 : Below B w (w'.setCell ⟨T.TB, 4, none⟩ v) := lowTr hb (lowSt w' h.tb _ _)
  refine { sh := h.sh.baseB h.lim hb2, lim := h.lim, box := heap_setCell hbox 4 v, tb := h.tb, own := ?_, nt := ?_, nd := ?_, map := hm.of_block (Below.heap_setCell _ _ _ _ (map_ne hm hbox)), mb := h.mb, tree := h.tree.keep fun g cs f _ hx => blk_set (keepNS h.own hg hx (by decide)) _ _ (ne_type hx h.box (by decide)) }
  · have := own_setT (o := 4) (u := v) ho hbox (by decide)
    rw [List.length_append, List.map_append]
    exact this
  · intro y hy
    rcases List.mem_append.1 hy with hy | hy
    · exact ⟨blk_set (keepNS h.own hg (h.nt y hy).1 (by decide)) _ _ (ne_type (h.nt y hy).1 h.box (by decide)), (h.nt y hy).2⟩
    · rw [List.mem_singleton] at hy
      subst hy
      exact ⟨blk_set (keepNS h.own hg hx (by decide)) _ _ (ne_type hx h.box (by decide)), hxB⟩
  · rw [List.map_append, List.nodup_append]
    refine ⟨h.nd, by simp, fun a ha b hb => ?_⟩
    rw [List.map_cons, List.map_nil, List.mem_singleton] at hb
    subst hb
    obtain ⟨y, hy, rfl⟩ := List.mem_map.1 ha
    exact hn y hy
end Go.Proofs.YthiimpleljaimaaGreatDoor

/- (*Store).room of pairs: the first turn finds places. -/
namespace Go.Proofs.YthiimpleljaimaaGreatDoor
open Go Go.RowKit Flo

theorem flat_i64 : ∀ l : List Int, (l.map fun n => [Value.int .i64 n]).flatten = l.map i64
  | [] => rfl
  | a :: l => by
    rw [List.map_cons, List.flatten_cons, flat_i64 l]
    rfl
theorem flat_plV : ∀ l : List (Nat × Nat), ((l.map fun p => (near p.1, near p.2)).map fun p => [cx p.1 p.2]).flatten = l.map plV
  | [] => rfl
  | a :: l => by
    rw [List.map_cons, List.map_cons, List.flatten_cons, flat_plV l]
    rfl
theorem ints_own {w : World} {base : Nat} {v : Value} {l : List Int} (h : w.ownsRow base 3 1 v l.length (l.map i64)) : Ints w v l :=
  Sl.own _ (by intro y hy; obtain ⟨q, _, rfl⟩ := List.mem_map.1 hy; rfl) (by rw [List.length_map, flat_i64]; exact h)
theorem places_own {w : World} {base : Nat} {v : Value} {l : List (Nat × Nat)} (h : w.ownsRow base 127 1 v l.length (l.map plV)) : Places w v (l.map fun p => (near p.1, near p.2)) :=
  Sl.own _ (by intro y hy; obtain ⟨q, _, rfl⟩ := List.mem_map.1 hy; rfl) (by rw [List.length_map, List.length_map, flat_plV]; exact h)

set_option maxHeartbeats 16000000 in
set_option maxRecDepth 100000 in
theorem room_list {O : Nat → Prop} {B : Nat} {w : World} {T : StV} (h : StR O B w T) (A : Option Addr) (c1 : Nat) (l : List Pair) (h1 : Pairs w (.slice A l.length c1) l) (hfew : l.length ≤ 255) (a0 : Option Nat) (ha0 : T.H.op = atV a0) (haS : ∀ k, a0 = some k → k < T.H.S) (e0 : Nat) (he0 : ∀ k, a0 = some k → T.H.el[k]? = some e0) (hn0 : a0 = none → e0 = 0) (he : e0 ≤ T.H.Z)
    (y : List (Nat × Nat) × Nat) (hgo : planGo T.H.Z (sizesL l) (seenL T.H T.N T.H.S) a0 e0 0 [] = some y) (hbl : y.2 + 2 ≤ (idx canBlank 0 (seenL T.H T.N T.H.S)).length) :
    Calls Tryz.prog 98 #[T.ptr, .slice A l.length c1] w fun e w' => ∃ v, e = .returned (.tuple #[v, i64 0]) ∧ w'.ownsRow w.heap.size 127 1 v y.1.length (y.1.map plV) ∧ Below w.heap.size w w' := by
  have hgeo := h.sh.dev.geoI
  have hS64 := h.sh.sh.S64
  have hpos : 0 < T.H.S := by rw [h.sh.S]; omega
  have hZ8 : 8 ≤ T.H.Z := by rw [h.sh.Z]; omega
  have hlen : (seenL T.H T.N T.H.S).length = T.H.S := by rw [seenL_len, h.sh.sh.il]
  have kS : IntKind.i64.wrap (4 * (T.N.S : Int)) = 4 * (T.N.S : Int) := by rw [IntKind.wrap_i64, ← h.sh.S]; omega
  have S1 := fun W (hb : Below w.heap.size w W) => Lib.hid (sizes_any A c1 l W (Sl.below h1 hb) (by omega))
  have P1 := fun W (hb : Below w.heap.size w W) A1 m cap (hy : Ints W (.slice A1 m cap) (sizesL l)) => Lib.hid (plan_any (h.sh.dev.below hb) (h.sh.sh.below hb) h.sh.D hpos a0 ha0 haS e0 he0 hn0 he hZ8 A1 m cap (sizesL l) hy (by unfold sizesL; rw [List.length_map]; omega))
  rw [hgo] at P1
  have I1 := fun W (hb : Below w.heap.size w W) => Lib.hid (infos_any (h.sh.dev.below hb) (h.sh.sh.below hb) h.sh.D hpos)
  have B1 := fun W A1 m cap (hy : Infos W (.slice A1 m cap) (seenL T.H T.N T.H.S)) => Lib.hid (Blank_any A1 m cap (seenL T.H T.N T.H.S) W hy (by rw [hlen]; omega))
  have HLN := Lib.hid hlen
  have HY := Lib.hid hbl
  have hbs := h.lt
  have c1' : w.cell? ⟨T.TB, 1, none⟩ = some (i64 T.N.S) := cell_blk h.box 1
  have c3' : w.cell? ⟨T.TB, 3, none⟩ = some T.H.ptr := cell_blk h.box 3
  clear h h1 hgo hlen hbl ha0 haS he0 hn0 he hgeo hfew
  go_enter Tryz.func98, Tryz.ntmps98
  go_wp2_with fail
  go_loopw [7] (fun v wr => v = i64 0 ∧ wr = w) (fun _ _ => 0)
  case atStart => exact ⟨rfl, rfl⟩
  case round =>
    obtain ⟨rfl, rfl⟩ := hrel
    have q3 := fun p : OnOf wr => on_cell hbs c3' p
    go_wp2_with fail
    refine wp_region_po (fun w' => ∃ p : OnOf wr, w' = p.v) 14 [5, 6] (by kernel_rfl) (by kernel_rfl) ⟨⟨_, Base.dr (Below.refl _ _)⟩, rfl⟩ ?_
    simp only [List.take_succ_cons, List.take_zero, List.drop_succ_cons, List.drop_zero]
    have on0 := @on_rd0; have on1 := @on_rd1; have on2 := @on_rd2; have on3 := @on_new1; have on4 := @on_new2; have on5 := @gr_rd0
    repeat ((with_reducible refine seq_read ?_ ?_); (focus rfl); (intro K hK); (unfold readsAt); go_simp; first | ((with_reducible refine hK _ ?_); clear hK K) | (rw [if_neg (by intro h; cases h)]; (with_reducible refine hK _ ?_); clear hK K))
    refine seq_eff (by rfl) (by first | rfl | go_simp) ?_
    intro K hK
    unfold effAt2
    go_simp
    refine ⟨rfl, (S1 _ (Base.dr (Below.refl _ _))).out.mono ?_⟩; rintro e x1 ⟨v, rfl, hown, hb1⟩
    have hb2 := Base.tr (Base.dr (Below.refl _ wr)) hb1
    obtain ⟨A2, n2, c2, rfl⟩ : ∃ A n c, v = .slice A n c := by
      rcases hown.2 with ⟨h1, _⟩ | ⟨g', c', _, h1, _⟩
      · exact ⟨_, _, _, h1⟩
      · exact ⟨_, _, _, h1⟩
    have hi1 : Ints x1 (.slice A2 n2 c2) (sizesL l) := ints_own (by rw [show (sizesL l).length = l.length by unfold sizesL; simp]; exact hown)
    refine ⟨_, rfl, ⟨⟨_, hb2⟩, rfl⟩, hK _ _ ?_⟩
    clear hK K
    repeat ((with_reducible refine seq_read ?_ ?_); (focus rfl); (intro K hK); (unfold readsAt); go_simp; first | ((with_reducible refine hK _ ?_); clear hK K) | (rw [if_neg (by intro h; cases h)]; (with_reducible refine hK _ ?_); clear hK K))
    refine seq_eff (by rfl) (by first | rfl | go_simp) ?_
    intro K hK
    unfold effAt2
    go_simp
    refine ⟨rfl, (P1 _ hb2 A2 n2 c2 hi1).out.mono ?_⟩; rintro e x2 ⟨v2, k2, b2, rfl, hb3, hown2, rfl, rfl⟩
    have hb4 := Base.tr hb2 hb3
    refine ⟨_, rfl, ⟨⟨_, hb4⟩, rfl⟩, hK _ _ ?_⟩
    clear hK K
    repeat ((with_reducible refine seq_read ?_ ?_); (focus rfl); (intro K hK); (unfold readsAt); go_simp; first | ((with_reducible refine hK _ ?_); clear hK K) | (rw [if_neg (by intro h; cases h)]; (with_reducible refine hK _ ?_); clear hK K))
    clear on0 on1 on2 on3 on4 on5
    with_reducible refine seq_nil ?_
    have HO2 := Lib.hid hown2
    have z12 := hb2.size
    have c3x : x2.cell? ⟨T.TB, 3, none⟩ = some T.H.ptr := (hb4.cell (p := ⟨T.TB, 3, none⟩) hbs).trans c3'
    have hbx := Nat.lt_of_lt_of_le hbs hb4.size
    have q3x := fun p : OnOf x2 => on_cell hbx c3x p
    obtain ⟨L, hL⟩ : ∃ L, (idx canBlank 0 (seenL T.H T.N T.H.S)).length = L := ⟨_, rfl⟩
    have hy1 := HY.out
    rw [hL] at hy1 B1
    have hL2 : L ≤ 1000 := by
      have := idx_len canBlank (seenL T.H T.N T.H.S) 0
      have := HLN.out
      omega
    have kd : IntKind.i64.wrap ((L : Int) - (y.2 : Int)) = (L : Int) - (y.2 : Int) := by rw [IntKind.wrap_i64]; omega
    have td : decide ((2 : Int) ≤ (L : Int) - (y.2 : Int)) = true := decide_eq_true (by omega)
    clear q3 hown hown2 hi1 hb1 hb2 hb3 hy1 hL
    go_wp2_with fail
    refine (I1 _ hb4).out.mono ?_; rintro e x3 ⟨v3, rfl, hown3, hb5⟩
    obtain ⟨A3, n3, c3, rfl⟩ : ∃ A n c, v3 = .slice A n c := by
      rcases hown3.2 with ⟨h1, _⟩ | ⟨g', c', _, h1, _⟩
      · exact ⟨_, _, _, h1⟩
      · exact ⟨_, _, _, h1⟩
    have B3 := B1 x3 A3 n3 c3 (infos_own (by rw [HLN.out]; exact hown3))
    have hb6 := Base.tr hb4 hb5
    clear B1 hown3 c3x
    go_wp2_with fail
    refine B3.out.mono ?_; rintro e x4 ⟨rfl, hb7⟩
    have HO4 := Lib.hid (own_below (own_below HO2.out hb5) hb7)
    have hb8 := Base.tr hb6 hb7
    clear HO2 B3
    go_wp2_with fail
    go_ret2
    exact ⟨_, rfl, own_base HO4.out (by omega), hb8⟩
end Go.Proofs.YthiimpleljaimaaGreatDoor

