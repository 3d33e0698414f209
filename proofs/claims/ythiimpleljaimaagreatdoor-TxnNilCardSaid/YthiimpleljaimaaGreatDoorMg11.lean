/- A copy by append onto an empty literal: the new row is told outright. -/
import Derived.Test.YthiimpleljaimaaGreatDoorMg10
import Derived.Laws.OwnMore
import Derived.Test.YthiimpleljaimaaGreatDoorMg1
import Derived.Test.YthiimpleljaimaaGreatDoorMg9
import Derived.Test.YthiimpleljaimaaGreatDoorPh2
import Derived.Test.YthiimpleljaimaaGreatDoorMg3
import Derived.Lib.SlBytesConst
namespace Go.Proofs.YthiimpleljaimaaGreatDoor
open Go Go.RowKit

/-- 'append([]T{}, src...)', T of one cell, src not empty. -/
theorem wpList_append_fresh {P : Program} (w : World) {ops : Array Oper} {rest : List Oper} {o : Oper} {a : Act} {Q : Exit → Act → World → Prop} (hgd : o.guard = none) (s x : Operand) (t : TypeId)
    (ho : o.op = .call { callee := .builtin .append, args := #[s, x], argTypes := #[t, t] })
    (e : TypeId) (i : TypeInfo) (z : Value) (ht : P.underlying t = some (.slice e)) (hi : P.info? e = some i) (hz : i.zero = some z) (hsize : i.size = 1) (hby : i.bytes ≤ 1000)
    (b : Addr) (hs : a.eval s = .slice (some b) 0 0) (ad : Addr) (n c : Nat) (news : List Value) (hx : a.eval x = .slice (some ad) n c) (hl : news.length = n) (hn : 0 < n) (hm : n ≤ 100000) (hnews : ∀ j u, news[j]? = some u → w.cell? (ad.add j) = some u)
    (h : ∀ (cp : Nat) (junk : List Value), n ≤ cp → cp ≤ maxLen → wpList P ops Q rest (a.put o.dst (.slice (some ⟨w.heap.size, 0, none⟩) n cp)) (w.alloc (.cells (news ++ junk).toArray e)).drew) : wpList P ops Q (o :: rest) a w := by
  have hfit : Builtin.nextslicecap (0 + n) 0 * i.bytes ≤ 281474976710656 := growslice_fits (by omega) (by
    have : (0 + n) * i.bytes ≤ 100000 * 1000 := Nat.mul_le_mul (by omega) hby
    omega)
  have hr := run_append_grow (P := P) w t o.type e i z ht hi hz b 0 0 [] (by simp) (by intro j v hj; cases hj) ad n c news (by rw [hl, hsize, Nat.mul_one]) hnews (by omega) (by omega) hfit
  have hge := grownCap_ge w (0 + n) 0 e
  have hle := grownCap_le_maxLen w (0 + n) 0 e (by unfold maxLen; omega)
  have := h (grownCap w (0 + n) 0 e) (Builtin.zeroCells z.cells (grownCap w (0 + n) 0 e - (0 + n))).toList (by omega) hle
  rw [Nat.zero_add] at this
  rw [Nat.zero_add] at hr
  have hc : (([] : List Value).toArray ++ news.toArray ++ Builtin.zeroCells z.cells (grownCap w n 0 e - n)) = (news ++ (Builtin.zeroCells z.cells (grownCap w n 0 e - n)).toList).toArray := by
    apply Array.ext'
    simp
  rw [hc] at hr
  refine wpList_plain hgd fun K hK => ?_
  unfold Oper.wp execOp
  simp only [ho, resolve, invoke, builtin, Sem.run_bind, Sem.run_pure, Result.andThen_ok, List.map_toArray, List.map_cons, List.map_nil, hs, hx, hr]
  exact hK _ _ this
/-- A block's first cells, as a slice. -/
theorem Sl.of_blk {w : World} {g n cap : Nat} {D xs : List Value} {t : TypeId} (h : w.heap[g]? = some (.cells D.toArray t (0, 0))) (hD : D.take n = xs) (hn : xs.length = n) (hc : n ≤ cap) (hm : cap ≤ maxLen) : Sl w 1 (.slice (some ⟨g, 0, none⟩) n cap) (xs.map fun x => [x]) := by
  subst hn
  refine ⟨some ⟨g, 0, none⟩, cap, by rw [List.length_map], by rw [List.length_map]; exact hc, hm, (fun h => by cases h), fun _ => ⟨g, 0, rfl, (Array.getElem?_eq_some_iff.1 h).1, ?_⟩⟩
  intro i x hi
  rw [List.getElem?_map] at hi
  obtain ⟨y, hy, rfl⟩ := Option.map_eq_some_iff.1 hi
  refine ⟨rfl, fun j u hj => ?_⟩
  cases j with
  | succ j => cases hj
  | zero =>
    have hu : u = y := by simpa using hj.symm
    subst hu
    have hil := (List.getElem?_eq_some_iff.1 hy).1
    rw [← hD, List.getElem?_take_of_lt hil] at hy
    rw [cell_blk h, show 0 + i * 1 + 0 = i by omega]
    simpa using hy
theorem blk_new3 (w : World) (x y z u : Obj) : ((((w.alloc x).alloc y).alloc z).alloc u).heap[w.heap.size + 1 + 1 + 1]? = some u := by
  have h := blk_new2 (w.alloc x) y z u
  rwa [show (w.alloc x).heap.size = w.heap.size + 1 from by simp] at h
end Go.Proofs.YthiimpleljaimaaGreatDoor

/- Function values. -/
namespace Go.Proofs.YthiimpleljaimaaGreatDoor
open Go.RowKit

/-- Function f has a body of Go's: a call enters it. -/
abbrev Enters (f : FuncId) : Prop := ∀ (args : Array Value) (W : World), (callFunc f args).run Tryz.prog W = .ok (.enter f args) W
end Go.Proofs.YthiimpleljaimaaGreatDoor

/- head.Of, head.Class, and the reference's. -/
namespace Go.Proofs.YthiimpleljaimaaGreatDoor
open Go.RowKit

/-- Where is the first byte that isn't 255? -/
theorem ret_int0 {a b : Int} (h : a = b) : Ending.returned (i64 a) = Ending.returned (i64 b) := by rw [h]
def ffAt (l : List Nat) : Int := match l.findIdx? (fun x => !(x == 255)) with | some i => (i : Int) | none => -1
theorem ffAt_none {l : List Nat} (h : blankB l = true) : ffAt l = -1 := by
  unfold ffAt
  rw [List.findIdx?_eq_none_iff.2]
  intro x hx
  unfold blankB at h
  rw [List.all_eq_true] at h
  rw [h x hx]; rfl
theorem ffAt_some {l : List Nat} {k x : Nat} (hx : l[k]? = some x) (ha : blankB (l.take k) = true) (hne : x ≠ 255) : ffAt l = k := by
  obtain ⟨hk, rfl⟩ := List.getElem?_eq_some_iff.1 hx
  have : l.findIdx? (fun x => !(x == 255)) = some k := by
    rw [List.findIdx?_eq_some_iff_getElem]
    refine ⟨hk, by rw [beq_eq_false_iff_ne.2 hne]; rfl, fun j hj => ?_⟩
    unfold blankB at ha
    rw [List.all_eq_true] at ha
    have := ha l[j] (List.mem_take_iff_getElem.2 ⟨j, by omega, rfl⟩)
    rw [this]; decide
  unfold ffAt
  rw [this]
theorem blankB_take {l : List Nat} {k : Nat} (h : l[k]? = some 255) (ha : blankB (l.take k) = true) : blankB (l.take (k + 1)) = true := by
  obtain ⟨hk, h2⟩ := List.getElem?_eq_some_iff.1 h
  unfold blankB at *
  rw [List.take_succ_eq_append_getElem hk, List.all_append, ha, h2]
  rfl
theorem blankB_not {l : List Nat} {k x : Nat} (hx : l[k]? = some x) (hne : x ≠ 255) : blankB l = false := by
  unfold blankB
  rw [List.all_eq_false]
  exact ⟨x, List.mem_of_getElem? hx, by rw [beq_eq_false_iff_ne.2 hne]; decide⟩

set_option maxHeartbeats 1000000 in
theorem notFF_any (c : Nat) (w : World) : Gives 235 #[bv c] w (.bool (!((c : Int) == 255))) := by
  go_enter Tryz.func235, Tryz.ntmps235
  go_wp2_with fail
  go_ret
  exact ⟨rfl, rfl⟩
theorem entersFF : Enters 235 := fun _ _ => by kernel_rfl

set_option maxHeartbeats 1000000 in
set_option maxRecDepth 100000 in
theorem indexFF_any (A : Option Addr) (n cap : Nat) (l : List Nat) (w : World) (h : Byt w (.slice A n cap) l) :
    Gives 273 #[.slice A n cap, .func (.func 235) #[] #[]] w (i64 (ffAt l)) := by
  have hn := h.len
  rw [List.length_map] at hn
  subst hn
  have hm := h.max
  rw [List.length_map] at hm
  unfold maxLen at hm
  have HF := Lib.hid entersFF
  have hf := entersFF
  have hnone := Lib.hid (@ffAt_none l)
  have hsome := fun k x hx => Lib.hid (@ffAt_some l k x hx)
  have htake := fun k hx => Lib.hid (@blankB_take l k hx)
  go_enter Tryz.func273, Tryz.ntmps273
  go_wp2_with fail
  go_loopw [8] (fun i wr => ∃ k : Nat, k ≤ l.length ∧ i = .int .i64 k ∧ Hid (blankB (l.take k) = true) ∧ wr = w) (fun i _ => l.length - (intOf i).toNat)
  case atStart => exact ⟨0, Nat.zero_le _, rfl, Lib.hid rfl, rfl⟩
  case round =>
    obtain ⟨k, hk, rfl, ha, rfl⟩ := hrel
    by_cases hlt : k < l.length
    · obtain ⟨b, off, rfl, hbs, hc⟩ := Byt.cell h (by omega)
      obtain ⟨x, hx0⟩ : ∃ x, l[k]? = some x := ⟨_, List.getElem?_eq_getElem hlt⟩
      have c0 := hc k (bv x) (by rw [List.getElem?_map, hx0]; rfl)
      rw [Addr.add_lit] at c0
      have hp := fun W => notFF_any x W
      by_cases hff : x = 255
      · subst hff
        have HT := htake k hx0
        rw [show (!(((255 : Nat) : Int) == 255)) = false from rfl] at hp
        have HP := fun W => Lib.hid (hp W)
        clear hc hp hx0
        go_wp2_with fail
        refine (HP _).out.mono ?_; rintro e w1 ⟨rfl, rfl⟩
        go_wp2_with fail
        exact ⟨⟨k + 1, by omega, by go_num, Lib.hid (HT.out ha.out), trivial⟩, by simp [intOf]; omega⟩
      · have HS := hsome k x hx0
        have HX := Lib.hid hff
        rw [show (!((x : Int) == 255)) = true from by rw [beq_eq_false_iff_ne.2 (by omega)]; rfl] at hp
        have HP := fun W => Lib.hid (hp W)
        clear hc hp hx0
        go_wp2_with fail
        refine (HP _).out.mono ?_; rintro e w1 ⟨rfl, rfl⟩
        go_wp2_with fail
        go_ret
        exact ⟨ret_int0 (HS.out ha.out HX.out).symm, rfl⟩
    · have hke : k = l.length := by omega
      subst hke
      go_wp2_with fail
      go_ret
      exact ⟨ret_int0 (hnone.out (by have := ha.out; rwa [List.take_length] at this)).symm, rfl⟩

set_option maxHeartbeats 1000000 in
set_option maxRecDepth 100000 in
theorem containsFF_any (A : Option Addr) (n cap : Nat) (l : List Nat) (w : World) (h : Byt w (.slice A n cap) l) :
    Gives 234 #[.slice A n cap, .func (.func 235) #[] #[]] w (.bool (!blankB l)) := by
  have G := fun W (hW : W = w) => Lib.hid (indexFF_any A n cap l W (by rw [hW]; exact h))
  have hv : (decide (0 ≤ ffAt l)) = !blankB l := by
    cases hb : blankB l with
    | true => rw [ffAt_none hb]; rfl
    | false =>
      unfold ffAt
      cases hi : l.findIdx? (fun x => !(x == 255)) with
      | some i => simp
      | none =>
        rw [List.findIdx?_eq_none_iff] at hi
        exfalso
        have : blankB l = true := by
          unfold blankB
          rw [List.all_eq_true]
          intro x hx
          have := hi x hx
          revert this
          cases (x == 255) <;> simp
        rw [hb] at this; cases this
  rw [← hv]
  clear hv
  go_enter Tryz.func234, Tryz.ntmps234
  go_wp2_with fail
  refine (G _ rfl).out.mono ?_; rintro e w1 ⟨rfl, rfl⟩
  go_wp2_with fail
  go_ret
  exact ⟨rfl, rfl⟩
end Go.Proofs.YthiimpleljaimaaGreatDoor

/- head.Of. -/
namespace Go.Proofs.YthiimpleljaimaaGreatDoor
open Go.RowKit

theorem eight {α : Type} {l : List α} (h : l.length = 8) : ∃ a b c d e f g i, l = [a, b, c, d, e, f, g, i] := by
  match l, h with
  | [a, b, c, d, e, f, g, i], _ => exact ⟨a, b, c, d, e, f, g, i, rfl⟩
theorem sumB_lt32 (l : List Nat) : sumB l < 2 ^ 32 := by
  have h := adler_lt (1, 0) l
  unfold sumB sumNum
  omega
abbrev arr8 (a b c d e f g i : Nat) : Array Value := #[bv a, bv b, bv c, bv d, bv e, bv f, bv g, bv i]
/-- A literal's bytes, marked. -/
theorem conv_mark (w : World) (C : Array Value) (n c : Nat) :
    (convert 22 22 (.slice (some ⟨w.heap.size, 0, none⟩) n c)).run Tryz.prog (w.alloc (.cells C 5)).drew = .ok (.slice (some ⟨w.heap.size, 0, none⟩) n c) (w.alloc (.cells C 5 (C.size, C.size + 1))).drew :=
  Lib.run_convert_bytes_const w.drew _ _ C n c Tryz.underlying22 Tryz.underlying5
theorem Byt.blk {w : World} {g : Nat} {l : List Nat} {t : TypeId} {fr : Nat × Nat} (h : w.heap[g]? = some (.cells (l.map bv).toArray t fr)) (hm : l.length ≤ maxLen) : Byt w (.slice (some ⟨g, 0, none⟩) l.length l.length) l := by
  refine ⟨some ⟨g, 0, none⟩, l.length, by rw [List.length_map], by rw [List.length_map]; exact Nat.le_refl _, hm, (fun h => by cases h), fun _ => ⟨g, 0, rfl, (Array.getElem?_eq_some_iff.1 h).1, ?_⟩⟩
  intro i x hi
  rw [List.getElem?_map] at hi
  obtain ⟨y, hy, rfl⟩ := Option.map_eq_some_iff.1 hi
  refine ⟨rfl, fun j u hj => ?_⟩
  cases j with
  | succ j => cases hj
  | zero =>
    have hu : u = bv y := by simpa using hj.symm
    subst hu
    rw [cell_of_row w g _ _ t fr h, show 0 + i * 1 + 0 = i by omega]
    simp [hy]

set_option maxHeartbeats 2000000 in
set_option maxRecDepth 100000 in
theorem headOf_no (s z : Int) (w : World) (h : geoB s z = false) : Makes 233 #[geo s z] w (.agg (arr8 0 0 0 0 0 0 0 0)) := by
  have G0 := fun W => placeMay_any s z W
  rw [h] at G0
  have HG0 := fun W => Lib.hid (G0 W)
  clear h G0
  go_enter Tryz.func233, Tryz.ntmps233
  go_wp2_with fail
  refine (HG0 _).out.mono ?_; rintro e x1 ⟨rfl, hb1⟩
  obtain ⟨q1, qf1⟩ := rd hb1
  have hs1 : w.heap.size + 1 + 1 < x1.heap.size := by have := hb1.size; simp at this; omega
  have hB1 := Base.tr (Base.al (Base.al (Base.al (Below.refl _ w) _) _) _) hb1
  have kr := blk_below (blk_old (blk_new1 w _ _)) hb1
  have ko := blk_below (blk_new2 w _ _ _) hb1
  generalize x1 = y1 at *
  clear q1 qf1 hb1
  have fr := fun o => frozen_blk kr o
  have r0 := cell_blk kr 0
  have r1 := cell_blk kr 1
  have r2 := cell_blk kr 2
  have r3 := cell_blk kr 3
  have r4 := cell_blk kr 4
  have r5 := cell_blk kr 5
  have r6 := cell_blk kr 6
  have r7 := cell_blk kr 7
  have o0 := cell_blk ko 0
  have o1 := cell_blk ko 1
  have o2 := cell_blk ko 2
  have o3 := cell_blk ko 3
  have o4 := cell_blk ko 4
  have o5 := cell_blk ko 5
  have o6 := cell_blk ko 6
  have o7 := cell_blk ko 7
  go_wp2_with fail
  change bodyPost _ _ _ _ _ (sets y1 (w.heap.size + 1) 0 [Value.int .u8 0, Value.int .u8 0, Value.int .u8 0, Value.int .u8 0, Value.int .u8 0, Value.int .u8 0, Value.int .u8 0, Value.int .u8 0])
  have e8 := sets_at kr [Value.int .u8 0, Value.int .u8 0, Value.int .u8 0, Value.int .u8 0, Value.int .u8 0, Value.int .u8 0, Value.int .u8 0, Value.int .u8 0] rfl
  have b8 := sets_below (a := w) (Nat.le_succ _) [Value.int .u8 0, Value.int .u8 0, Value.int .u8 0, Value.int .u8 0, Value.int .u8 0, Value.int .u8 0, Value.int .u8 0, Value.int .u8 0] y1 0 hB1
  generalize sets y1 (w.heap.size + 1) 0 [Value.int .u8 0, Value.int .u8 0, Value.int .u8 0, Value.int .u8 0, Value.int .u8 0, Value.int .u8 0, Value.int .u8 0, Value.int .u8 0] = y2 at *
  have c0 := cell_blk e8 0
  have c1 := cell_blk e8 1
  have c2 := cell_blk e8 2
  have c3 := cell_blk e8 3
  have c4 := cell_blk e8 4
  have c5 := cell_blk e8 5
  have c6 := cell_blk e8 6
  have c7 := cell_blk e8 7
  exact bodyPost_ret (v := .agg (arr8 0 0 0 0 0 0 0 0)) (by simp [results, Tryz.results233, go_sem, c0, c1, c2, c3, c4, c5, c6, c7]) rfl ⟨rfl, b8⟩

set_option maxHeartbeats 4000000 in
set_option maxRecDepth 100000 in
theorem headOf_any (s z : Nat) (w : World) (h : geoB s z = true) (a b c d e f g i : Nat) (hh : headOf s z = [a, b, c, d, e, f, g, i]) : Makes 233 #[geo s z] w (.agg (arr8 a b c d e f g i)) := by
  obtain ⟨h1, h2, h3, h4⟩ := geoB_yes h
  have G0 := fun W => placeMay_any s z W
  rw [h] at G0
  have HG0 := fun W => Lib.hid (G0 W)
  have kw1 : IntKind.u64.wrap (s : Int) = (s : Int) := by rw [IntKind.wrap_u64]; omega
  have kw2 : IntKind.u64.wrap (z : Int) = (z : Int) := by rw [IntKind.wrap_u64]; omega
  have P1 : ∀ (W : World) (g : Nat), Byt W (.slice (some ⟨g, 0, none⟩) 4 4) mark → Own1 157 #[.slice (some ⟨g, 0, none⟩) 4 4, i64 2, .int .u64 s] W (mark ++ be 2 s) :=
    fun W g hg => put_any _ 4 4 mark 2 s W hg (by decide) (by decide) (by decide)
  have P2 : ∀ (W : World) (g : Nat), W.heap[g]? = some (.cells ((mark ++ be 2 s).map bv).toArray 5 (0, 0)) → Own1 157 #[.slice (some ⟨g, 0, none⟩) 6 6, i64 2, .int .u64 z] W (mark ++ be 2 s ++ be 2 z) := by
    intro W g hg
    refine put_any _ 6 6 (mark ++ be 2 s) 2 z W ?_ (by decide) (by decide) (by simp [be_len, mark])
    have := Byt.fresh hg (by simp [be_len, mark])
    rwa [show (mark ++ be 2 s).length = 6 by simp [be_len, mark]] at this
  have B8 : ∀ (W : World) (g : Nat), W.heap[g]? = some (.cells ((mark ++ be 2 s ++ be 2 z).map bv).toArray 5 (0, 0)) → Byt W (.slice (some ⟨g, 0, none⟩) 8 8) (mark ++ be 2 s ++ be 2 z) := by
    intro W g hg
    have := Byt.fresh hg (by simp [be_len, mark])
    rwa [show (mark ++ be 2 s ++ be 2 z).length = 8 by simp [be_len, mark]] at this
  have hlt8 : ∀ b ∈ mark ++ be 2 s ++ be 2 z, b < 256 := by
    intro b hb
    rcases List.mem_append.1 hb with hb | hb
    · rcases List.mem_append.1 hb with hb | hb
      · unfold mark at hb; simp at hb; omega
      · exact be_lt _ _ _ hb
    · exact be_lt _ _ _ hb
  have S8 : ∀ (W : World) (g : Nat), W.heap[g]? = some (.cells ((mark ++ be 2 s ++ be 2 z).map bv).toArray 5 (0, 0)) → Gives 79 #[.slice (some ⟨g, 0, none⟩) 8 8] W (.int .u32 (sumB (mark ++ be 2 s ++ be 2 z))) :=
    fun W g hg => sumSum_any _ _ _ _ _ (B8 W g hg) hlt8 (by simp [be_len, mark])
  have hsum : sumB (mark ++ be 2 s ++ be 2 z) < 2 ^ 32 := sumB_lt32 _
  have kw3 : IntKind.u64.wrap (sumB (mark ++ be 2 s ++ be 2 z) : Int) = (sumB (mark ++ be 2 s ++ be 2 z) : Int) := by rw [IntKind.wrap_u64]; omega
  have P3 : ∀ (W : World) (g : Nat), W.heap[g]? = some (.cells ((mark ++ be 2 s ++ be 2 z).map bv).toArray 5 (0, 0)) → Own1 157 #[.slice (some ⟨g, 0, none⟩) 4 8, i64 4, .int .u64 (sumB (mark ++ be 2 s ++ be 2 z))] W (headOf s z) := by
    intro W g hg
    refine put_any _ 4 8 mark 4 _ W ?_ (by decide) (by decide) (by decide)
    have := Byt.piece (B8 W g hg) 0 4 8 (by simp [be_len, mark]) (by decide) (by decide)
    exact this
  unfold Own1 at P1 P2 P3
  rw [show (mark ++ be 2 s).length = 6 by simp [be_len, mark]] at P1
  rw [show (mark ++ be 2 s ++ be 2 z).length = 8 by simp [be_len, mark]] at P2
  rw [headOf_len, hh] at P3
  generalize sumB (mark ++ be 2 s ++ be 2 z) = sm at *
  generalize mark ++ be 2 s ++ be 2 z = l8 at *
  generalize mark ++ be 2 s = l6 at *
  have HP1 := fun W g hg => Lib.hid (P1 W g hg)
  have HP2 := fun W g hg => Lib.hid (P2 W g hg)
  have HP3 := fun W g hg => Lib.hid (P3 W g hg)
  have HS8 := fun W g hg => Lib.hid (S8 W g hg)
  clear P1 P2 P3 S8 B8 hlt8 h G0 hh
  go_enter Tryz.func233, Tryz.ntmps233
  go_wp2_with fail
  refine (HG0 _).out.mono ?_; rintro e1 x1 ⟨rfl, hb1⟩
  obtain ⟨q1, qf1⟩ := rd hb1
  have hs1 : w.heap.size + 1 + 1 < x1.heap.size := by have := hb1.size; simp at this; omega
  have hB1 := Base.tr (Base.al (Base.al (Base.al (Below.refl _ w) _) _) _) hb1
  have kg := blk_below (blk_old (blk_old (blk_new w _))) hb1
  have kr := blk_below (blk_old (blk_new1 w _ _)) hb1
  have ko := blk_below (blk_new2 w _ _ _) hb1
  clear hb1 q1 qf1
  have c0 : x1.cell? ⟨w.heap.size, 0, none⟩ = some (i64 s) := cell_blk kg 0
  have c1 : x1.cell? ⟨w.heap.size, 1, none⟩ = some (i64 z) := cell_blk kg 1
  go_wp2_with fail
  have k0 := fun p : OnOf x1 => on_cell (by show w.heap.size < _; omega) c0 p
  have k1 := fun p : OnOf x1 => on_cell (by show w.heap.size < _; omega) c1 p
  refine wp_region_po (fun w' => ∃ p : OnOf x1, w' = p.v) 11 [0, 1, 5, 9] (by kernel_rfl) (by kernel_rfl) ⟨⟨_, Base.dr (Below.refl _ _)⟩, rfl⟩ ?_
  simp only [List.take_succ_cons, List.take_zero, List.drop_succ_cons, List.drop_zero]
  have on0 := @on_rd0; have on1 := @on_rd1; have on2 := @on_rd2; have on3 := @on_new1; have on4 := @on_new2; have on5 := @gr_rd0
  refine seq_eff (by rfl) (by first | rfl | go_simp) ?_
  intro K hK
  unfold effAt2
  go_simp
  refine ⟨⟨⟨_, Base.dr (Base.al (Below.refl _ _) _)⟩, rfl⟩, hK _ _ ?_⟩
  clear hK K
  have hcv := conv_mark x1 #[.int .u8 84, .int .u8 120, .int .u8 78, .int .u8 82] 4 4
  refine seq_eff (by rfl) (by first | rfl | go_simp) ?_
  intro K hK
  unfold effAt2
  go_simp
  refine ⟨⟨⟨_, Base.dr (Base.al (Below.refl _ _) _)⟩, rfl⟩, hK _ _ ?_⟩
  clear hK K hcv
  have hy2 : Byt ((x1.alloc (.cells #[.int .u8 84, .int .u8 120, .int .u8 78, .int .u8 82] 5 (4, 4 + 1))).drew) (.slice (some ⟨x1.heap.size, 0, none⟩) 4 4) mark := Byt.blk (l := mark) (blk_new x1 _) (by decide)
  have hB2 : Below x1.heap.size x1 ((x1.alloc (.cells #[.int .u8 84, .int .u8 120, .int .u8 78, .int .u8 82] 5 (4, 4 + 1))).drew) := Base.dr (Base.al (Below.refl _ _) _)
  generalize ((x1.alloc (.cells #[.int .u8 84, .int .u8 120, .int .u8 78, .int .u8 82] 5 (4, 4 + 1))).drew) = x2 at *
  repeat ((with_reducible refine seq_read ?_ ?_); (focus rfl); (intro K hK); (unfold readsAt); go_simp; first | ((with_reducible refine hK _ ?_); clear hK K) | (rw [if_neg (by intro h; cases h)]; (with_reducible refine hK _ ?_); clear hK K))
  refine seq_eff (by rfl) (by first | rfl | go_simp) ?_
  intro K hK
  unfold effAt2
  go_simp
  refine ⟨rfl, (HP1 _ _ hy2).out.mono ?_⟩; rintro e3 x3 ⟨rfl, hx3⟩
  have hB3 : Below x1.heap.size x1 x3 := hx3 ▸ Base.al hB2 _
  have hy3 : x3.heap[x2.heap.size]? = some (.cells (l6.map bv).toArray 5 (0, 0)) := hx3 ▸ blk_new x2 _
  clear hx3
  refine ⟨_, rfl, ⟨⟨_, hB3⟩, rfl⟩, hK _ _ ?_⟩
  clear hK K
  repeat ((with_reducible refine seq_read ?_ ?_); (focus rfl); (intro K hK); (unfold readsAt); go_simp; first | ((with_reducible refine hK _ ?_); clear hK K) | (rw [if_neg (by intro h; cases h)]; (with_reducible refine hK _ ?_); clear hK K))
  refine seq_eff (by rfl) (by first | rfl | go_simp) ?_
  intro K hK
  unfold effAt2
  go_simp
  refine ⟨rfl, (HP2 _ _ hy3).out.mono ?_⟩; rintro e4 x4 ⟨rfl, hx4⟩
  have hB4 : Below x1.heap.size x1 x4 := hx4 ▸ Base.al hB3 _
  have hy4 : x4.heap[x3.heap.size]? = some (.cells (l8.map bv).toArray 5 (0, 0)) := hx4 ▸ blk_new x3 _
  have hs4 : x1.heap.size ≤ x3.heap.size := hB3.size
  clear hx4
  refine ⟨_, rfl, ⟨⟨_, hB4⟩, rfl⟩, hK _ _ ?_⟩
  clear hK K
  repeat ((with_reducible refine seq_read ?_ ?_); (focus rfl); (intro K hK); (unfold readsAt); go_simp; first | ((with_reducible refine hK _ ?_); clear hK K) | (rw [if_neg (by intro h; cases h)]; (with_reducible refine hK _ ?_); clear hK K))
  clear on0 on1 on2 on3 on4 on5
  with_reducible refine seq_nil ?_
  have ko4 := blk_below ko hB4
  have kr4 := blk_below kr hB4
  have hb4 := Base.tr hB1 hB4
  clear ko kr kg c0 c1 k0 k1 hy2 hB2 hB3 hy3 hB4 hB1
  go_wp2_with fail
  refine wp_region_po (fun w' => ∃ p : GrOf x4 (some (w.heap.size + 1 + 1)), w' = p.v) 8 [4, 6, 7] (by kernel_rfl) (by kernel_rfl) ⟨⟨_, grown_dr (grown_same _ _)⟩, rfl⟩ ?_
  simp only [List.take_succ_cons, List.take_zero, List.drop_succ_cons, List.drop_zero]
  have on0 := @on_rd0; have on1 := @on_rd1; have on2 := @on_rd2; have on3 := @on_new1; have on4 := @on_new2; have on5 := @gr_rd0
  repeat ((with_reducible refine seq_read ?_ ?_); (focus rfl); (intro K hK); (unfold readsAt); go_simp; first | ((with_reducible refine hK _ ?_); clear hK K) | (rw [if_neg (by intro h; cases h)]; (with_reducible refine hK _ ?_); clear hK K))
  refine seq_eff (by rfl) (by first | rfl | go_simp) ?_
  intro K hK
  unfold effAt2
  go_simp
  refine ⟨rfl, (HS8 x4.drew _ hy4).out.mono ?_⟩; rintro e5 x5 ⟨rfl, rfl⟩
  refine ⟨_, rfl, ⟨⟨_, grown_dr (grown_same _ _)⟩, rfl⟩, hK _ _ ?_⟩
  clear hK K
  repeat ((with_reducible refine seq_read ?_ ?_); (focus rfl); (intro K hK); (unfold readsAt); go_simp; first | ((with_reducible refine hK _ ?_); clear hK K) | (rw [if_neg (by intro h; cases h)]; (with_reducible refine hK _ ?_); clear hK K))
  refine seq_eff (by rfl) (by first | rfl | go_simp) ?_
  intro K hK
  unfold effAt2
  go_simp
  refine ⟨rfl, (HP3 x4.drew _ hy4).out.mono ?_⟩; rintro e6 x6 ⟨rfl, hx6⟩
  have hg6 : x4.grownBy x6 (some (w.heap.size + 1 + 1)) := hx6 ▸ grown_al (grown_dr (grown_same _ _)) _
  have hy6 : x6.heap[x4.heap.size]? = some (.cells ([a, b, c, d, e, f, g, i].map bv).toArray 5 (0, 0)) := hx6 ▸ blk_new x4 _
  have ko6 := blk_old (w := x4.drew) (x := .cells ([a, b, c, d, e, f, g, i].map bv).toArray 5) ko4
  have kr6 := blk_old (w := x4.drew) (x := .cells ([a, b, c, d, e, f, g, i].map bv).toArray 5) kr4
  rw [← hx6] at ko6 kr6
  have hb6 : Below w.heap.size w x6 := hx6 ▸ Base.al (Base.dr hb4) _
  clear hx6
  refine ⟨.slice (some ⟨x4.heap.size, 0, none⟩) 8 8, rfl, ⟨⟨_, hg6⟩, rfl⟩, hK _ _ ?_⟩
  clear hK K
  have hcp := run_copy_row (P := Tryz.prog) x6 22 22 3 5 (w.heap.size + 1 + 1) 0 8 8 ⟨x4.heap.size, 0, none⟩ 8 8 _ _ ([a, b, c, d, e, f, g, i].map bv) Tryz.underlying22 (by kernel_rfl) ko6 rfl (fun j v hj => by rw [Addr.add_lit, cell_blk hy6]; simpa using hj) (by simp) (by intro v hv; obtain ⟨x, _, rfl⟩ := List.mem_map.1 hv; rfl)
  refine seq_eff (by rfl) (by first | rfl | go_simp) ?_
  intro K hK
  unfold effAt2
  go_simp
  refine ⟨⟨⟨_, grown_setRow hg6 _⟩, rfl⟩, hK _ _ ?_⟩
  clear hK K hcp
  clear on0 on1 on2 on3 on4 on5
  with_reducible refine seq_nil ?_
  have ko7 : (x6.setRow (w.heap.size + 1 + 1) #[bv a, bv b, bv c, bv d, bv e, bv f, bv g, bv i]).heap[w.heap.size + 1 + 1]? = some (.cells #[bv a, bv b, bv c, bv d, bv e, bv f, bv g, bv i] 325 (0, 0)) := setRow_heap x6 _ _ _ _ _ ko6
  have kr7 := (setRow_other x6 (w.heap.size + 1 + 1) (w.heap.size + 1) #[bv a, bv b, bv c, bv d, bv e, bv f, bv g, bv i] (by omega)).trans kr6
  have hb7 : Below w.heap.size w (x6.setRow (w.heap.size + 1 + 1) #[bv a, bv b, bv c, bv d, bv e, bv f, bv g, bv i]) := Base.gr hb6 (grown_setRow (grown_same x6 (some (w.heap.size + 1 + 1))) _) (fun k hk => by injection hk with hk; omega)
  generalize x6.setRow (w.heap.size + 1 + 1) #[bv a, bv b, bv c, bv d, bv e, bv f, bv g, bv i] = x7 at *
  clear ko6 kr6 hb6 hg6 hy6 ko4 kr4 hb4 hy4 hs4
  have fr := fun o => frozen_blk kr7 o
  have r0 := cell_blk kr7 0
  have o0 := cell_blk ko7 0
  have r1 := cell_blk kr7 1
  have o1 := cell_blk ko7 1
  have r2 := cell_blk kr7 2
  have o2 := cell_blk ko7 2
  have r3 := cell_blk kr7 3
  have o3 := cell_blk ko7 3
  have r4 := cell_blk kr7 4
  have o4 := cell_blk ko7 4
  have r5 := cell_blk kr7 5
  have o5 := cell_blk ko7 5
  have r6 := cell_blk kr7 6
  have o6 := cell_blk ko7 6
  have r7 := cell_blk kr7 7
  have o7 := cell_blk ko7 7
  go_wp2_with fail
  change bodyPost _ _ _ _ _ (sets x7 (w.heap.size + 1) 0 [bv a, bv b, bv c, bv d, bv e, bv f, bv g, bv i])
  have e8 := sets_at kr7 [bv a, bv b, bv c, bv d, bv e, bv f, bv g, bv i] rfl
  have b8 := sets_below (a := w) (Nat.le_succ _) [bv a, bv b, bv c, bv d, bv e, bv f, bv g, bv i] x7 0 hb7
  generalize sets x7 (w.heap.size + 1) 0 [bv a, bv b, bv c, bv d, bv e, bv f, bv g, bv i] = y2 at *
  have c0 := cell_blk e8 0
  have c1 := cell_blk e8 1
  have c2 := cell_blk e8 2
  have c3 := cell_blk e8 3
  have c4 := cell_blk e8 4
  have c5 := cell_blk e8 5
  have c6 := cell_blk e8 6
  have c7 := cell_blk e8 7
  exact bodyPost_ret (v := .agg (arr8 a b c d e f g i)) (by simp [results, Tryz.results233, go_sem, c0, c1, c2, c3, c4, c5, c6, c7]) rfl ⟨rfl, b8⟩
end Go.Proofs.YthiimpleljaimaaGreatDoor

