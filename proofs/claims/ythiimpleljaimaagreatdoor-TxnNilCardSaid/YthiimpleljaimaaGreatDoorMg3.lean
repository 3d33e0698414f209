/- Stores into a block of an old world, cell by cell. -/
import Derived.Test.YthiimpleljaimaaGreatDoorMg2
import Derived.Test.YthiimpleljaimaaGreatDoorMg1
import Derived.Test.YthiimpleljaimaaGreatDoorPh
import Derived.Test.YthiimpleljaimaaGreatDoorMg5
import Derived.Test.YthiimpleljaimaaGreatDoorMap
import Derived.Test.YthiimpleljaimaaGreatDoorMg9
import Derived.Test.YthiimpleljaimaaGreatDoorRingGet
import Derived.Test.YthiimpleljaimaaGreatDoorMg13
import Derived.Test.YthiimpleljaimaaGreatDoorMg4
import Derived.Test.YthiimpleljaimaaGreatDoorRingC
import Derived.ScopeJumps
namespace Go.Proofs.YthiimpleljaimaaGreatDoor
open Go Go.RowKit

theorem blk_set {w : World} {g : Nat} {x : Obj} (hx : w.heap[g]? = some x) {k : Nat} (o : Nat) (v : Value) (hn : g ≠ k) : (w.setCell ⟨k, o, none⟩ v).heap[g]? = some x := by
  rw [Below.heap_setCell _ _ _ _ hn]; exact hx
theorem Base.st {a w : World} (h : Below a.heap.size a w) {g : Nat} (hg : a.heap.size ≤ g) (o : Nat) (v : Value) : Below a.heap.size a (w.setCell ⟨g, o, none⟩ v) :=
  h.trans ⟨rfl, rfl, rfl, by simp [World.setCell], fun k hk => Below.heap_setCell _ _ _ _ (by show k ≠ g; omega)⟩
/-- The cells of a block written, one behind the other. -/
def sets (W : World) (g : Nat) : Nat → List Value → World
  | _, [] => W
  | k, v :: vs => sets (W.setCell ⟨g, k, none⟩ v) g (k + 1) vs
theorem sets_from {g : Nat} {t : TypeId} : ∀ (vs : List Value) (W : World) (k : Nat) (pre old : List Value), W.heap[g]? = some (.cells (pre ++ old).toArray t (0, 0)) → pre.length = k → old.length = vs.length → (sets W g k vs).heap[g]? = some (.cells (pre ++ vs).toArray t (0, 0))
  | [], _, _, pre, old, h, _, h2 => by
    have : old = [] := List.eq_nil_of_length_eq_zero h2
    subst this
    exact h
  | _ :: _, _, _, _, [], _, _, h2 => by cases h2
  | v :: vs, W, k, pre, o :: old, h, h1, h2 => by
    have h3 := heap_setCell h k v
    have h4 : (pre ++ o :: old).toArray.setIfInBounds k v = ((pre ++ [v]) ++ old).toArray := by
      apply Array.ext'
      simp only [Array.toList_setIfInBounds]
      rw [List.set_append_right _ _ (by omega), h1, Nat.sub_self]
      simp
    rw [h4] at h3
    have h5 := sets_from vs (W.setCell ⟨g, k, none⟩ v) (k + 1) (pre ++ [v]) old h3 (by simp [h1]) (by simpa using h2)
    rw [List.append_assoc] at h5
    exact h5
theorem sets_at {W : World} {g : Nat} {t : TypeId} {cur : Array Value} (h : W.heap[g]? = some (.cells cur t (0, 0))) (vs : List Value) (hl : cur.size = vs.length) : (sets W g 0 vs).heap[g]? = some (.cells vs.toArray t (0, 0)) :=
  sets_from vs W 0 [] cur.toList (by simpa using h) rfl (by simpa using hl)
theorem sets_below {a : World} {g : Nat} (hg : a.heap.size ≤ g) : ∀ (vs : List Value) (W : World) (k : Nat), Below a.heap.size a W → Below a.heap.size a (sets W g k vs)
  | [], _, _, h => h
  | v :: vs, _, k, h => sets_below hg vs _ _ (Base.st h hg k v)
theorem sets_old {g k : Nat} {o : Obj} (hn : k ≠ g) : ∀ (vs : List Value) (W : World) (j : Nat), W.heap[k]? = some o → (sets W g j vs).heap[k]? = some o
  | [], _, _, h => h
  | v :: vs, _, j, h => sets_old hn vs _ _ (blk_set h j v hn)
end Go.Proofs.YthiimpleljaimaaGreatDoor

/- place.May and place.Within, and the reference's: may a geometry be; are bytes in it? -/
namespace Go.Proofs.YthiimpleljaimaaGreatDoor
open Go.RowKit Flo

/-- May a geometry be? -/
def geoB (s z : Int) : Bool := decide (6 ≤ s) && decide (s ≤ 64) && decide (512 ≤ z) && decide (z ≤ 4096)
abbrev geo (s z : Int) : Value := .agg #[i64 s, i64 z]
theorem geoB_yes {s z : Int} (h : geoB s z = true) : 6 ≤ s ∧ s ≤ 64 ∧ 512 ≤ z ∧ z ≤ 4096 := by
  unfold geoB at h
  simp at h
  omega

set_option maxHeartbeats 2000000 in
set_option maxRecDepth 100000 in
theorem placeMay_any (s z : Int) (w : World) : Makes 62 #[geo s z] w (.bool (geoB s z)) := by
  go_enter Tryz.func62, Tryz.ntmps62
  go_wp2_with fail
  all_goals
    go_ret
    exact ⟨retB (by simp [geoB]; omega), Base.al (Below.refl _ _) _⟩
/-- Are n bytes there? -/
noncomputable def withinB (s z : Int) (a b : Nat) (n : Int) : Bool :=
  match part? a, part? b with
  | some k, some o => decide ((k : Int) < s) && decide (0 ≤ n) && decide ((o : Int) ≤ z) && decide (n ≤ z - o)
  | _, _ => false
theorem within_yes {s z : Int} {a b k o : Nat} {n : Int} (ha : part? a = some k) (hb : part? b = some o) : withinB s z a b n = (decide ((k : Int) < s) && decide (0 ≤ n) && decide ((o : Int) ≤ z) && decide (n ≤ z - o)) := by
  unfold withinB; rw [ha, hb]
theorem within_no {s z : Int} {a b : Nat} {n : Int} (h : part? a = none ∨ part? b = none) : withinB s z a b n = false := by
  unfold withinB
  rcases h with h | h
  · rw [h]
  · rw [h]; cases part? a <;> rfl

set_option maxHeartbeats 4000000 in
set_option maxRecDepth 100000 in
theorem within_any (s z : Int) (a b : Nat) (n : Int) (w : World) (h0 : 0 ≤ z) (h1 : z ≤ 1000000) : Makes 168 #[geo s z, cx a b, i64 n] w (.bool (withinB s z a b n)) := by
  by_cases hr : rightB a b = true
  · obtain ⟨k, o, ha, hb⟩ := right_yes hr
    have g1 := fun W => Lib.hid (parts_yes W ha hb)
    have ho := part_le hb
    have hv := @within_yes s z a b k o n ha hb
    have HV := Lib.hid hv
    clear hv ha hb hr
    go_enter Tryz.func168, Tryz.ntmps168
    go_wp2_with fail
    refine (g1 _).out.mono ?_; rintro e x1 ⟨rfl, rfl⟩
    go_wp2_with fail
    all_goals
      go_ret
      exact ⟨retB (by rw [HV.out]; simp; omega), Base.al (Below.refl _ _) _⟩
  · have hn := right_no (Bool.eq_false_iff.2 hr)
    have g1 := fun W => Lib.hid (parts_no W hn)
    have hv := @within_no s z a b n hn
    have HV := Lib.hid hv
    clear hv hn hr
    go_enter Tryz.func168, Tryz.ntmps168
    go_wp2_with fail
    refine (g1 _).out.mono ?_; rintro e x1 ⟨rfl, rfl⟩
    go_wp2_with fail
    all_goals
      go_ret
      exact ⟨retB (by rw [HV.out]), Base.al (Below.refl _ _) _⟩

end Go.Proofs.YthiimpleljaimaaGreatDoor

/- A device of package nor: how it stands in memory; what its operations make of it. -/
namespace Go.Proofs.YthiimpleljaimaaGreatDoor
open Go.RowKit Flo

/-! ### A frame that names blocks -/
/-- Nothing has changed but in the blocks O, and new ones. -/
structure Out (O : Nat → Prop) (w w' : World) : Prop where
  os : w'.os = w.os
  tape : w'.tape = w.tape
  output : w'.output = w.output
  size : w.heap.size ≤ w'.heap.size
  block : ∀ k, k < w.heap.size → ¬ O k → w'.heap[k]? = w.heap[k]?
theorem Out.refl (O : Nat → Prop) (w : World) : Out O w w := ⟨rfl, rfl, rfl, Nat.le_refl _, fun _ _ _ => rfl⟩
theorem Out.trans {O : Nat → Prop} {w v u : World} (h : Out O w v) (g : Out O v u) : Out O w u :=
  ⟨g.os.trans h.os, g.tape.trans h.tape, g.output.trans h.output, Nat.le_trans h.size g.size, fun k hk hn => (g.block k (Nat.lt_of_lt_of_le hk h.size) hn).trans (h.block k hk hn)⟩
theorem Out.of_below {O : Nat → Prop} {w v : World} (h : Below w.heap.size w v) : Out O w v := ⟨h.os, h.tape, h.output, h.size, fun k hk _ => h.block k hk⟩
theorem Out.then {O : Nat → Prop} {w v u : World} (h : Out O w v) (g : Below v.heap.size v u) : Out O w u := h.trans (Out.of_below g)
theorem Out.set {O : Nat → Prop} {w v : World} (h : Out O w v) {g : Nat} (hg : O g) (o : Nat) (u : Value) : Out O w (v.setCell ⟨g, o, none⟩ u) :=
  h.trans ⟨rfl, rfl, rfl, by simp [World.setCell], fun k _ hn => Below.heap_setCell _ _ _ _ (fun e => hn (by rw [show k = g from e]; exact hg))⟩
theorem Out.grown {O : Nat → Prop} {w v u : World} (h : Out O w v) {r : Nat} (hr : O r) (g : v.grownBy u (some r)) : Out O w u :=
  h.trans ⟨g.os, g.tape, g.output, g.size, fun k hk hn => g.block k hk (fun e => hn (by injection e with e; rw [e]; exact hr))⟩
theorem Out.base {O : Nat → Prop} {w v : World} {B : Nat} (h : Out O w v) (hB : ∀ k, O k → B ≤ k) (hw : B ≤ w.heap.size) : Below B w v :=
  ⟨h.os, h.tape, h.output, h.size, fun k hk => h.block k (by omega) (fun ho => by have := hB k ho; omega)⟩
theorem Out.wide {O Q : Nat → Prop} {w v : World} (h : Out O w v) (hq : ∀ k, O k → Q k) : Out Q w v := ⟨h.os, h.tape, h.output, h.size, fun k hk hn => h.block k hk (fun ho => hn (hq k ho))⟩
/-- .. O may be wider by what is new. -/
theorem Out.new {O Q : Nat → Prop} {w v : World} (h : Out Q w v) (hq : ∀ k, Q k → O k ∨ w.heap.size ≤ k) : Out O w v :=
  ⟨h.os, h.tape, h.output, h.size, fun k hk hn => h.block k hk (fun ho => by rcases hq k ho with h1 | h1; exact hn h1; omega)⟩
theorem Out.blk {O : Nat → Prop} {w v : World} (h : Out O w v) {g : Nat} {o : Obj} (hg : w.heap[g]? = some o) (hn : ¬ O g) : v.heap[g]? = some o := by
  rw [h.block g (Array.getElem?_eq_some_iff.1 hg).1 hn]; exact hg

/-- A slice that lies in none of the blocks O. -/
def Far (O : Nat → Prop) (v : Value) : Prop := ∀ b off n c, v = .slice (some ⟨b, off, none⟩) n c → ¬ O b
theorem Sl.out {O : Nat → Prop} {w w' : World} {k : Nat} {v : Value} {xs : List (List Value)} (h : Sl w k v xs) (hf : Far O v) (hb : Out O w w') : Sl w' k v xs := by
  obtain ⟨A, cap, hv, hl, hm, hn, hc⟩ := h
  refine ⟨A, cap, hv, hl, hm, hn, fun h0 => ?_⟩
  obtain ⟨b, off, hA, hlt, hx⟩ := hc h0
  have hno : ¬ O b := hf b off xs.length cap (by rw [hv, hA])
  refine ⟨b, off, hA, Nat.lt_of_lt_of_le hlt hb.size, fun i x hi => ⟨(hx i x hi).1, fun j u hj => ?_⟩⟩
  have h1 := (hx i x hi).2 j u hj
  have h2 := hb.block b hlt hno
  unfold World.cell? at h1 ⊢
  simp only [] at h1 ⊢
  rw [h2]
  exact h1
theorem Far.nil (O : Nat → Prop) (n c : Nat) : Far O (.slice none n c) := fun _ _ _ _ h => by cases h

/-! ### The device -/
structure Nor where
  D : Nat
  DA : Nat
  WB : Nat
  MB : Nat
  CB : Nat
  bk : List Nat
  cd : Nat
  S : Nat
  Z : Nat
  data : List (List Nat)
  wear : List Nat
  bad : List (Int × Value)
  off : Bool
  offs : Nat
  acts : Nat
  cut : Option (Nat × Nat × Nat)
def Nor.cutv (N : Nor) : Value := .pointer (match N.cut with | none => none | some _ => some ⟨N.CB, 0, none⟩)
def Nor.cells (N : Nor) : Array Value := #[i64 N.S, i64 N.Z, .slice (some ⟨N.DA, 0, none⟩) N.S N.cd, .slice (some ⟨N.WB, 0, none⟩) N.S N.S, .map (some N.MB), .bool N.off, i64 N.offs, i64 N.acts, N.cutv]

/-- The device stands in memory, in the blocks O. -/
structure DevR (O : Nat → Prop) (w : World) (N : Nor) : Prop where
  lim : ∀ k, O k → k < w.heap.size
  hD : w.heap[N.D]? = some (Obj.cells N.cells 89 (0, 0))
  hA : ∃ arr : List Value, w.heap[N.DA]? = some (Obj.cells arr.toArray 22 (0, 0)) ∧ ∀ (i b : Nat), N.bk[i]? = some b → arr[i]? = some (Value.slice (some ⟨b, 0, none⟩) N.Z N.Z)
  hW : w.heap[N.WB]? = some (Obj.cells (N.wear.map fun n : Nat => i64 n).toArray 3 (0, 0))
  hM : MapR (Value.int .i64) w N.MB N.bad
  hR : ∀ (i : Nat) (l : List Nat), N.data[i]? = some l → ∃ (b : Nat) (junk : List Value), N.bk[i]? = some b ∧ w.heap[b]? = some (Obj.cells (l.map bv ++ junk).toArray 5 (0, 0))
  hC : ∀ c, N.cut = some c → w.heap[N.CB]? = some (Obj.cells #[i64 c.1, i64 c.2.1, .int .u8 c.2.2] 158 (0, 0))
  bkl : N.bk.length = N.S
  dl : N.data.length = N.S
  wl : N.wear.length = N.S
  row : ∀ l ∈ N.data, l.length = N.Z ∧ ∀ b ∈ l, b < 256
  geo : geoB N.S N.Z = true
  badt : ∀ p ∈ N.bad, p.2 = .bool true
  cdl : N.S ≤ N.cd
  mask : ∀ c, N.cut = some c → c.2.2 < 256
  ownD : O N.D
  ownA : O N.DA
  ownW : O N.WB
  ownM : O N.MB
  ownC : ∀ c, N.cut = some c → O N.CB
  ownR : ∀ b ∈ N.bk, O b
  apart : (N.D :: N.DA :: N.WB :: N.bk).Nodup
  apartC : ∀ c, N.cut = some c → N.CB ∉ N.D :: N.DA :: N.WB :: N.bk
theorem DevR.below {O : Nat → Prop} {w w' : World} {N : Nor} (h : DevR O w N) (hb : Below w.heap.size w w') : DevR O w' N where
  lim k hk := Nat.lt_of_lt_of_le (h.lim k hk) hb.size
  hD := blk_below h.hD hb
  hA := by obtain ⟨arr, h1, h2⟩ := h.hA; exact ⟨arr, blk_below h1 hb, h2⟩
  hW := blk_below h.hW hb
  hM := h.hM.below hb
  hR i l hl := by obtain ⟨b, j, h1, h2⟩ := h.hR i l hl; exact ⟨b, j, h1, blk_below h2 hb⟩
  hC c hc := blk_below (h.hC c hc) hb
  bkl := h.bkl
  dl := h.dl
  wl := h.wl
  row := h.row
  geo := h.geo
  badt := h.badt
  cdl := h.cdl
  mask := h.mask
  ownD := h.ownD
  ownA := h.ownA
  ownW := h.ownW
  ownM := h.ownM
  ownC := h.ownC
  ownR := h.ownR
  apart := h.apart
  apartC := h.apartC
theorem DevR.al {O : Nat → Prop} {w : World} {N : Nor} (h : DevR O w N) (o : Obj) : DevR O (w.alloc o) N := h.below (Base.al (Below.refl _ _) o)
theorem DevR.dr {O : Nat → Prop} {w : World} {N : Nor} (h : DevR O w N) : DevR O w.drew N := h.below (Base.dr (Below.refl _ _))

theorem mapR_set {w : World} {b g : Nat} {l : List (Int × Value)} (h : MapR (Value.int .i64) w b l) (o : Nat) (v : Value) (hn : b ≠ g) : MapR (Value.int .i64) (w.setCell ⟨g, o, none⟩ v) b l :=
  h.of_block (Below.heap_setCell _ _ _ _ hn)
theorem mapR_ne {w : World} {b g : Nat} {l : List (Int × Value)} {cs : Array Value} {t : TypeId} {f : Nat × Nat} (h : MapR (Value.int .i64) w b l) (hg : w.heap[g]? = some (.cells cs t f)) : b ≠ g := by
  rintro rfl
  obtain ⟨L, c, hb, _⟩ := h
  rw [hb] at hg
  cases hg

/-- A cell of the head written. -/
theorem DevR.setD {O : Nat → Prop} {w : World} {N N' : Nor} (h : DevR O w N) (i : Nat) (v : Value)
    (hs : N' = { N with off := N'.off, offs := N'.offs, acts := N'.acts, cut := N'.cut }) (hcut : N'.cut = none ∨ N'.cut = N.cut) (hc : N.cells.setIfInBounds i v = N'.cells) : DevR O (w.setCell ⟨N.D, i, none⟩ v) N' := by
  obtain ⟨hap1, hap2⟩ := List.nodup_cons.1 h.apart
  simp only [List.mem_cons, not_or] at hap1
  have hR := h.hR
  have hC := h.hC
  have hac := h.apartC
  obtain ⟨arr, ha1, ha2⟩ := h.hA
  have hset := heap_setCell h.hD i v
  rw [hc] at hset
  have hm := mapR_ne h.hM h.hD
  rw [hs]
  rw [hs] at hset hcut
  refine { lim := fun k hk => by simpa [World.setCell] using h.lim k hk, hD := hset, hA := ⟨arr, blk_set ha1 _ _ (Ne.symm hap1.1), ha2⟩, hW := blk_set h.hW _ _ (Ne.symm hap1.2.1), hM := mapR_set h.hM _ _ hm, hR := ?_, hC := ?_, bkl := h.bkl, dl := h.dl, wl := h.wl, row := h.row, geo := h.geo, badt := h.badt, cdl := h.cdl, mask := ?_, ownD := h.ownD, ownA := h.ownA, ownW := h.ownW, ownM := h.ownM, ownC := ?_, ownR := h.ownR, apart := h.apart, apartC := ?_ }
  · intro i l hl
    obtain ⟨b, j, h1, h2⟩ := hR i l hl
    exact ⟨b, j, h1, blk_set h2 _ _ (fun e => hap1.2.2 (by rw [← e]; exact List.mem_of_getElem? h1))⟩
  · intro c hc
    rcases hcut with h0 | h0
    · rw [h0] at hc; cases hc
    · rw [h0] at hc
      refine blk_set (hC c hc) _ _ (fun e => hac c hc (by rw [show N.CB = N.D from e]; exact List.mem_cons_self ..))
  · intro c hc
    rcases hcut with h0 | h0
    · rw [h0] at hc; cases hc
    · rw [h0] at hc; exact h.mask c hc
  · intro c hc
    rcases hcut with h0 | h0
    · rw [h0] at hc; cases hc
    · rw [h0] at hc; exact h.ownC c hc
  · intro c hc
    rcases hcut with h0 | h0
    · rw [h0] at hc; cases hc
    · rw [h0] at hc; exact hac c hc

/-- A byte of a sector written. -/
theorem DevR.setR {O : Nat → Prop} {w : World} {N : Nor} (h : DevR O w N) {s b : Nat} {l : List Nat} (hs : N.bk[s]? = some b) (hl : N.data[s]? = some l) (i x : Nat) (hi : i < N.Z) (hx : x < 256) :
    DevR O (w.setCell ⟨b, i, none⟩ (bv x)) { N with data := N.data.set s (l.set i x) } := by
  have hbm : b ∈ N.bk := List.mem_of_getElem? hs
  have hap := h.apart
  simp only [List.nodup_cons, List.mem_cons, not_or] at hap
  obtain ⟨⟨a1, a2, a3⟩, ⟨a4, a5⟩, a6, a7⟩ := hap
  have hac := h.apartC
  obtain ⟨arr, ha1, ha2⟩ := h.hA
  obtain ⟨b', junk, hb1, hb2⟩ := h.hR s l hl
  have hbb : b' = b := by rw [hs] at hb1; injection hb1 with e; exact e.symm
  subst hbb
  have hll : l.length = N.Z := (h.row l (List.mem_of_getElem? hl)).1
  have hm := mapR_ne h.hM hb2
  refine { lim := fun k hk => by simpa [World.setCell] using h.lim k hk, hD := blk_set h.hD _ _ (fun e => a3 (by rw [show N.D = b' from e]; exact hbm)), hA := ⟨arr, blk_set ha1 _ _ (fun e => a5 (by rw [show N.DA = b' from e]; exact hbm)), ha2⟩, hW := blk_set h.hW _ _ (fun e => a6 (by rw [show N.WB = b' from e]; exact hbm)), hM := mapR_set h.hM _ _ hm, hR := ?_, hC := ?_, bkl := h.bkl, dl := by simpa using h.dl, wl := h.wl, row := ?_, geo := h.geo, badt := h.badt, cdl := h.cdl, mask := h.mask, ownD := h.ownD, ownA := h.ownA, ownW := h.ownW, ownM := h.ownM, ownC := h.ownC, ownR := h.ownR, apart := h.apart, apartC := h.apartC }
  · intro k l' hk
    rw [List.getElem?_set] at hk
    by_cases he : s = k
    · subst he
      have hsl := (List.getElem?_eq_some_iff.1 hl).1
      rw [if_pos rfl, if_pos hsl] at hk
      injection hk with hk
      subst hk
      refine ⟨b', junk, hb1, ?_⟩
      have := heap_setCell hb2 i (bv x)
      rw [this]
      congr 2
      apply Array.ext'
      simp only [Array.toList_setIfInBounds]
      rw [List.set_append_left _ _ (by rw [List.length_map, hll]; exact hi), List.map_set]
    · rw [if_neg he] at hk
      obtain ⟨c, j, h1, h2⟩ := h.hR k l' hk
      refine ⟨c, j, h1, blk_set h2 _ _ (fun e => he ?_)⟩
      have hk1 := (List.getElem?_eq_some_iff.1 h1)
      have hs1 := (List.getElem?_eq_some_iff.1 hb1)
      have := List.getElem_inj a7 (i := s) (j := k) (h₀ := hs1.1) (h₁ := hk1.1)
      exact this.1 (by rw [hs1.2, hk1.2]; exact e.symm)
  · intro c hc
    exact blk_set (h.hC c hc) _ _ (fun e => hac c hc (by rw [show N.CB = b' from e]; exact List.mem_cons_of_mem _ (List.mem_cons_of_mem _ (List.mem_cons_of_mem _ hbm))))
  · intro l' hl'
    rcases List.mem_or_eq_of_mem_set hl' with h1 | h1
    · exact h.row l' h1
    · subst h1
      refine ⟨by rw [List.length_set]; exact hll, fun b hb => ?_⟩
      rcases List.mem_or_eq_of_mem_set hb with h2 | h2
      · exact (h.row l (List.mem_of_getElem? hl)).2 b h2
      · rw [h2]; exact hx

/-- The cut's count written. -/
theorem DevR.setC {O : Nat → Prop} {w : World} {N : Nor} (h : DevR O w N) {a b m : Nat} (hc : N.cut = some (a, b, m)) (a' : Nat) :
    DevR O (w.setCell ⟨N.CB, 0, none⟩ (i64 a')) { N with cut := some (a', b, m) } := by
  have hac := h.apartC _ hc
  simp only [List.mem_cons, not_or] at hac
  obtain ⟨a1, a2, a3, a4⟩ := hac
  obtain ⟨arr, ha1, ha2⟩ := h.hA
  have hCC := h.hC _ hc
  have hm := mapR_ne h.hM hCC
  refine { lim := fun k hk => by simpa [World.setCell] using h.lim k hk, hD := ?_, hA := ⟨arr, blk_set ha1 _ _ (Ne.symm a2), ha2⟩, hW := blk_set h.hW _ _ (Ne.symm a3), hM := mapR_set h.hM _ _ hm, hR := ?_, hC := ?_, bkl := h.bkl, dl := h.dl, wl := h.wl, row := h.row, geo := h.geo, badt := h.badt, cdl := h.cdl, mask := ?_, ownD := h.ownD, ownA := h.ownA, ownW := h.ownW, ownM := h.ownM, ownC := fun _ _ => h.ownC _ hc, ownR := h.ownR, apart := h.apart, apartC := fun _ _ => h.apartC _ hc }
  · rw [blk_set h.hD _ _ (Ne.symm a1)]
    unfold Nor.cells Nor.cutv
    rw [hc]
  · intro i l hl
    obtain ⟨b, j, h1, h2⟩ := h.hR i l hl
    exact ⟨b, j, h1, blk_set h2 _ _ (fun e => a4 (by rw [← e]; exact List.mem_of_getElem? h1))⟩
  · intro c h0
    injection h0 with h0
    subst h0
    exact heap_setCell hCC 0 (i64 a')
  · intro c h0
    injection h0 with h0
    subst h0
    exact (h.mask (a, b, m) hc : m < 256)

/-- A sector's wear written. -/
theorem DevR.setW {O : Nat → Prop} {w : World} {N : Nor} (h : DevR O w N) (s n : Nat) : DevR O (w.setCell ⟨N.WB, s, none⟩ (i64 n)) { N with wear := N.wear.set s n } := by
  have hap := h.apart
  simp only [List.nodup_cons, List.mem_cons, not_or] at hap
  obtain ⟨⟨a1, a2, a3⟩, ⟨a4, a5⟩, a6, a7⟩ := hap
  obtain ⟨arr, ha1, ha2⟩ := h.hA
  have hm := mapR_ne h.hM h.hW
  refine { lim := fun k hk => by simpa [World.setCell] using h.lim k hk, hD := blk_set h.hD _ _ a2, hA := ⟨arr, blk_set ha1 _ _ a4, ha2⟩, hW := ?_, hM := mapR_set h.hM _ _ hm, hR := ?_, hC := ?_, bkl := h.bkl, dl := h.dl, wl := by simpa using h.wl, row := h.row, geo := h.geo, badt := h.badt, cdl := h.cdl, mask := h.mask, ownD := h.ownD, ownA := h.ownA, ownW := h.ownW, ownM := h.ownM, ownC := h.ownC, ownR := h.ownR, apart := h.apart, apartC := h.apartC }
  · rw [heap_setCell h.hW s (i64 n)]
    congr 2
    apply Array.ext'
    simp [List.map_set]
  · intro i l hl
    obtain ⟨b, j, h1, h2⟩ := h.hR i l hl
    exact ⟨b, j, h1, blk_set h2 _ _ (fun e => a6 (by rw [← e]; exact List.mem_of_getElem? h1))⟩
  · intro c hc
    have hac := h.apartC _ hc
    simp only [List.mem_cons, not_or] at hac
    exact blk_set (h.hC c hc) _ _ hac.2.2.1
end Go.Proofs.YthiimpleljaimaaGreatDoor

/- A scan of a sector's bytes, in plain words. -/
namespace Go.Proofs.YthiimpleljaimaaGreatDoor
open Go.RowKit Flo

/-- What is read of a record. -/
def readOf (l : List Nat) : Read :=
  let n1 := pNum l 8 0 0
  let n2 := pNum l 8 n1.2.1 n1.2.2
  let n3 := pNum l 1 n2.2.1 n2.2.2
  let n4 := pNum l 1 n3.2.1 n3.2.2
  let n5 := pNum l 3 n4.2.1 n4.2.2
  let n6 := pNum l 1 n5.2.1 n5.2.2
  let n7 := pTxt l 48 n6.2.1 n6.2.2
  ⟨n1, n2, n3, n4, n5, n6, n7, pTxt l 64 n7.2.1 n7.2.2⟩
theorem readOf_of (l : List Nat) : (readOf l).of l := by constructor <;> simp only [readOf]
noncomputable def gotE (l : List Nat) : Nat := (readOf l).err l.length
noncomputable def gotI (l : List Nat) : Item := if gotE l = 0 then (readOf l).item else zeroIt
theorem gotI_res (l : List Nat) : (readOf l).res l.length = (gotI l).val := rfl
theorem gotI_self (l : List Nat) : itemEq (gotI l) (gotI l) = true := by
  unfold gotI
  split
  · rename_i h
    refine itemEq_self ?_
    have hm : mayB (readOf l).item = true := by
      unfold gotE Read.err at h
      by_cases h6 : 1 < (readOf l).n6.1
      · rw [if_pos h6] at h; cases h
      · rw [if_neg h6] at h
        by_cases h8 : (readOf l).n8.2.2 ≠ 0
        · rw [if_pos h8] at h; exact absurd h h8
        · rw [if_neg h8] at h
          by_cases h9 : (readOf l).n8.2.1 < l.length
          · rw [if_pos h9] at h; cases h
          · rw [if_neg h9] at h
            cases hb : mayB (readOf l).item with
            | true => rfl
            | false => rw [if_pos hb] at h; cases h
    rw [mayB_rest, Bool.and_eq_true] at hm
    exact hm.1
  · exact zero_self

theorem recState_of (f : Nat) : recState f = 3 ∨ recState f = 4 ∨ recState f = 5 ∨ recState f = 6 := by
  unfold recState
  split <;> (try split) <;> (try split) <;> simp
/-- What stands at a place: nothing, no record, or a record. -/
theorem recClass_cases (l : List Nat) (a : Nat) : (recClass l a = (0, [], 0)) ∨ (recClass l a = (3, [], 0)) ∨
    (((recClass l a).1 = 4 ∨ (recClass l a).1 = 5 ∨ (recClass l a).1 = 6) ∧ a < (recClass l a).2.2 ∧ (recClass l a).2.2 ≤ l.length ∧ (recClass l a).2.1 = (l.drop (a + 7)).take (pGet l (a + 1) 2).1) := by
  unfold recClass
  split
  · exact .inr (.inl rfl)
  split
  · exact .inl rfl
  split
  · exact .inr (.inl rfl)
  rename_i h3
  split
  · exact .inr (.inl rfl)
  rename_i h4
  split
  · exact .inr (.inl rfl)
  refine .inr (.inr ⟨?_, ?_, ?_, rfl⟩)
  · have := recState_of (l.getD a 0)
    show recState (l.getD a 0) = 4 ∨ recState (l.getD a 0) = 5 ∨ recState (l.getD a 0) = 6
    omega
  · show a < a + 7 + (pGet l (a + 1) 2).1 + 1
    omega
  · show a + 7 + (pGet l (a + 1) 2).1 + 1 ≤ l.length
    omega
theorem recClass_lt {l : List Nat} (hl : ∀ b ∈ l, b < 256) (a : Nat) : ∀ b ∈ (recClass l a).2.1, b < 256 := by
  rcases recClass_cases l a with h | h | ⟨-, -, -, h⟩
  · rw [h]; intro b hb; cases hb
  · rw [h]; intro b hb; cases hb
  · rw [h]; intro b hb; exact hl b (List.mem_of_mem_drop (List.mem_of_mem_take hb))
theorem recClass_len (l : List Nat) (a : Nat) : (recClass l a).2.1.length ≤ l.length := by
  rcases recClass_cases l a with h | h | ⟨-, -, -, h⟩
  · rw [h]; exact Nat.zero_le _
  · rw [h]; exact Nat.zero_le _
  · rw [h, List.length_take, List.length_drop]; omega

/-- What is found at a place. -/
noncomputable def oneAt (s : Nat) (l : List Nat) (a : Nat) : Found := ⟨near s, near a, ((recClass l a).2.2 : Int) - a, decide ((recClass l a).1 = 5), gotI (recClass l a).2.1⟩
/-- What is found from a place on, and where that ends. -/
noncomputable def scanN (s : Nat) (l : List Nat) : Nat → Nat → List Found → Nat × List Found
  | 0, a, fs => (a, fs)
  | k + 1, a, fs => if (recClass l a).1 = 6 then scanN s l k (recClass l a).2.2 fs
      else if ((recClass l a).1 = 4 ∨ (recClass l a).1 = 5) ∧ gotE (recClass l a).2.1 = 0 then scanN s l k (recClass l a).2.2 (fs ++ [oneAt s l a])
      else (a, fs)
theorem scanN_skip {s : Nat} {l : List Nat} {k a : Nat} {fs : List Found} (hk : l.length < a + k) (ha : a ≤ l.length) (h : (recClass l a).1 = 6) :
    ∃ k', l.length < (recClass l a).2.2 + k' ∧ scanN s l k a fs = scanN s l k' (recClass l a).2.2 fs := by
  cases k with
  | zero => omega
  | succ k =>
    refine ⟨k, ?_, ?_⟩
    · rcases recClass_cases l a with e | e | ⟨-, e1, e2, -⟩
      · rw [e] at h; cases h
      · rw [e] at h; cases h
      · omega
    · rw [scanN, if_pos h]
theorem scanN_take {s : Nat} {l : List Nat} {k a : Nat} {fs : List Found} (hk : l.length < a + k) (ha : a ≤ l.length) (h : (recClass l a).1 = 4 ∨ (recClass l a).1 = 5) (he : gotE (recClass l a).2.1 = 0) :
    ∃ k', l.length < (recClass l a).2.2 + k' ∧ scanN s l k a fs = scanN s l k' (recClass l a).2.2 (fs ++ [oneAt s l a]) := by
  cases k with
  | zero => omega
  | succ k =>
    refine ⟨k, ?_, ?_⟩
    · rcases recClass_cases l a with e | e | ⟨-, e1, e2, -⟩
      · rw [e] at h; rcases h with h | h <;> cases h
      · rw [e] at h; rcases h with h | h <;> cases h
      · omega
    · rw [scanN, if_neg (by omega), if_pos ⟨h, he⟩]
theorem scanN_stop {s : Nat} {l : List Nat} {k a : Nat} {fs : List Found} (h6 : ¬ (recClass l a).1 = 6) (h : ¬ (((recClass l a).1 = 4 ∨ (recClass l a).1 = 5) ∧ gotE (recClass l a).2.1 = 0)) :
    scanN s l k a fs = (a, fs) := by
  cases k with
  | zero => rfl
  | succ k => rw [scanN, if_neg h6, if_neg h]

/-- The class of a sector's bytes. -/
def geoN (s z : Int) (l : List Nat) : Bool := geoB s z && ((l.length : Int) == z)
def mark : List Nat := [84, 120, 78, 82]
def headOf (s z : Nat) : List Nat := mark ++ be 4 (sumB (mark ++ be 2 s ++ be 2 z))
theorem headOf_len (s z : Nat) : (headOf s z).length = 8 := by unfold headOf mark; simp [be_len]
theorem headOf_lt (s z : Nat) : ∀ b ∈ headOf s z, b < 256 := by
  intro b hb
  unfold headOf at hb
  rcases List.mem_append.1 hb with h | h
  · unfold mark at h; simp at h; omega
  · exact be_lt _ _ _ h
def classB (s z : Int) (l : List Nat) : Nat :=
  if geoN s z l = false then 2 else if l.take 8 = headOf s.toNat z.toNat then 1 else if blankB l then 0 else 2
/-- A sector's scan. -/
structure Scan where
  cls : Nat
  stop : Nat
  full : Bool
  found : List Found
noncomputable def scanB (s z : Int) (k : Nat) (l : List Nat) : Scan :=
  if classB s z l = 1 then ⟨1, (scanN k l (l.length + 1) 8 []).1, (!decide ((recClass l (scanN k l (l.length + 1) 8 []).1).1 = 0)) || decide (l.length ≤ (scanN k l (l.length + 1) 8 []).1), (scanN k l (l.length + 1) 8 []).2⟩
  else ⟨classB s z l, 0, decide (classB s z l = 2), []⟩
end Go.Proofs.YthiimpleljaimaaGreatDoor

/- A sector's scan, as it stands in memory. -/
namespace Go.Proofs.YthiimpleljaimaaGreatDoor
open Go Go.RowKit Flo

section
variable {P : Program} {a : Act} {w : World} {Q : Exit → Act → World → Prop}
/-- A scope that is gone through again and again, by a goto to its label: a round is told once. -/
theorem wp_scope_loop {c r : Code} (l : Nat) (J : Act → World → Prop) (μ : Act → World → Nat) (hf : findLabel c l = some (Code.skip.seq r))
    (pass : ∀ a w, J a w → r.wp P (Exit.jump l (fun a' w' => J a' w' ∧ μ a' w' < μ a w) Q) a w)
    (first : (∀ a w, J a w → r.wp P (Exit.jump l J Q) a w) → c.wp P (Exit.jump l J Q) a w) : (Code.scope c).wp P Q a w := by
  refine wp_scope_jumps l J μ hf (first fun a w h => wp_mono (pass a w h) ?_) (fun a w h => wp_seq (wp_skip (pass a w h)))
  intro e a' w' hq
  cases e with
  | goto l' => exact ⟨hq.1, hq.2.1⟩
  | _ => exact hq
end

/-- A scan's memory: the block of the result, that of what is found, what was found so far. -/
structure ScanSt (T : TypeId) (w : World) (pr po : Nat) (wr : World) (v : Value) (fs : List Found) : Prop where
  below : Below w.heap.size w wr
  res : wr.heap[pr]? = some (.cells #[i64 0, i64 0, .bool false, .slice none 0 0] T (0, 0))
  out : wr.heap[po]? = some (.cells #[i64 1, i64 0, .bool false, v] T (0, 0))
  own : wr.ownsRow (po + 1) 131 11 v fs.length (fs.flatMap Found.row)
  l1 : w.heap.size ≤ pr
  l2 : pr < po
theorem ScanSt.below' {T : TypeId} {w : World} {pr po : Nat} {wr W : World} {v : Value} {fs : List Found} (h : ScanSt T w pr po wr v fs) (hb : Below wr.heap.size wr W) : ScanSt T w pr po W v fs :=
  ⟨Base.tr h.below hb, blk_below h.res hb, blk_below h.out hb, own_below h.own hb, h.l1, h.l2⟩
theorem ScanSt.slice {T : TypeId} {w : World} {pr po : Nat} {wr : World} {v : Value} {fs : List Found} (h : ScanSt T w pr po wr v fs) : ∃ A n c, v = .slice A n c := by
  rcases h.own.2 with ⟨h1, _⟩ | ⟨g', c', _, h1, _⟩
  · exact ⟨_, _, _, h1⟩
  · exact ⟨_, _, _, h1⟩
/-- .. behind an append whose row is stored. -/
theorem ScanSt.step {T : TypeId} {w : World} {pr po : Nat} {wr W : World} {v v' : Value} {fs : List Found} {f : Found} (h : ScanSt T w pr po wr v fs) (hg : wr.grownBy W v.ownBlock)
    (ho : W.ownsRow (po + 1) 131 11 v' (fs.length + 1) (fs.flatMap Found.row ++ f.row)) : ScanSt T w pr po (W.setCell ⟨po, 3, none⟩ v') v' (fs ++ [f]) := by
  have hpo := (Array.getElem?_eq_some_iff.1 h.out).1
  have hpr := (Array.getElem?_eq_some_iff.1 h.res).1
  have n1 : some po ≠ v.ownBlock := fun e => by have := (h.own.lt po e.symm).1; omega
  have n2 : some pr ≠ v.ownBlock := fun e => by have := (h.own.lt pr e.symm).1; have := h.l2; omega
  have l2 := h.l2
  have hb : Below w.heap.size w W := Base.gr h.below hg (fun g hg => by have := (h.own.lt g hg).1; have := h.l1; omega)
  refine ⟨Base.st hb (by have := h.l1; omega) _ _, blk_set ((hg.block pr hpr n2).trans h.res) _ _ (by omega), heap_setCell ((hg.block po hpo n1).trans h.out) 3 v', ?_, h.l1, l2⟩
  have hl : (fs ++ [f]).length = fs.length + 1 := by simp
  have hm : (fs ++ [f]).flatMap Found.row = fs.flatMap Found.row ++ f.row := by simp
  rw [hl, hm]
  refine ⟨ho.1, ?_⟩
  rcases ho.2 with hn | ⟨g, cap, cur, rfl, hbg, hgg, rest⟩
  · exact .inl hn
  · exact .inr ⟨g, cap, cur, rfl, hbg, blk_set hgg _ _ (by omega), rest⟩
theorem own_keepAll {W W' : World} {base : Nat} {e : TypeId} {size : Nat} {v : Value} {n : Nat} {xs : List Value} (h : W.ownsRow base e size v n xs) (hk : ∀ (g : Nat) (x : Obj), base ≤ g → W.heap[g]? = some x → W'.heap[g]? = some x) : W'.ownsRow base e size v n xs := by
  refine ⟨h.1, ?_⟩
  rcases h.2 with hn | ⟨g, cap, cur, rfl, hbg, hgg, rest⟩
  · exact .inl hn
  · exact .inr ⟨g, cap, cur, rfl, hbg, hk _ _ hbg hgg, rest⟩
/-- .. where the scan ends: the end and whether it is full are stored, the result too. -/
theorem ScanSt.fin {T : TypeId} {w : World} {pr po : Nat} {W : World} {v : Value} {fs : List Found} (h : ScanSt T w pr po W v fs) (x y : Value) (vs : List Value) (hl : vs.length = 4) :
    (sets ((W.setCell ⟨po, 1, none⟩ x).setCell ⟨po, 2, none⟩ y) pr 0 vs).heap[pr]? = some (.cells vs.toArray T (0, 0)) ∧
    (sets ((W.setCell ⟨po, 1, none⟩ x).setCell ⟨po, 2, none⟩ y) pr 0 vs).ownsRow w.heap.size 131 11 v fs.length (fs.flatMap Found.row) ∧ Below w.heap.size w (sets ((W.setCell ⟨po, 1, none⟩ x).setCell ⟨po, 2, none⟩ y) pr 0 vs) := by
  have l1 := h.l1
  have l2 := h.l2
  refine ⟨sets_at (blk_set (blk_set h.res _ _ (by omega)) _ _ (by omega)) vs (by rw [hl]; rfl), own_base (own_keepAll h.own fun g c hg hc => sets_old (by omega) vs _ 0 (blk_set (blk_set hc _ _ (by omega)) _ _ (by omega))) (by omega), ?_⟩
  exact sets_below (a := w) l1 vs _ 0 (Base.st (Base.st h.below (by omega) _ _) (by omega) _ _)
end Go.Proofs.YthiimpleljaimaaGreatDoor

