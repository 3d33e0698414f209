/- A device of package nor: how it stands in memory; what its operations make of it. -/
import Derived.Test.YtnmeaminfoopmaaGreatDoorMg3
import Derived.Test.YtnmeaminfoopmaaGreatDoorPack
import Derived.Test.YtnmeaminfoopmaaGreatDoorMap
import Derived.Test.YtnmeaminfoopmaaGreatDoorMg2
import Derived.Test.YtnmeaminfoopmaaGreatDoorMg1
namespace Go.Proofs.YtnmeaminfoopmaaGreatDoor
open Go.RowKit Flo

/-! ### A frame that names blocks -/
/-- Nothing has changed but in the blocks O, and new ones. -/
structure Out (O : Nat → Prop) (w w' : World) : Prop where
  os : w'.os = w.os
  tape : w'.tape = w.tape
  output : w'.output = w.output
  size : w.heap.size ≤ w'.heap.size
  block : ∀ k, k < w.heap.size → ¬ O k → w'.heap[k]? = w.heap[k]?
theorem Out.refl (O : Nat → Prop) (w : World) : Out O w w := ⟨rfl, rfl, rfl, Nat.le_refl _, fun _ _ _ => rfl⟩
theorem Out.trans {O : Nat → Prop} {w v u : World} (h : Out O w v) (g : Out O v u) : Out O w u :=
  ⟨g.os.trans h.os, g.tape.trans h.tape, g.output.trans h.output, Nat.le_trans h.size g.size, fun k hk hn => (g.block k (Nat.lt_of_lt_of_le hk h.size) hn).trans (h.block k hk hn)⟩
theorem Out.of_below {O : Nat → Prop} {w v : World} (h : Below w.heap.size w v) : Out O w v := ⟨h.os, h.tape, h.output, h.size, fun k hk _ => h.block k hk⟩
theorem Out.then {O : Nat → Prop} {w v u : World} (h : Out O w v) (g : Below v.heap.size v u) : Out O w u := h.trans (Out.of_below g)
theorem Out.set {O : Nat → Prop} {w v : World} (h : Out O w v) {g : Nat} (hg : O g) (o : Nat) (u : Value) : Out O w (v.setCell ⟨g, o, none⟩ u) :=
  h.trans ⟨rfl, rfl, rfl, by simp [World.setCell], fun k _ hn => Below.heap_setCell _ _ _ _ (fun e => hn (by rw [show k = g from e]; exact hg))⟩
theorem Out.grown {O : Nat → Prop} {w v u : World} (h : Out O w v) {r : Nat} (hr : O r) (g : v.grownBy u (some r)) : Out O w u :=
  h.trans ⟨g.os, g.tape, g.output, g.size, fun k hk hn => g.block k hk (fun e => hn (by injection e with e; rw [e]; exact hr))⟩
theorem Out.base {O : Nat → Prop} {w v : World} {B : Nat} (h : Out O w v) (hB : ∀ k, O k → B ≤ k) (hw : B ≤ w.heap.size) : Below B w v :=
  ⟨h.os, h.tape, h.output, h.size, fun k hk => h.block k (by omega) (fun ho => by have := hB k ho; omega)⟩
theorem Out.wide {O Q : Nat → Prop} {w v : World} (h : Out O w v) (hq : ∀ k, O k → Q k) : Out Q w v := ⟨h.os, h.tape, h.output, h.size, fun k hk hn => h.block k hk (fun ho => hn (hq k ho))⟩
/-- .. O may be wider by what is new. -/
theorem Out.new {O Q : Nat → Prop} {w v : World} (h : Out Q w v) (hq : ∀ k, Q k → O k ∨ w.heap.size ≤ k) : Out O w v :=
  ⟨h.os, h.tape, h.output, h.size, fun k hk hn => h.block k hk (fun ho => by rcases hq k ho with h1 | h1; exact hn h1; omega)⟩
theorem Out.blk {O : Nat → Prop} {w v : World} (h : Out O w v) {g : Nat} {o : Obj} (hg : w.heap[g]? = some o) (hn : ¬ O g) : v.heap[g]? = some o := by
  rw [h.block g (Array.getElem?_eq_some_iff.1 hg).1 hn]; exact hg

/-- A slice that lies in none of the blocks O. -/
def Far (O : Nat → Prop) (v : Value) : Prop := ∀ b off n c, v = .slice (some ⟨b, off, none⟩) n c → ¬ O b
theorem Sl.out {O : Nat → Prop} {w w' : World} {k : Nat} {v : Value} {xs : List (List Value)} (h : Sl w k v xs) (hf : Far O v) (hb : Out O w w') : Sl w' k v xs := by
  obtain ⟨A, cap, hv, hl, hm, hn, hc⟩ := h
  refine ⟨A, cap, hv, hl, hm, hn, fun h0 => ?_⟩
  obtain ⟨b, off, hA, hlt, hx⟩ := hc h0
  have hno : ¬ O b := hf b off xs.length cap (by rw [hv, hA])
  refine ⟨b, off, hA, Nat.lt_of_lt_of_le hlt hb.size, fun i x hi => ⟨(hx i x hi).1, fun j u hj => ?_⟩⟩
  have h1 := (hx i x hi).2 j u hj
  have h2 := hb.block b hlt hno
  unfold World.cell? at h1 ⊢
  simp only [] at h1 ⊢
  rw [h2]
  exact h1
theorem Far.nil (O : Nat → Prop) (n c : Nat) : Far O (.slice none n c) := fun _ _ _ _ h => by cases h

/-! ### The device -/
structure Nor where
  D : Nat
  DA : Nat
  WB : Nat
  MB : Nat
  CB : Nat
  bk : List Nat
  cd : Nat
  S : Nat
  Z : Nat
  data : List (List Nat)
  wear : List Nat
  bad : List (Int × Value)
  off : Bool
  offs : Nat
  acts : Nat
  cut : Option (Nat × Nat × Nat)
def Nor.cutv (N : Nor) : Value := .pointer (match N.cut with | none => none | some _ => some ⟨N.CB, 0, none⟩)
def Nor.cells (N : Nor) : Array Value := #[i64 N.S, i64 N.Z, .slice (some ⟨N.DA, 0, none⟩) N.S N.cd, .slice (some ⟨N.WB, 0, none⟩) N.S N.S, .map (some N.MB), .bool N.off, i64 N.offs, i64 N.acts, N.cutv]

/-- The device stands in memory, in the blocks O. -/
structure DevR (O : Nat → Prop) (w : World) (N : Nor) : Prop where
  lim : ∀ k, O k → k < w.heap.size
  hD : w.heap[N.D]? = some (Obj.cells N.cells 111 (0, 0))
  hA : ∃ arr : List Value, w.heap[N.DA]? = some (Obj.cells arr.toArray 95 (0, 0)) ∧ ∀ (i b : Nat), N.bk[i]? = some b → arr[i]? = some (Value.slice (some ⟨b, 0, none⟩) N.Z N.Z)
  hW : w.heap[N.WB]? = some (Obj.cells (N.wear.map fun n : Nat => i64 n).toArray 3 (0, 0))
  hM : MapR (Value.int .i64) w N.MB N.bad
  hR : ∀ (i : Nat) (l : List Nat), N.data[i]? = some l → ∃ (b : Nat) (junk : List Value), N.bk[i]? = some b ∧ w.heap[b]? = some (Obj.cells (l.map bv ++ junk).toArray 5 (0, 0))
  hC : ∀ c, N.cut = some c → w.heap[N.CB]? = some (Obj.cells #[i64 c.1, i64 c.2.1, .int .u8 c.2.2] 161 (0, 0))
  bkl : N.bk.length = N.S
  dl : N.data.length = N.S
  wl : N.wear.length = N.S
  row : ∀ l ∈ N.data, l.length = N.Z ∧ ∀ b ∈ l, b < 256
  geo : geoB N.S N.Z = true
  badt : ∀ p ∈ N.bad, p.2 = .bool true
  cdl : N.S ≤ N.cd
  mask : ∀ c, N.cut = some c → c.2.2 < 256
  ownD : O N.D
  ownA : O N.DA
  ownW : O N.WB
  ownM : O N.MB
  ownC : ∀ c, N.cut = some c → O N.CB
  ownR : ∀ b ∈ N.bk, O b
  apart : (N.D :: N.DA :: N.WB :: N.bk).Nodup
  apartC : ∀ c, N.cut = some c → N.CB ∉ N.D :: N.DA :: N.WB :: N.bk
theorem DevR.below {O : Nat → Prop} {w w' : World} {N : Nor} (h : DevR O w N) (hb : Below w.heap.size w w') : DevR O w' N where
  lim k hk := Nat.lt_of_lt_of_le (h.lim k hk) hb.size
  hD := blk_below h.hD hb
  hA := by obtain ⟨arr, h1, h2⟩ := h.hA; exact ⟨arr, blk_below h1 hb, h2⟩
  hW := blk_below h.hW hb
  hM := h.hM.below hb
  hR i l hl := by obtain ⟨b, j, h1, h2⟩ := h.hR i l hl; exact ⟨b, j, h1, blk_below h2 hb⟩
  hC c hc := blk_below (h.hC c hc) hb
  bkl := h.bkl
  dl := h.dl
  wl := h.wl
  row := h.row
  geo := h.geo
  badt := h.badt
  cdl := h.cdl
  mask := h.mask
  ownD := h.ownD
  ownA := h.ownA
  ownW := h.ownW
  ownM := h.ownM
  ownC := h.ownC
  ownR := h.ownR
  apart := h.apart
  apartC := h.apartC
theorem DevR.al {O : Nat → Prop} {w : World} {N : Nor} (h : DevR O w N) (o : Obj) : DevR O (w.alloc o) N := h.below (Base.al (Below.refl _ _) o)
theorem DevR.dr {O : Nat → Prop} {w : World} {N : Nor} (h : DevR O w N) : DevR O w.drew N := h.below (Base.dr (Below.refl _ _))

theorem mapR_set {w : World} {b g : Nat} {l : List (Int × Value)} (h : MapR (Value.int .i64) w b l) (o : Nat) (v : Value) (hn : b ≠ g) : MapR (Value.int .i64) (w.setCell ⟨g, o, none⟩ v) b l :=
  h.of_block (Below.heap_setCell _ _ _ _ hn)
theorem mapR_ne {w : World} {b g : Nat} {l : List (Int × Value)} {cs : Array Value} {t : TypeId} {f : Nat × Nat} (h : MapR (Value.int .i64) w b l) (hg : w.heap[g]? = some (.cells cs t f)) : b ≠ g := by
  rintro rfl
  obtain ⟨L, c, hb, _⟩ := h
  rw [hb] at hg
  cases hg

/-- A cell of the head written. -/
theorem DevR.setD {O : Nat → Prop} {w : World} {N N' : Nor} (h : DevR O w N) (i : Nat) (v : Value)
    (hs : N' = { N with off := N'.off, offs := N'.offs, acts := N'.acts, cut := N'.cut }) (hcut : N'.cut = none ∨ N'.cut = N.cut) (hc : N.cells.setIfInBounds i v = N'.cells) : DevR O (w.setCell ⟨N.D, i, none⟩ v) N' := by
  obtain ⟨hap1, hap2⟩ := List.nodup_cons.1 h.apart
  simp only [List.mem_cons, not_or] at hap1
  have hR := h.hR
  have hC := h.hC
  have hac := h.apartC
  obtain ⟨arr, ha1, ha2⟩ := h.hA
  have hset := heap_setCell h.hD i v
  rw [hc] at hset
  have hm := mapR_ne h.hM h.hD
  rw [hs]
  rw [hs] at hset hcut
  refine { lim := fun k hk => by simpa [World.setCell] using h.lim k hk, hD := hset, hA := ⟨arr, blk_set ha1 _ _ (Ne.symm hap1.1), ha2⟩, hW := blk_set h.hW _ _ (Ne.symm hap1.2.1), hM := mapR_set h.hM _ _ hm, hR := ?_, hC := ?_, bkl := h.bkl, dl := h.dl, wl := h.wl, row := h.row, geo := h.geo, badt := h.badt, cdl := h.cdl, mask := ?_, ownD := h.ownD, ownA := h.ownA, ownW := h.ownW, ownM := h.ownM, ownC := ?_, ownR := h.ownR, apart := h.apart, apartC := ?_ }
  · intro i l hl
    obtain ⟨b, j, h1, h2⟩ := hR i l hl
    exact ⟨b, j, h1, blk_set h2 _ _ (fun e => hap1.2.2 (by rw [← e]; exact List.mem_of_getElem? h1))⟩
  · intro c hc
    rcases hcut with h0 | h0
    · rw [h0] at hc; cases hc
    · rw [h0] at hc
      refine blk_set (hC c hc) _ _ (fun e => hac c hc (by rw [show N.CB = N.D from e]; exact List.mem_cons_self ..))
  · intro c hc
    rcases hcut with h0 | h0
    · rw [h0] at hc; cases hc
    · rw [h0] at hc; exact h.mask c hc
  · intro c hc
    rcases hcut with h0 | h0
    · rw [h0] at hc; cases hc
    · rw [h0] at hc; exact h.ownC c hc
  · intro c hc
    rcases hcut with h0 | h0
    · rw [h0] at hc; cases hc
    · rw [h0] at hc; exact hac c hc

/-- A byte of a sector written. -/
theorem DevR.setR {O : Nat → Prop} {w : World} {N : Nor} (h : DevR O w N) {s b : Nat} {l : List Nat} (hs : N.bk[s]? = some b) (hl : N.data[s]? = some l) (i x : Nat) (hi : i < N.Z) (hx : x < 256) :
    DevR O (w.setCell ⟨b, i, none⟩ (bv x)) { N with data := N.data.set s (l.set i x) } := by
  have hbm : b ∈ N.bk := List.mem_of_getElem? hs
  have hap := h.apart
  simp only [List.nodup_cons, List.mem_cons, not_or] at hap
  obtain ⟨⟨a1, a2, a3⟩, ⟨a4, a5⟩, a6, a7⟩ := hap
  have hac := h.apartC
  obtain ⟨arr, ha1, ha2⟩ := h.hA
  obtain ⟨b', junk, hb1, hb2⟩ := h.hR s l hl
  have hbb : b' = b := by rw [hs] at hb1; injection hb1 with e; exact e.symm
  subst hbb
  have hll : l.length = N.Z := (h.row l (List.mem_of_getElem? hl)).1
  have hm := mapR_ne h.hM hb2
  refine { lim := fun k hk => by simpa [World.setCell] using h.lim k hk, hD := blk_set h.hD _ _ (fun e => a3 (by rw [show N.D = b' from e]; exact hbm)), hA := ⟨arr, blk_set ha1 _ _ (fun e => a5 (by rw [show N.DA = b' from e]; exact hbm)), ha2⟩, hW := blk_set h.hW _ _ (fun e => a6 (by rw [show N.WB = b' from e]; exact hbm)), hM := mapR_set h.hM _ _ hm, hR := ?_, hC := ?_, bkl := h.bkl, dl := by simpa using h.dl, wl := h.wl, row := ?_, geo := h.geo, badt := h.badt, cdl := h.cdl, mask := h.mask, ownD := h.ownD, ownA := h.ownA, ownW := h.ownW, ownM := h.ownM, ownC := h.ownC, ownR := h.ownR, apart := h.apart, apartC := h.apartC }
  · intro k l' hk
    rw [List.getElem?_set] at hk
    by_cases he : s = k
    · subst he
      have hsl := (List.getElem?_eq_some_iff.1 hl).1
      rw [if_pos rfl, if_pos hsl] at hk
      injection hk with hk
      subst hk
      refine ⟨b', junk, hb1, ?_⟩
      have := heap_setCell hb2 i (bv x)
      rw [this]
      congr 2
      apply Array.ext'
      simp only [Array.toList_setIfInBounds]
      rw [List.set_append_left _ _ (by rw [List.length_map, hll]; exact hi), List.map_set]
    · rw [if_neg he] at hk
      obtain ⟨c, j, h1, h2⟩ := h.hR k l' hk
      refine ⟨c, j, h1, blk_set h2 _ _ (fun e => he ?_)⟩
      have hk1 := (List.getElem?_eq_some_iff.1 h1)
      have hs1 := (List.getElem?_eq_some_iff.1 hb1)
      have := List.getElem_inj a7 (i := s) (j := k) (h₀ := hs1.1) (h₁ := hk1.1)
      exact this.1 (by rw [hs1.2, hk1.2]; exact e.symm)
  · intro c hc
    exact blk_set (h.hC c hc) _ _ (fun e => hac c hc (by rw [show N.CB = b' from e]; exact List.mem_cons_of_mem _ (List.mem_cons_of_mem _ (List.mem_cons_of_mem _ hbm))))
  · intro l' hl'
    rcases List.mem_or_eq_of_mem_set hl' with h1 | h1
    · exact h.row l' h1
    · subst h1
      refine ⟨by rw [List.length_set]; exact hll, fun b hb => ?_⟩
      rcases List.mem_or_eq_of_mem_set hb with h2 | h2
      · exact (h.row l (List.mem_of_getElem? hl)).2 b h2
      · rw [h2]; exact hx

/-- The cut's count written. -/
theorem DevR.setC {O : Nat → Prop} {w : World} {N : Nor} (h : DevR O w N) {a b m : Nat} (hc : N.cut = some (a, b, m)) (a' : Nat) :
    DevR O (w.setCell ⟨N.CB, 0, none⟩ (i64 a')) { N with cut := some (a', b, m) } := by
  have hac := h.apartC _ hc
  simp only [List.mem_cons, not_or] at hac
  obtain ⟨a1, a2, a3, a4⟩ := hac
  obtain ⟨arr, ha1, ha2⟩ := h.hA
  have hCC := h.hC _ hc
  have hm := mapR_ne h.hM hCC
  refine { lim := fun k hk => by simpa [World.setCell] using h.lim k hk, hD := ?_, hA := ⟨arr, blk_set ha1 _ _ (Ne.symm a2), ha2⟩, hW := blk_set h.hW _ _ (Ne.symm a3), hM := mapR_set h.hM _ _ hm, hR := ?_, hC := ?_, bkl := h.bkl, dl := h.dl, wl := h.wl, row := h.row, geo := h.geo, badt := h.badt, cdl := h.cdl, mask := ?_, ownD := h.ownD, ownA := h.ownA, ownW := h.ownW, ownM := h.ownM, ownC := fun _ _ => h.ownC _ hc, ownR := h.ownR, apart := h.apart, apartC := fun _ _ => h.apartC _ hc }
  · rw [blk_set h.hD _ _ (Ne.symm a1)]
    unfold Nor.cells Nor.cutv
    rw [hc]
  · intro i l hl
    obtain ⟨b, j, h1, h2⟩ := h.hR i l hl
    exact ⟨b, j, h1, blk_set h2 _ _ (fun e => a4 (by rw [← e]; exact List.mem_of_getElem? h1))⟩
  · intro c h0
    injection h0 with h0
    subst h0
    exact heap_setCell hCC 0 (i64 a')
  · intro c h0
    injection h0 with h0
    subst h0
    exact (h.mask (a, b, m) hc : m < 256)

/-- A sector's wear written. -/
theorem DevR.setW {O : Nat → Prop} {w : World} {N : Nor} (h : DevR O w N) (s n : Nat) : DevR O (w.setCell ⟨N.WB, s, none⟩ (i64 n)) { N with wear := N.wear.set s n } := by
  have hap := h.apart
  simp only [List.nodup_cons, List.mem_cons, not_or] at hap
  obtain ⟨⟨a1, a2, a3⟩, ⟨a4, a5⟩, a6, a7⟩ := hap
  obtain ⟨arr, ha1, ha2⟩ := h.hA
  have hm := mapR_ne h.hM h.hW
  refine { lim := fun k hk => by simpa [World.setCell] using h.lim k hk, hD := blk_set h.hD _ _ a2, hA := ⟨arr, blk_set ha1 _ _ a4, ha2⟩, hW := ?_, hM := mapR_set h.hM _ _ hm, hR := ?_, hC := ?_, bkl := h.bkl, dl := h.dl, wl := by simpa using h.wl, row := h.row, geo := h.geo, badt := h.badt, cdl := h.cdl, mask := h.mask, ownD := h.ownD, ownA := h.ownA, ownW := h.ownW, ownM := h.ownM, ownC := h.ownC, ownR := h.ownR, apart := h.apart, apartC := h.apartC }
  · rw [heap_setCell h.hW s (i64 n)]
    congr 2
    apply Array.ext'
    simp [List.map_set]
  · intro i l hl
    obtain ⟨b, j, h1, h2⟩ := h.hR i l hl
    exact ⟨b, j, h1, blk_set h2 _ _ (fun e => a6 (by rw [← e]; exact List.mem_of_getElem? h1))⟩
  · intro c hc
    have hac := h.apartC _ hc
    simp only [List.mem_cons, not_or] at hac
    exact blk_set (h.hC c hc) _ _ hac.2.2.1
end Go.Proofs.YtnmeaminfoopmaaGreatDoor

/- The device's small operations: is it on, on, off, its counts; and of none. -/
namespace Go.Proofs.YtnmeaminfoopmaaGreatDoor
open Go.RowKit Flo

abbrev ptrD (N : Nor) : Value := .pointer (some ⟨N.D, 0, none⟩)
abbrev nilD : Value := .pointer none
/-- What a head's cells are. -/
theorem DevR.at {O : Nat → Prop} {w : World} {N : Nor} (h : DevR O w N) (i : Nat) : w.cell? ⟨N.D, i, none⟩ = N.cells[i]? := cell_blk h.hD i

theorem DevR.ltD {O : Nat → Prop} {w : World} {N : Nor} (h : DevR O w N) : N.D < w.heap.size := (Array.getElem?_eq_some_iff.1 h.hD).1

theorem isOn_nil (w : World) : Gives 49 #[nilD] w (.bool false) := by
  go_enter Tryz.func49, Tryz.ntmps49
  go_wp2_with fail
  go_ret
  exact ⟨rfl, rfl⟩
theorem isOn_any {O : Nat → Prop} {w : World} {N : Nor} (h : DevR O w N) : Gives 49 #[ptrD N] w (.bool (!N.off)) := by
  have c5 : w.cell? ⟨N.D, 5, none⟩ = some (.bool N.off) := h.at 5
  go_enter Tryz.func49, Tryz.ntmps49
  go_wp2_with fail
  go_ret
  exact ⟨rfl, rfl⟩
theorem acts_nil (w : World) : Gives 28 #[nilD] w (i64 0) := by
  go_enter Tryz.func28, Tryz.ntmps28
  go_wp2_with fail
  go_ret
  exact ⟨rfl, rfl⟩
theorem acts_any {O : Nat → Prop} {w : World} {N : Nor} (h : DevR O w N) : Gives 28 #[ptrD N] w (i64 N.acts) := by
  have c7 : w.cell? ⟨N.D, 7, none⟩ = some (i64 N.acts) := h.at 7
  go_enter Tryz.func28, Tryz.ntmps28
  go_wp2_with fail
  go_ret
  exact ⟨rfl, rfl⟩
theorem offs_nil (w : World) : Gives 31 #[nilD] w (i64 0) := by
  go_enter Tryz.func31, Tryz.ntmps31
  go_wp2_with fail
  go_ret
  exact ⟨rfl, rfl⟩
theorem offs_any {O : Nat → Prop} {w : World} {N : Nor} (h : DevR O w N) : Gives 31 #[ptrD N] w (i64 N.offs) := by
  have c6 : w.cell? ⟨N.D, 6, none⟩ = some (i64 N.offs) := h.at 6
  go_enter Tryz.func31, Tryz.ntmps31
  go_wp2_with fail
  go_ret
  exact ⟨rfl, rfl⟩
theorem geom_nil (w : World) : Makes 37 #[nilD] w (geo 0 0) := by
  go_enter Tryz.func37, Tryz.ntmps37
  go_wp2_with fail
  exact bodyPost_ret (v := geo 0 0) (by simp [results, Tryz.results37, go_sem]) rfl ⟨rfl, Base.al (Below.refl _ _) _⟩
theorem geom_any {O : Nat → Prop} {w : World} {N : Nor} (h : DevR O w N) : Makes 37 #[ptrD N] w (geo N.S N.Z) := by
  have c0 : w.cell? ⟨N.D, 0, none⟩ = some (i64 N.S) := h.at 0
  have c1 : w.cell? ⟨N.D, 1, none⟩ = some (i64 N.Z) := h.at 1
  have hlt := h.ltD
  go_enter Tryz.func37, Tryz.ntmps37
  go_wp2_with fail
  exact bodyPost_ret (v := geo N.S N.Z) (by simp [results, Tryz.results37, go_sem]) rfl ⟨rfl, Base.al (Below.refl _ _) _⟩
theorem on_nil (w : World) : Gives 33 #[nilD] w (.tuple #[]) := by
  go_enter Tryz.func33, Tryz.ntmps33
  go_wp2_with fail
  first | go_end0 | refine bodyPost_ret (results_none rfl _ _ _) rfl ?_
  exact ⟨rfl, rfl⟩
theorem on_any {O : Nat → Prop} {w : World} {N : Nor} (h : DevR O w N) : Calls Tryz.prog 33 #[ptrD N] w fun e w' => e = .returned (.tuple #[]) ∧ w' = w.setCell ⟨N.D, 5, none⟩ (.bool false) := by
  have c5 : w.cell? ⟨N.D, 5, none⟩ = some (.bool N.off) := h.at 5
  have hf := frozen_blk h.hD 5
  go_enter Tryz.func33, Tryz.ntmps33
  go_wp2_with fail
  first | go_end0 | refine bodyPost_ret (results_none rfl _ _ _) rfl ?_
  exact ⟨rfl, rfl⟩
theorem DevR.on {O : Nat → Prop} {w : World} {N : Nor} (h : DevR O w N) : DevR O (w.setCell ⟨N.D, 5, none⟩ (.bool false)) { N with off := false } :=
  h.setD 5 _ rfl (.inr rfl) rfl
theorem off_nil (w : World) : Gives 32 #[nilD] w (.tuple #[]) := by
  have g0 := fun W => Lib.hid (isOn_nil W)
  go_enter Tryz.func32, Tryz.ntmps32
  go_wp2_with fail
  refine (g0 _).out.mono ?_; rintro e x1 ⟨rfl, rfl⟩
  go_wp2_with fail
  first | go_end0 | refine bodyPost_ret (results_none rfl _ _ _) rfl ?_
  exact ⟨rfl, rfl⟩
/-- Off: what is left. -/
def Nor.turn (N : Nor) : Nor := if N.off then N else { N with off := true, cut := none, offs := N.offs + 1 }
set_option maxHeartbeats 2000000 in
theorem off_any {O : Nat → Prop} {w : World} {N : Nor} (h : DevR O w N) (hlim : N.offs ≤ 1000000) : Calls Tryz.prog 32 #[ptrD N] w fun e w' => e = .returned (.tuple #[]) ∧ DevR O w' N.turn ∧ Out O w w' := by
  have g0 := fun W (hW : DevR O W N) => Lib.hid (isOn_any hW)
  cases hoff : N.off
  · rw [hoff] at g0
    have c5 : w.cell? ⟨N.D, 5, none⟩ = some (.bool false) := by rw [← hoff]; exact h.at 5
    have c6 : w.cell? ⟨N.D, 6, none⟩ = some (i64 N.offs) := h.at 6
    have c8 : w.cell? ⟨N.D, 8, none⟩ = some N.cutv := h.at 8
    have hf := fun o => frozen_blk h.hD o
    have ht : N.turn = { N with off := true, cut := none, offs := N.offs + 1 } := by unfold Nor.turn; rw [hoff]; rfl
    go_enter Tryz.func32, Tryz.ntmps32
    go_wp2_with fail
    refine (g0 _ h).out.mono ?_; rintro e x1 ⟨rfl, rfl⟩
    go_wp2_with fail
    first | go_end0 | refine bodyPost_ret (results_none rfl _ _ _) rfl ?_
    refine ⟨rfl, ?_, ?_⟩
    · rw [ht]
      have h1 := h.setD (N' := { N with off := true }) 5 (.bool true) rfl (.inr rfl) rfl
      have h2 := h1.setD (N' := { N with off := true, cut := none }) 8 (.pointer none) rfl (.inl rfl) rfl
      exact h2.setD (N' := { N with off := true, cut := none, offs := N.offs + 1 }) 6 (i64 (N.offs + 1 : Nat)) rfl (.inl rfl) rfl
    · exact ((((Out.refl O _).set h.ownD _ _).set h.ownD _ _).set h.ownD _ _)
  · rw [hoff] at g0
    have ht : N.turn = N := by unfold Nor.turn; rw [hoff]; rfl
    go_enter Tryz.func32, Tryz.ntmps32
    go_wp2_with fail
    refine (g0 _ h).out.mono ?_; rintro e x1 ⟨rfl, rfl⟩
    go_wp2_with fail
    first | go_end0 | refine bodyPost_ret (results_none rfl _ _ _) rfl ?_
    exact ⟨rfl, by rw [ht]; exact h, Out.refl _ _⟩
end Go.Proofs.YtnmeaminfoopmaaGreatDoor

/- Package tree on at most one key, and the smallest functions of package store. -/
namespace Go.Proofs.YtnmeaminfoopmaaGreatDoor
open Go Go.RowKit Flo

abbrev nilP : Value := .pointer none
def leafC (k v : ByteArray) : Array Value := #[.string k, .string v, nilP, nilP, i64 1, i64 1]
/-- A tree of one key. -/
abbrev LeafAt (w : World) (b : Nat) (k v : ByteArray) : Prop := w.heap[b]? = some (.cells (leafC k v) 87 (0, 0))

set_option maxHeartbeats 2000000 in
set_option maxRecDepth 100000 in
theorem treeNew_any (w : World) : Gives 38 #[] w nilP := by
  go_enter Tryz.func38, Tryz.ntmps38
  go_wp2_with fail
  go_ret
  exact ⟨rfl, rfl⟩
set_option maxHeartbeats 2000000 in
set_option maxRecDepth 100000 in
theorem treeLen_nil (w : World) : Gives 14 #[nilP] w (i64 0) := by
  go_enter Tryz.func14, Tryz.ntmps14
  go_wp2_with fail
  go_ret
  exact ⟨rfl, rfl⟩
set_option maxHeartbeats 2000000 in
set_option maxRecDepth 100000 in
theorem treeLen_leaf {w : World} {b : Nat} {k v : ByteArray} (h : LeafAt w b k v) : Gives 14 #[.pointer (some ⟨b, 0, none⟩)] w (i64 1) := by
  have c4 : w.cell? ⟨b, 4, none⟩ = some (i64 1) := cell_blk h 4
  clear h
  go_enter Tryz.func14, Tryz.ntmps14
  go_wp2_with fail
  go_ret
  exact ⟨rfl, rfl⟩
set_option maxHeartbeats 2000000 in
set_option maxRecDepth 100000 in
theorem treeSet_nil (k v : ByteArray) (w : World) : Calls Tryz.prog 117 #[nilP, .string k, .string v] w fun e w' => e = .returned (.pointer (some ⟨w.heap.size, 0, none⟩)) ∧ LeafAt w' w.heap.size k v ∧ Below w.heap.size w w' := by
  go_enter Tryz.func117, Tryz.ntmps117
  go_wp2_with fail
  go_ret
  exact ⟨rfl, blk_new _ _, Base.al (Below.refl _ _) _⟩
set_option maxHeartbeats 4000000 in
set_option maxRecDepth 100000 in
theorem treeGet_leaf {w : World} {b : Nat} {k v : ByteArray} (h : LeafAt w b k v) : Gives 156 #[.pointer (some ⟨b, 0, none⟩), .string k] w (.tuple #[.string v, .bool true]) := by
  have c0 : w.cell? ⟨b, 0, none⟩ = some (.string k) := cell_blk h 0
  have c1 : w.cell? ⟨b, 1, none⟩ = some (.string v) := cell_blk h 1
  clear h
  go_enter Tryz.func156, Tryz.ntmps156
  go_wp2_with fail
  go_loopw [0] (fun t wr => t = .pointer (some ⟨b, 0, none⟩) ∧ wr = w) (fun _ _ => 0)
  case atStart => exact ⟨rfl, rfl⟩
  case round =>
    obtain ⟨rfl, rfl⟩ := hrel
    go_wp2_with fail
    go_ret2
    exact ⟨rfl, rfl⟩
theorem less_self : ∀ l : List UInt8, Op.bytesLess l l = false
  | [] => rfl
  | a :: l => by unfold Op.bytesLess; simp [less_self l]
set_option maxHeartbeats 4000000 in
set_option maxRecDepth 100000 in
theorem treeCut_leaf {w : World} {b : Nat} {k v : ByteArray} (h : LeafAt w b k v) : Gives 116 #[.pointer (some ⟨b, 0, none⟩), .string k] w nilP := by
  have G := Lib.hid (treeGet_leaf h)
  have c0 : w.cell? ⟨b, 0, none⟩ = some (.string k) := cell_blk h 0
  have c2 : w.cell? ⟨b, 2, none⟩ = some nilP := cell_blk h 2
  have c3 : w.cell? ⟨b, 3, none⟩ = some nilP := cell_blk h 3
  have t1 := less_self k.toList
  clear h
  go_enter Tryz.func116, Tryz.ntmps116
  go_wp2_with fail
  refine G.out.mono ?_; rintro e x1 ⟨rfl, rfl⟩
  go_wp2_with fail
  go_ret
  exact ⟨rfl, rfl⟩

set_option maxHeartbeats 2000000 in
set_option maxRecDepth 100000 in
theorem above_any (n : Nat) (w : World) (hn : n < 9223372036854775807) : Gives 41 #[.int .u64 n] w (.int .u64 ((n + 1 : Nat) : Int)) := by
  have kw : IntKind.u64.wrap ((n : Int) + 1) = (n : Int) + 1 := by rw [IntKind.wrap_u64]; omega
  have km : max (n : Int) ((n : Int) + 1) = (n : Int) + 1 := by omega
  go_enter Tryz.func41, Tryz.ntmps41
  go_wp2_with fail
  go_ret
  refine ⟨?_, rfl⟩
  push_cast
  simp
end Go.Proofs.YtnmeaminfoopmaaGreatDoor

