/- The document's device: bytes as bits. -/
import Derived.Test.YthiimpleljaimaaGreatDoorNorQ
import Derived.Test.YthiimpleljaimaaGreatDoorMg10
import Derived.Test.YthiimpleljaimaaGreatDoorMg14
import Derived.RegionTactic
import Derived.BigRegion
import Derived.Test.YthiimpleljaimaaGreatDoorMg11
namespace Go.Proofs.YthiimpleljaimaaGreatDoor
open Go.RowKit Flo

def bitB (x i : Nat) : Bool := x / 2 ^ i % 2 == 1
/-- What the bits of both come to. -/
def rBits (old other mask : Nat) (down : Bool) : Nat := if down then pUp other mask old else eUp mask old
def oneB (old other mask : Nat) (down : Bool) (i : Nat) : Bool := if bitB mask i then (if down then bitB old i && bitB other i else true) else bitB old i
theorem bitB_test (x i : Nat) : bitB x i = x.testBit i := by
  unfold bitB
  rw [Nat.testBit_eq_decide_div_mod_eq]
  by_cases h : x / 2 ^ i % 2 = 1 <;> simp [h]
theorem rBits_bit (old other mask : Nat) (down : Bool) (i : Nat) (hi : i < 8) (hm : mask < 256) : (rBits old other mask down).testBit i = oneB old other mask down i := by
  unfold rBits oneB
  simp only [bitB_test]
  cases down
  · simp only [Bool.false_eq_true, if_false]
    unfold eUp
    rw [Nat.testBit_or]
    cases old.testBit i <;> cases mask.testBit i <;> rfl
  · simp only [if_true]
    unfold pUp
    rw [Nat.testBit_and, Nat.testBit_or, show 255 - mask = 2 ^ 8 - (mask + 1) by omega, Nat.testBit_two_pow_sub_succ (show mask < 2 ^ 8 from hm)]
    simp only [hi, decide_true, Bool.true_and]
    cases old.testBit i <;> cases mask.testBit i <;> cases other.testBit i <;> rfl
theorem low_step (x i : Nat) : x % 2 ^ (i + 1) = x % 2 ^ i + (if x.testBit i then 2 ^ i else 0) := by
  rw [Nat.testBit_eq_decide_div_mod_eq, Nat.pow_succ, Nat.mod_mul]
  have : x / 2 ^ i % 2 < 2 := Nat.mod_lt _ (by decide)
  rcases (by omega : x / 2 ^ i % 2 = 0 ∨ x / 2 ^ i % 2 = 1) with h | h
  · simp [h]
  · simp [h]

end Go.Proofs.YthiimpleljaimaaGreatDoor

/- A device made. -/
namespace Go.Proofs.YthiimpleljaimaaGreatDoor
open Go.RowKit Flo

theorem info_intE : (Tryz.prog.info? 3).map (fun i => (i.zero, i.size, i.bytes)) = some (some (.int .i64 0), 1, 8) := by kernel_rfl
set_option maxHeartbeats 4000000 in
set_option maxRecDepth 100000 in
theorem new_no (s z : Int) (w : World) (h : geoB s z = false) : Makes 31 #[geo s z] w (.tuple #[.pointer none, i64 1]) := by
  have g0 := fun W => Lib.hid (placeMay_any s z W)
  rw [h] at g0
  go_enter Tryz.func31, Tryz.ntmps31
  go_wp2_with fail
  refine (g0 _).out.mono ?_; rintro e x1 ⟨rfl, hb1⟩
  go_wp2_with fail
  go_ret2
  exact ⟨rfl, Base.tr (Base.al (Below.refl _ _) _) hb1⟩

/-- A device under way: j sectors are there. -/
structure NewSt (w : World) (s z D WB MB : Nat) (W : World) (j : Nat) (v : Value) (bl : List Nat) : Prop where
  hD : W.heap[D]? = some (Obj.cells #[i64 s, i64 z, v, .slice (some ⟨WB, 0, none⟩) s s, .map (some MB), .bool false, i64 0, i64 0, .pointer none] 89 (0, 0))
  hW : W.heap[WB]? = some (Obj.cells ((List.replicate s (0 : Nat)).map fun n : Nat => i64 n).toArray 3 (0, 0))
  hM : MapR (Value.int .i64) W MB []
  par : W.heap[w.heap.size]? = some (Obj.cells #[i64 s, i64 z] 38 (0, 0))
  own : W.ownsRow (D + 1) 22 1 v j (bl.map fun b => Value.slice (some ⟨b, 0, none⟩) z z)
  len : bl.length = j
  blk : ∀ b ∈ bl, D < b ∧ v.ownBlock ≠ some b ∧ ∃ junk : List Value, W.heap[b]? = some (Obj.cells (List.replicate z (bv 255) ++ junk).toArray 5 (0, 0))
  nodup : bl.Nodup
  below : Below w.heap.size w W
  l1 : w.heap.size < WB
  l2 : w.heap.size < MB
  l3 : WB < D
  l4 : MB < D
theorem NewSt.step {w : World} {s z D WB MB : Nat} {W W' : World} {j : Nat} {v v' : Value} {bl : List Nat} {b : Nat} {junk : List Value} (h : NewSt w s z D WB MB W j v bl)
    (hg : W.grownBy W' v.ownBlock) (hown : W'.ownsRow (D + 1) 22 1 v' (j + 1) ((bl.map fun b => Value.slice (some ⟨b, 0, none⟩) z z) ++ [Value.slice (some ⟨b, 0, none⟩) z z]))
    (hb : W'.heap[b]? = some (Obj.cells (List.replicate z (bv 255) ++ junk).toArray 5 (0, 0))) (hbW : W.heap.size ≤ b) (halt : v'.ownBlock = v.ownBlock ∨ ∃ g, v'.ownBlock = some g ∧ W.heap.size ≤ g ∧ g ≠ b) :
    NewSt w s z D WB MB (W'.setCell ⟨D, 2, none⟩ v') (j + 1) v' (bl ++ [b]) := by
  have hDl := (Array.getElem?_eq_some_iff.1 h.hD).1
  have hrow : ∀ k, k ≤ D → some k ≠ v.ownBlock := fun k hk e => by have := (h.own.lt k e.symm).1; omega
  have old : ∀ {g : Nat} {o : Obj}, W.heap[g]? = some o → g ≤ D → g ≠ D → (W'.setCell ⟨D, 2, none⟩ v').heap[g]? = some o := by
    intro g o hx hgD hne
    rw [Below.heap_setCell _ _ _ _ hne, hg.block g (Array.getElem?_eq_some_iff.1 hx).1 (hrow g hgD)]
    exact hx
  have hD' : W'.heap[D]? = _ := (hg.block D hDl (hrow D (Nat.le_refl _))).trans h.hD
  refine { hD := ?_, hW := old h.hW (Nat.le_of_lt h.l3) (by have := h.l3; omega), hM := ?_, par := old h.par (by have := h.l1; have := h.l3; omega) (by have := h.l1; have := h.l3; omega), own := ?_, len := by rw [List.length_append, h.len]; rfl, blk := ?_, nodup := ?_, below := ?_, l1 := h.l1, l2 := h.l2, l3 := h.l3, l4 := h.l4 }
  · have := heap_setCell hD' 2 v'
    simpa using this
  · refine (h.hM.of_block (w' := W'.setCell ⟨D, 2, none⟩ v') ?_)
    rw [Below.heap_setCell _ _ _ _ (by have := h.l4; show MB ≠ D; omega), hg.block MB h.hM.lt (hrow MB (Nat.le_of_lt h.l4))]
  · rw [List.map_append]
    refine ⟨hown.1, ?_⟩
    rcases hown.2 with hn | ⟨g, cap, cur, rfl, hbg, hgg, rest⟩
    · exact .inl hn
    · refine .inr ⟨g, cap, cur, rfl, hbg, ?_, rest⟩
      rw [Below.heap_setCell _ _ _ _ (by show g ≠ D; omega)]
      exact hgg
  · intro x hx
    rcases List.mem_append.1 hx with hx | hx
    · obtain ⟨h1, h2, jk, h3⟩ := h.blk x hx
      have hxl := (Array.getElem?_eq_some_iff.1 h3).1
      refine ⟨h1, ?_, jk, ?_⟩
      · rcases halt with h4 | ⟨g, h4, h5, _⟩
        · rw [h4]; exact h2
        · rw [h4]; intro e; injection e with e; omega
      · rw [Below.heap_setCell _ _ _ _ (by show x ≠ D; omega), hg.block x hxl (fun e => h2 e.symm)]
        exact h3
    · rw [List.mem_singleton] at hx
      subst hx
      refine ⟨by omega, ?_, junk, ?_⟩
      · rcases halt with h4 | ⟨g, h4, _, h5⟩
        · rw [h4]; intro e; have := (h.own.lt x e).2; omega
        · rw [h4]; intro e; injection e with e; exact h5 e
      · rw [Below.heap_setCell _ _ _ _ (by show x ≠ D; omega)]; exact hb
  · refine List.nodup_append.2 ⟨h.nodup, by simp, fun a ha x hx => ?_⟩
    rw [List.mem_singleton] at hx
    subst hx
    intro e
    subst e
    obtain ⟨_, _, jk, h3⟩ := h.blk a ha
    have := (Array.getElem?_eq_some_iff.1 h3).1
    omega
  · have h1 : Below w.heap.size w W' := h.below.trans ⟨hg.os, hg.tape, hg.output, hg.size, fun k hk => hg.block k (by have := h.below.size; omega) (hrow k (by have := h.l1; have := h.l3; omega))⟩
    exact h1.trans ⟨rfl, rfl, rfl, by simp [World.setCell], fun k hk => Below.heap_setCell _ _ _ _ (by have := h.l1; have := h.l3; show k ≠ D; omega)⟩

/-- A new device. -/
structure Fresh (N : Nor) (s z : Nat) : Prop where
  S : N.S = s
  Z : N.Z = z
  data : N.data = List.replicate s (List.replicate z 255)
  wear : N.wear = List.replicate s 0
  bad : N.bad = []
  off : N.off = false
  offs : N.offs = 0
  acts : N.acts = 0
  cut : N.cut = none
theorem NewSt.end {w : World} {s z D WB MB : Nat} {W : World} {v : Value} {bl : List Nat} (h : NewSt w s z D WB MB W s v bl) (hg : geoB s z = true) :
    ∃ (N : Nor) (O : Nat → Prop), ptrD N = .pointer (some ⟨D, 0, none⟩) ∧ DevR O W N ∧ (∀ k, O k → w.heap.size ≤ k) ∧ Fresh N s z := by
  obtain ⟨q1, q2, q3, q4⟩ := geoB_yes hg
  have hl1 := h.l1
  have hl2 := h.l2
  have hl3 := h.l3
  have hl4 := h.l4
  rcases h.own.2 with ⟨_, h0⟩ | ⟨g, cap, cur, rfl, hbg, hgg, hnc, hcm, hcs, htake⟩
  · omega
  · have hgl := (Array.getElem?_eq_some_iff.1 hgg).1
    refine ⟨⟨D, g, WB, MB, 0, bl, cap, s, z, List.replicate s (List.replicate z 255), List.replicate s 0, [], false, 0, 0, none⟩, fun k => k ∈ D :: g :: WB :: MB :: bl, rfl, ?_, ?_, ⟨rfl, rfl, rfl, rfl, rfl, rfl, rfl, rfl, rfl⟩⟩
    · refine { lim := ?_, hD := h.hD, hA := ⟨cur.toList, by simpa using hgg, ?_⟩, hW := h.hW, hM := h.hM, hR := ?_, hC := (fun c hc => by cases hc), bkl := h.len, dl := by simp, wl := by simp, row := ?_, geo := hg, badt := by simp, cdl := hnc, mask := (fun c hc => by cases hc), ownD := by simp, ownA := by simp, ownW := by simp, ownM := by simp, ownC := (fun c hc => by cases hc), ownR := fun b hb => by simp [hb], apart := ?_, apartC := (fun c hc => by cases hc) }
      · intro k hk
        simp only [List.mem_cons] at hk
        rcases hk with rfl | rfl | rfl | rfl | hk
        · exact (Array.getElem?_eq_some_iff.1 h.hD).1
        · exact hgl
        · exact (Array.getElem?_eq_some_iff.1 h.hW).1
        · exact h.hM.lt
        · obtain ⟨_, _, jk, h3⟩ := h.blk k hk
          exact (Array.getElem?_eq_some_iff.1 h3).1
      · intro i b hb
        have hi := (List.getElem?_eq_some_iff.1 hb).1
        have h3 : (cur.toList.take (s * 1))[i]? = some (Value.slice (some ⟨b, 0, none⟩) z z) := by
          rw [htake, List.getElem?_map, hb]; rfl
        rwa [List.getElem?_take_of_lt (by rw [Nat.mul_one, ← h.len]; exact hi)] at h3
      · intro i l hl
        have hi := (List.getElem?_eq_some_iff.1 hl).1
        simp only [List.length_replicate] at hi
        have hib : i < bl.length := by rw [h.len]; exact hi
        obtain ⟨_, _, jk, h3⟩ := h.blk bl[i] (List.getElem_mem hib)
        have hle : l = List.replicate z 255 := by
          rw [List.getElem?_replicate, if_pos hi] at hl
          injection hl with hl
          exact hl.symm
        subst hle
        exact ⟨bl[i], jk, List.getElem?_eq_getElem hib, by rw [List.map_replicate]; exact h3⟩
      · intro l hl
        obtain ⟨_, rfl⟩ := List.mem_replicate.1 hl
        refine ⟨by simp, fun b hb => ?_⟩
        rw [(List.mem_replicate.1 hb).2]; decide
      · simp only [List.nodup_cons, List.mem_cons, not_or]
        refine ⟨⟨by omega, by omega, fun hm => by have := (h.blk D hm).1; omega⟩, ⟨by omega, fun hm => (h.blk g hm).2.1 rfl⟩, fun hm => by have := (h.blk WB hm).1; omega, h.nodup⟩
    · intro k hk
      simp only [List.mem_cons] at hk
      rcases hk with rfl | rfl | rfl | rfl | hk
      · omega
      · omega
      · omega
      · omega
      · have := (h.blk k hk).1; omega

set_option maxHeartbeats 8000000 in
set_option maxRecDepth 100000 in
theorem new_any (s z : Nat) (w : World) (h : geoB s z = true) : Calls Tryz.prog 31 #[geo s z] w fun e w' => ∃ (N : Nor) (O : Nat → Prop), e = .returned (.tuple #[ptrD N, i64 0]) ∧ DevR O w' N ∧ (∀ k, O k → w.heap.size ≤ k) ∧ Fresh N s z ∧ Below w.heap.size w w' := by
  have g0 := fun W => Lib.hid (placeMay_any s z W)
  rw [h] at g0
  obtain ⟨q1, q2, q3, q4⟩ := geoB_yes h
  go_enter Tryz.func31, Tryz.ntmps31
  go_wp2_with fail
  refine (g0 _).out.mono ?_; rintro e x1 ⟨rfl, hb1⟩
  have hB := blk_below (blk_new w (.cells #[i64 s, i64 z] 38)) hb1
  have hb2 := Base.tr (Base.al (Below.refl _ _) _) hb1
  have z0 : w.heap.size < x1.heap.size := (Array.getElem?_eq_some_iff.1 hB).1
  have e0 : x1.cell? ⟨w.heap.size, 0, none⟩ = some (i64 s) := cell_blk hB 0
  have e1 : x1.cell? ⟨w.heap.size, 1, none⟩ = some (i64 z) := cell_blk hB 1
  obtain ⟨i0, hi, hz0, hz1, hz2⟩ := info_parts info_intE
  have hmk := fun W => run_make (P := Tryz.prog) W 85 3 i0 _ Tryz.underlying85 hi hz0 .i64 .i64 (s : Int) (s : Int) (by omega) (Int.le_refl _) (by rw [hz2]; omega) (by omega)
  have hz : madeCells (Value.int IntKind.i64 0).cells (s * i0.size) = ((List.replicate s (0 : Nat)).map fun n : Nat => i64 n).toArray := by
    rw [hz1, Nat.mul_one]
    show madeCells #[Value.int .i64 0] s = _
    unfold madeCells
    apply Array.ext'
    apply List.ext_getElem
    · simp
    · intro i h1 h2
      simp [Nat.mod_one]
  have hN : ((s : Int)).toNat = s := by omega
  rw [hN, hz] at hmk
  obtain ⟨WE, hWE⟩ : ∃ WE, ((List.replicate s (0 : Nat)).map fun n : Nat => i64 n).toArray = WE := ⟨_, rfl⟩
  rw [hWE] at hmk
  clear hz hN hz0 hz1 hz2 hi g0
  have hmm := fun W => @run_makeMap Tryz.prog 86 W
  go_wp2_with fail
  go_region
  all_goals
    first
    | (have st0 : NewSt w s z (x1.heap.size + 1 + 1) x1.heap.size (x1.heap.size + 1) ((((x1.alloc (.cells WE 3)).alloc (.map #[] 0)).alloc (.cells #[i64 s, i64 z, .slice none 0 0, .slice (some ⟨x1.heap.size, 0, none⟩) s s, .map (some (x1.heap.size + 1)), .bool false, .int .i64 0, .int .i64 0, .pointer none] 89)).drew) 0 (.slice none 0 0) [] := by
        refine { hD := blk_new2 _ _ _ _, hW := by rw [← hWE]; exact blk_old (blk_old (blk_new x1 _)), hM := ?_, par := blk_old (blk_old (blk_old hB)), own := ⟨rfl, .inl ⟨rfl, rfl⟩⟩, len := rfl, blk := by simp, nodup := by simp, below := Base.dr (Base.al (Base.al (Base.al hb2 _) _) _), l1 := z0, l2 := by omega, l3 := by omega, l4 := by omega }
        have := MapR.made (Value.int .i64) (x1.alloc (.cells WE 3))
        rw [show (x1.alloc (.cells WE 3)).heap.size = x1.heap.size + 1 by simp] at this
        exact (this.alloc _).below (Base.dr (Below.refl _ _))
       obtain ⟨x2, hx2⟩ : ∃ x2, ((((x1.alloc (.cells WE 3)).alloc (.map #[] 0)).alloc (.cells #[i64 s, i64 z, .slice none 0 0, .slice (some ⟨x1.heap.size, 0, none⟩) s s, .map (some (x1.heap.size + 1)), .bool false, .int .i64 0, .int .i64 0, .pointer none] 89)).drew) = x2 := ⟨_, rfl⟩
       rw [hx2] at st0 ⊢
       clear hx2)
    | (have st0 : NewSt w s z (x1.heap.size + 1 + 1) (x1.heap.size + 1) x1.heap.size ((((x1.alloc (.map #[] 0)).alloc (.cells WE 3)).alloc (.cells #[i64 s, i64 z, .slice none 0 0, .slice (some ⟨x1.heap.size + 1, 0, none⟩) s s, .map (some x1.heap.size), .bool false, .int .i64 0, .int .i64 0, .pointer none] 89)).drew) 0 (.slice none 0 0) [] := by
        refine { hD := blk_new2 _ _ _ _, hW := by rw [← hWE]; exact blk_old (blk_new1 x1 _ _), hM := ?_, par := blk_old (blk_old (blk_old hB)), own := ⟨rfl, .inl ⟨rfl, rfl⟩⟩, len := rfl, blk := by simp, nodup := by simp, below := Base.dr (Base.al (Base.al (Base.al hb2 _) _) _), l1 := by omega, l2 := z0, l3 := by omega, l4 := by omega }
        have := MapR.made (Value.int .i64) x1
        exact ((this.alloc _).alloc _).below (Base.dr (Below.refl _ _))
       obtain ⟨x2, hx2⟩ : ∃ x2, ((((x1.alloc (.map #[] 0)).alloc (.cells WE 3)).alloc (.cells #[i64 s, i64 z, .slice none 0 0, .slice (some ⟨x1.heap.size + 1, 0, none⟩) s s, .map (some x1.heap.size), .bool false, .int .i64 0, .int .i64 0, .pointer none] 89)).drew) = x2 := ⟨_, rfl⟩
       rw [hx2] at st0 ⊢
       clear hx2)
    clear hB hb1 hb2 e0 e1 hmk hmm hWE z0
    generalize x1.heap.size + 1 + 1 = D at *
    have f0 : x2.cell? ⟨w.heap.size, 0, none⟩ = some (i64 s) := cell_blk st0.par 0
    go_wp2_with fail
    go_loopw [17] (fun i wr => ∃ (j : Nat) (v : Value) (bl : List Nat), j ≤ s ∧ i = .int .i64 j ∧ Hid (NewSt w s z D _ _ wr j v bl)) (fun i _ => s - (intOf i).toNat)
    case atStart => exact ⟨0, _, _, Nat.zero_le _, rfl, st0⟩
    case round =>
      obtain ⟨j, v, bl, hj, rfl, st⟩ := hrel
      have hDl := (Array.getElem?_eq_some_iff.1 st.out.hD).1
      have hpl := (Array.getElem?_eq_some_iff.1 st.out.par).1
      have hnD : some D ≠ v.ownBlock := fun e => by have := (st.out.own.lt D e.symm).1; omega
      have hnP : some w.heap.size ≠ v.ownBlock := fun e => by have := (st.out.own.lt _ e.symm).1; have := st.out.l1; have := st.out.l3; omega
      have g0 : wr.cell? ⟨w.heap.size, 0, none⟩ = some (i64 s) := cell_blk st.out.par 0
      have g1 : wr.cell? ⟨w.heap.size, 1, none⟩ = some (i64 z) := cell_blk st.out.par 1
      have g2 : wr.cell? ⟨D, 2, none⟩ = some v := cell_blk st.out.hD 2
      by_cases hlt : j < s
      · have k1 : ∀ p : GrOf wr v.ownBlock, p.v.cell? ⟨w.heap.size, 1, none⟩ = some (i64 z) := fun p => (gr_rd0 p hpl hnP).trans g1
        have k2 : ∀ p : GrOf wr v.ownBlock, p.v.cell? ⟨D, 2, none⟩ = some v := fun p => (gr_rd0 p hDl hnD).trans g2
        go_wp2_with fail
        have hrep := repeat_any wr.heap.size z (wr.alloc (.cells #[.int .u8 255] 5)).drew (cell_blk (blk_new wr (.cells #[.int .u8 255] 5)) 0) (by omega) (by omega)
        rw [show (wr.alloc (.cells #[.int .u8 255] 5)).drew.heap.size = wr.heap.size + 1 by simp] at hrep
        obtain ⟨i0, hi, hz0, hz1, hz2⟩ := info_parts info_bytesE
        refine wp_region_po (fun w' => ∃ p : GrOf wr v.ownBlock, w' = p.v) 11 [5, 8, 9, 10] (by kernel_rfl) (by kernel_rfl) ⟨⟨_, grown_dr (grown_same _ _)⟩, rfl⟩ ?_
        simp only [List.take_succ_cons, List.take_zero, List.drop_succ_cons, List.drop_zero]
        have on0 := @on_rd0; have on1 := @on_rd1; have on2 := @on_rd2; have on3 := @on_new1; have on4 := @on_new2; have on5 := @gr_rd0
        repeat ((with_reducible refine seq_read ?_ ?_); (focus rfl); (intro K hK); (unfold readsAt); go_simp; first | ((with_reducible refine hK _ ?_); clear hK K) | (rw [if_neg (by intro h; cases h)]; (with_reducible refine hK _ ?_); clear hK K))
        refine seq_eff (by rfl) (by first | rfl | go_simp) ?_
        intro K hK
        unfold effAt2
        go_simp
        refine ⟨⟨⟨_, grown_al (grown_dr (grown_same _ _)) _⟩, rfl⟩, hK _ _ ?_⟩
        clear hK K
        repeat ((with_reducible refine seq_read ?_ ?_); (focus rfl); (intro K hK); (unfold readsAt); go_simp; first | ((with_reducible refine hK _ ?_); clear hK K) | (rw [if_neg (by intro h; cases h)]; (with_reducible refine hK _ ?_); clear hK K))
        refine seq_eff (by rfl) (by first | rfl | go_simp) ?_
        intro K hK
        unfold effAt2
        go_simp
        refine ⟨rfl, hrep.mono ?_⟩; rintro e x5 ⟨junk, m, rfl, rfl⟩
        have hgr5 := grown_drn (grown_al (grown_dr (grown_al (grown_same wr v.ownBlock) (.cells #[.int .u8 255] 5))) (.cells (List.replicate z (bv 255) ++ junk).toArray 5)) m
        have hb5 : ((((wr.alloc (.cells #[.int .u8 255] 5)).drew).alloc (.cells (List.replicate z (bv 255) ++ junk).toArray 5)).drewN m).heap[wr.heap.size + 1]? = some (Obj.cells (List.replicate z (bv 255) ++ junk).toArray 5 (0, 0)) := blk_new1 wr _ _
        have hs5 : ((((wr.alloc (.cells #[.int .u8 255] 5)).drew).alloc (.cells (List.replicate z (bv 255) ++ junk).toArray 5)).drewN m).heap.size = wr.heap.size + 1 + 1 := by simp
        refine ⟨_, rfl, ⟨⟨_, hgr5⟩, rfl⟩, hK _ _ ?_⟩
        clear hK K
        have own5 := own_below st.out.own (Base.dn (Base.al (Base.dr (Base.al (Below.refl wr.heap.size wr) (.cells #[.int .u8 255] 5))) (.cells (List.replicate z (bv 255) ++ junk).toArray 5)) m)
        generalize ((((wr.alloc (.cells #[.int .u8 255] 5)).drew).alloc (.cells (List.replicate z (bv 255) ++ junk).toArray 5)).drewN m) = x5 at *
        have hm6 := news_of x5 [Value.slice (some ⟨wr.heap.size + 1, 0, none⟩) z z] 22
        rw [hs5] at hm6
        have own6 := own5.alloc (.cells #[.slice (some ⟨wr.heap.size + 1, 0, none⟩) z z] 22)
        have hgr6 := grown_al hgr5 (.cells #[.slice (some ⟨wr.heap.size + 1, 0, none⟩) z z] 22)
        have hs6 : (x5.alloc (.cells #[.slice (some ⟨wr.heap.size + 1, 0, none⟩) z z] 22)).heap.size = wr.heap.size + 1 + 1 + 1 := by rw [World.size_alloc, hs5]
        have hb6 := blk_old (x := .cells #[.slice (some ⟨wr.heap.size + 1, 0, none⟩) z z] 22) hb5
        refine seq_eff (by rfl) (by first | rfl | go_simp) ?_
        intro K hK
        unfold effAt2
        go_simp
        refine ⟨⟨⟨_, hgr6⟩, rfl⟩, hK _ _ ?_⟩
        clear hK K
        generalize x5.alloc (.cells #[.slice (some ⟨wr.heap.size + 1, 0, none⟩) z z] 22) = x6 at *
        refine seq_eff (by rfl) (by first | rfl | go_simp) ?_
        intro K hK
        refine eff_append _ _ _ 84 rfl (D + 1) 22 i0 _ 1 24 Tryz.underlying84 hi hz0 hz1 hz2 rfl (by decide) v j _ rfl own6 ⟨wr.heap.size + 1 + 1, 0, none⟩ 1 1 [.slice (some ⟨wr.heap.size + 1, 0, none⟩) z z] rfl rfl (by simpa using hm6) (by simp [Value.oneCell']) (by unfold maxLen; omega) (by omega) (by omega) ?_
        intro v' x7 hown7 hgr7 halt7
        obtain ⟨A', n', c', rfl⟩ : ∃ A n c, v' = .slice A n c := by
          rcases hown7.2 with ⟨h1, _⟩ | ⟨g', c', _, h1, _⟩
          · exact ⟨_, _, _, h1⟩
          · exact ⟨_, _, _, h1⟩
        refine ⟨⟨⟨_, grown_trans hgr6 hgr7⟩, rfl⟩, hK _ _ ?_⟩
        clear hK K
        clear on0 on1 on2 on3 on4 on5
        with_reducible refine seq_nil ?_
        have hne : some (wr.heap.size + 1) ≠ v.ownBlock := fun e => by have := (st.out.own.lt _ e.symm).2; omega
        have hst := Lib.hid (st.out.step (W' := x7) (b := wr.heap.size + 1) (junk := junk) (grown_trans hgr6 hgr7) hown7 ((hgr7.block _ (by omega) hne).trans hb6) (by omega) (by
          rcases halt7 with h1 | h1
          · exact .inl h1
          · exact .inr ⟨_, h1, by omega, by omega⟩))
        have hD7 := ((grown_trans hgr6 hgr7).block D hDl hnD).trans st.out.hD
        have c7 : x7.cell? ⟨D, 2, none⟩ = some v := cell_blk hD7 2
        have f7 := frozen_blk hD7 2
        clear hD7 hgr7 hown7 halt7 hgr6 own6 hb6 hm6 hgr5 hb5 own5 g0 g1 g2 k1 k2 hrep
        go_wp2_with fail
        exact ⟨⟨j + 1, _, bl ++ [wr.heap.size + 1], by omega, by go_num, hst⟩, by simp [intOf]; omega⟩
      · obtain rfl : j = s := by omega
        have hen := Lib.hid (st.out.end h)
        have hbw := st.out.below
        go_wp2_with fail
        go_ret2
        obtain ⟨N, O, e1, e2, e3, e4⟩ := hen.out
        exact ⟨N, O, by rw [e1]; rfl, e2, e3, e4, hbw⟩
end Go.Proofs.YthiimpleljaimaaGreatDoor

/- The chapter's example of nor. -/
namespace Go.Proofs.YthiimpleljaimaaGreatDoor
open Go.RowKit Flo

theorem far_new {O : Nat → Prop} {w : World} (h : ∀ k, O k → k < w.heap.size) {g : Nat} (hg : w.heap.size ≤ g) (o n c : Nat) : Far O (.slice (some ⟨g, o, none⟩) n c) := by
  intro b off n' c' e ho
  injection e with e
  injection e with e
  injection e with e
  subst e
  have := h _ ho
  omega
theorem part0 : part? 0 = some 0 := by
  have h : near 0 = 0 := by decide
  rw [← h]
  exact part_some (nearest_Whole (n := 0) (by decide))

theorem prog_fresh {N : Nor} {a b k o : Nat} {lb l : List Nat} (hoff : N.off = false) (hlb : lb.length ≠ 0) (ha : part? a = some k) (hb : part? b = some o) (hk : k < N.S) (hin : o + lb.length ≤ N.Z) (hbad : N.bad = []) (hcut : N.cut = none) (hl : N.data[k]? = some l) :
    N.prog a b lb = (0, { N with acts := N.acts + 1, data := N.data.set k (stepRow (fun i m old => pUp (lb.getD i 0) m old) o l lb.length) }) := by
  unfold Nor.prog
  rw [if_neg (by rw [hoff]; decide), if_neg hlb, within_yes ha hb, if_neg (by simp; omega), ha, hb]
  have hb2 : N.isBad ((some k).getD 0) = false := by unfold Nor.isBad; rw [hbad]; rfl
  rw [if_neg (by rw [hb2]; decide)]
  unfold Nor.act
  rw [hcut]
  have : N.data.getD ((some k).getD 0) [] = l := by rw [List.getD_eq_getElem?_getD]; show (N.data[k]?).getD [] = l; rw [hl]; rfl
  rw [this]
  rfl

/-- As the example stands between its acts. -/
structure Ex (N : Nor) (row : List Nat) (n : Nat) : Prop where
  off : N.off = false
  S : N.S = 6
  Z : N.Z = 512
  bad : N.bad = []
  cut : N.cut = none
  data : N.data[0]? = some row
  acts : N.acts = n
  offs : N.offs = 0
theorem Ex.prog {N : Nor} {row : List Nat} {n : Nat} (h : Ex N row n) (x : Nat) : ∃ N', N.prog 0 4613937818241073152 [x] = (0, N') ∧ ptrD N' = ptrD N ∧ Ex N' (row.set 3 (pUp x 255 (row.getD 3 0))) (n + 1) := by
  have hp3 : part? 4613937818241073152 = some 3 := by rw [← near3]; exact part3
  have hp := prog_fresh (N := N) (lb := [x]) (l := row) h.off (by simp) part0 hp3 (by rw [h.S]; decide) (by rw [h.Z]; simp) h.bad h.cut h.data
  refine ⟨_, hp, rfl, ⟨h.off, h.S, h.Z, h.bad, h.cut, ?_, by show N.acts + 1 = _; rw [h.acts], h.offs⟩⟩
  have h0 : 0 < N.data.length := (List.getElem?_eq_some_iff.1 h.data).1
  show (N.data.set 0 _)[0]? = _
  rw [List.getElem?_set_self h0]
  rfl
theorem Ex.got {N : Nor} {row : List Nat} {n x : Nat} (h : Ex N row n) (hx : row[3]? = some x) : N.got 0 4613937818241073152 1 = ([x], 0) := by
  unfold Nor.got
  rw [if_neg (by rw [h.off]; decide), within_yes part0 (by rw [← near3]; exact part3), if_pos (by rw [h.S, h.Z]; decide), part0, show part? 4613937818241073152 = some 3 by rw [← near3]; exact part3]
  show (((N.data.getD 0 []).drop 3).take 1, 0) = _
  have : N.data.getD 0 [] = row := by rw [List.getD_eq_getElem?_getD, h.data]; rfl
  rw [this, List.drop_eq_getElem_cons (List.getElem?_eq_some_iff.1 hx).1]
  rw [(List.getElem?_eq_some_iff.1 hx).2]
  rfl

end Go.Proofs.YthiimpleljaimaaGreatDoor

/- The document's device in memory: off, cut, spoilt. -/
namespace Go.Proofs.YthiimpleljaimaaGreatDoor
open Go.RowKit Flo

theorem info_boolV : (Tryz.prog.info? 4).map (fun i => (i.zero, i.size, i.bytes)) = some (some (.bool false), 1, 1) := by kernel_rfl
structure RV where
  dA : Option Addr
  wA : Option Addr
  bA : Option Addr
  dc : Nat
  wc : Nat
  bc : Nat
  left : Nat
  whole : Nat
  mask : Nat
  rows : List Value
def RV.cells (R : RV) (N : Nor) : Array Value := #[i64 N.S, i64 N.Z, .slice R.dA N.S R.dc, .slice R.wA N.S R.wc, .slice R.bA N.S R.bc, .bool N.off, i64 N.offs, i64 N.acts, .bool N.cut.isSome, i64 R.left, i64 R.whole, .int .u8 R.mask]
abbrev RV.val (R : RV) (N : Nor) : Value := .agg (R.cells N)
/-- The document's device, that lies in none of the blocks O, says the same. -/
structure RefR (O : Nat → Prop) (w : World) (R : RV) (N : Nor) : Prop where
  cut : ∀ c, N.cut = some c → R.left = c.1 ∧ R.whole = c.2.1 ∧ R.mask = c.2.2
  data : Sl w 1 (.slice R.dA N.S R.dc) (R.rows.map fun r => [r])
  dfar : Far O (.slice R.dA N.S R.dc)
  len : R.rows.length = N.S
  row : ∀ (i : Nat) (r : Value) (l : List Nat), R.rows[i]? = some r → N.data[i]? = some l → Byt w r l ∧ Far O r ∧ ∃ ad n c, r = .slice (some ad) n c
  wear : Ints w (.slice R.wA N.S R.wc) (N.wear.map fun n : Nat => (n : Int))
  wfar : Far O (.slice R.wA N.S R.wc)
  bad : Sl w 1 (.slice R.bA N.S R.bc) ((List.range N.S).map fun i => [Value.bool (N.isBad i)])
  bfar : Far O (.slice R.bA N.S R.bc)
  dl : N.data.length = N.S
  wl : N.wear.length = N.S
  all : ∀ l ∈ N.data, l.length = N.Z ∧ ∀ b ∈ l, b < 256
  geo : geoB N.S N.Z = true
  badn : (N.bad.map Prod.fst).Nodup
theorem RefR.out {O : Nat → Prop} {w w' : World} {R : RV} {N : Nor} (h : RefR O w R N) (hb : Out O w w') : RefR O w' R N :=
  { h with data := Sl.out h.data h.dfar hb, row := fun i r l h1 h2 => by { obtain ⟨a, b, c⟩ := h.row i r l h1 h2; exact ⟨Sl.out a b hb, b, c⟩ }, wear := Sl.out h.wear h.wfar hb, bad := Sl.out h.bad h.bfar hb }
theorem RefR.below {O : Nat → Prop} {w w' : World} {R : RV} {N : Nor} (h : RefR O w R N) (hb : Below w.heap.size w w') : RefR O w' R N := h.out (Out.of_below hb)
/-- The blocks may be fewer, or more that are new. -/
theorem Far.sub {O Q : Nat → Prop} {v : Value} (h : Far O v) (hq : ∀ k, Q k → O k) : Far Q v := fun b off n c e hb => h b off n c e (hq b hb)

theorem RefR.turn {O : Nat → Prop} {w : World} {R : RV} {N : Nor} (h : RefR O w R N) : RefR O w R N.turn := by
  unfold Nor.turn
  split
  · exact h
  · exact { h with cut := fun c hc => by cases hc }

theorem RefR.cutAt {O : Nat → Prop} {w : World} {R : RV} {N : Nor} (h : RefR O w R N) (a b : Int) (m g : Nat) : RefR O w { R with left := a.toNat, whole := b.toNat, mask := m } (N.cutAt a b m g) :=
  { h with cut := fun c hc => by { injection hc with hc; subst hc; exact ⟨rfl, rfl, rfl⟩ } }

theorem isBad_spoil (N : Nor) (hn : (N.bad.map Prod.fst).Nodup) (s : Int) (i : Nat) : (N.spoil s).isBad i = (decide ((i : Int) = s) || N.isBad i) := by
  unfold Nor.isBad Nor.spoil
  simp only []
  rw [mget_mput hn]
  by_cases h : (i : Int) = s
  · simp [h]
  · simp [h]

/-- One cell each. -/
theorem Sl.src1 {w : World} {ad : Addr} {n cap : Nat} {xs : List Value} (h : Sl w 1 (.slice (some ad) n cap) (xs.map fun x => [x])) : ∀ j u, xs[j]? = some u → w.cell? (ad.add j) = some u := by
  intro j u hj
  have hn := h.len
  rw [List.length_map] at hn
  have hjl := (List.getElem?_eq_some_iff.1 hj).1
  obtain ⟨b, off, hA, hb, hx⟩ := h.at (by omega)
  injection hA with hA
  subst hA
  have := (hx j [u] (by rw [List.getElem?_map, hj]; rfl)).2 0 u rfl
  rw [Addr.add_lit, show off + j = off + j * 1 + 0 by omega]
  exact this
theorem Sl.some {w : World} {A : Option Addr} {k n cap : Nat} {xs : List (List Value)} (h : Sl w k (.slice A n cap) xs) (hp : 0 < n) : ∃ ad, A = some ad := by
  obtain ⟨b, off, hA, _⟩ := h.at hp
  exact ⟨_, hA⟩
theorem RefR.bad' {O : Nat → Prop} {w w' : World} {R : RV} {N : Nor} (h : RefR O w R N) (s : Int) (lim : ∀ k, O k → k < w.heap.size) (hb : Below w.heap.size w w') {g cp : Nat} {D : List Value} (hg : w'.heap[g]? = some (.cells D.toArray 4 (0, 0)))
    (hD : D.take N.S = (List.range N.S).map fun i => Value.bool ((N.spoil s).isBad i)) (n1 : w.heap.size ≤ g) (hc : N.S ≤ cp) (hm : cp ≤ maxLen) :
    RefR O w' { R with bA := some ⟨g, 0, none⟩, bc := cp } (N.spoil s) := by
  have hw := h.below hb
  refine { hw with bad := ?_, bfar := far_new lim n1 _ _ _, badn := mput_nodup h.badn s _ }
  have := Sl.of_blk hg hD (by simp) hc hm
  rw [List.map_map] at this
  exact this

end Go.Proofs.YthiimpleljaimaaGreatDoor

/- The operations of the law: as many as are gone through. -/
namespace Go.Proofs.YthiimpleljaimaaGreatDoor
open Go.RowKit Flo

structure OpV where
  kind : Int
  sector : Int
  offset : Int
  A : Option Addr
  bn : Nat
  bc : Nat
  n : Int
  k : Int
  mask : Nat
def OpV.row (o : OpV) : List Value := [i64 o.kind, i64 o.sector, i64 o.offset, .slice o.A o.bn o.bc, i64 o.n, i64 o.k, bv o.mask]
abbrev OpV.val (o : OpV) : Value := .agg #[i64 o.kind, i64 o.sector, i64 o.offset, .slice o.A o.bn o.bc, i64 o.n, i64 o.k, bv o.mask]
abbrev Ops (w : World) (v : Value) (l : List OpV) : Prop := Sl w 7 v (l.map OpV.row)
def cutGo : Nat → Nat → List Nat → Nat
  | i, _, [] => i
  | i, n, x :: xs => if 60 ≤ i ∨ 6000 < n + min x 90000 then i else cutGo (i + 1) (n + min x 90000) xs
theorem cutGo_le : ∀ (l : List Nat) (i n : Nat), cutGo i n l ≤ i + l.length
  | [], i, n => Nat.le_refl _
  | x :: xs, i, n => by
    unfold cutGo
    split
    · simp
    · have := cutGo_le xs (i + 1) (n + min x 90000)
      simp only [List.length_cons]; omega
theorem cutGo_ge : ∀ (l : List Nat) (i n : Nat), i ≤ cutGo i n l
  | [], i, n => Nat.le_refl _
  | x :: xs, i, n => by
    unfold cutGo
    split
    · exact Nat.le_refl _
    · have := cutGo_ge xs (i + 1) (n + min x 90000)
      omega
/-- What is gone through is short. -/
theorem cutGo_small : ∀ (l : List Nat) (i n j : Nat), j < cutGo i n l - i → ∃ x, l[j]? = some x ∧ x ≤ 6000
  | [], i, n, j, h => by simp [cutGo] at h
  | x :: xs, i, n, j, h => by
    unfold cutGo at h
    split at h
    · omega
    · rename_i hc
      cases j with
      | zero => exact ⟨x, rfl, by omega⟩
      | succ j =>
        have := cutGo_ge xs (i + 1) (n + min x 90000)
        have h2 : j < cutGo (i + 1) (n + min x 90000) xs - (i + 1) := by omega
        simpa using cutGo_small xs (i + 1) _ j h2
theorem cutGo_60 : ∀ (l : List Nat) (i n : Nat), i ≤ 60 → cutGo i n l ≤ 60
  | [], i, n, h => h
  | x :: xs, i, n, h => by
    unfold cutGo
    split
    · exact h
    · rename_i hc
      exact cutGo_60 xs (i + 1) _ (by omega)

theorem cutGo_stop {l : List Nat} {j n x : Nat} (hx : l[j]? = some x) (h : 60 ≤ j ∨ 6000 < n + min x 90000) : cutGo j n (l.drop j) = j := by
  rw [List.drop_eq_getElem_cons (List.getElem?_eq_some_iff.1 hx).1, (List.getElem?_eq_some_iff.1 hx).2]
  unfold cutGo
  rw [if_pos h]
theorem cutGo_next {l : List Nat} {j n x : Nat} (hx : l[j]? = some x) (h : ¬ (60 ≤ j ∨ 6000 < n + min x 90000)) : cutGo j n (l.drop j) = cutGo (j + 1) (n + min x 90000) (l.drop (j + 1)) := by
  rw [List.drop_eq_getElem_cons (List.getElem?_eq_some_iff.1 hx).1, (List.getElem?_eq_some_iff.1 hx).2]
  conv => lhs; unfold cutGo
  rw [if_neg h]
theorem Ops.at {w : World} {A : Option Addr} {n cap : Nat} {l : List OpV} (h : Ops w (.slice A n cap) l) (hp : 0 < l.length) :
    ∃ b off, A = some ⟨b, off, none⟩ ∧ b < w.heap.size ∧ ∀ (i : Nat) (o : OpV), l[i]? = some o → ∀ (j : Nat) (u : Value), o.row[j]? = some u → w.cell? ⟨b, off + i * 7 + j, none⟩ = some u := by
  have hn := h.len
  rw [List.length_map] at hn
  obtain ⟨b, off, hA, hb, hx⟩ := Sl.at h (by omega)
  refine ⟨b, off, hA, hb, fun i o ho j u hj => (hx i o.row (by rw [List.getElem?_map, ho]; rfl)).2 j u hj⟩

end Go.Proofs.YthiimpleljaimaaGreatDoor

/- The walk of NorNil: whatever is asked of a nil device. -/
namespace Go.Proofs.YthiimpleljaimaaGreatDoor
open Go.RowKit Flo

noncomputable def ofPl (a b : Int) : Nat × Nat := if a < 0 ∨ 2147483647 < a ∨ b < 0 ∨ 2147483647 < b then (0, 0) else (near a, near b)
theorem of_any (a b : Int) (w : World) : Gives 118 #[i64 a, i64 b] w (cx (ofPl a b).1 (ofPl a b).2) := by
  unfold ofPl
  split
  · rename_i h; exact of_out a b w h
  · rename_i h; exact of_in a b w (by omega) (by omega) (by omega) (by omega)
end Go.Proofs.YthiimpleljaimaaGreatDoor

