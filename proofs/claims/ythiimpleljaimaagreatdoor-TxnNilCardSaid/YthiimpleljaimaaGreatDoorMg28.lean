/- Packages keys and node: a key's writing, an inode's writing. -/
import Derived.Test.YthiimpleljaimaaGreatDoorMg10
import Derived.Test.YthiimpleljaimaaGreatDoorMg24
import Derived.Test.YthiimpleljaimaaGreatDoorMg3
import Derived.Test.YthiimpleljaimaaGreatDoorMg17
namespace Go.Proofs.YthiimpleljaimaaGreatDoor
open Go Go.RowKit Flo

/-- Bytes in a block as a string. -/
theorem conv_all {w : World} {b cap : Nat} {l : List Nat} {t : TypeId} {f : Nat × Nat} (h : w.heap[b]? = some (.cells (l.map bv).toArray t f)) : (convert 22 9 (.slice (some ⟨b, 0, none⟩) l.length cap)).run Tryz.prog w = .ok (.string (toB l)) w := by
  have := conv_piece (w := w) (b := b) (off := 0) (cap := cap) (l := l) (fun j u hj => by
    rw [Addr.add_lit, Nat.zero_add, cell_blk h]
    simpa using hj) 0 l.length (by omega)
  rw [List.drop_zero, List.take_of_length_le (Nat.le_refl _)] at this
  exact this
def keyL (c n : Nat) : List Nat := c :: be 4 n
theorem keyL_len (c n : Nat) : (keyL c n).length = 5 := by unfold keyL; simp [be_len]
set_option maxHeartbeats 4000000 in
set_option maxRecDepth 100000 in
theorem keysOf_any (c n : Nat) (w : World) (hn : n < 4294967296) : Calls Tryz.prog 106 #[.int .u8 (c : Int), .int .u32 (n : Int)] w fun e w' => ∃ b, e = .returned (.slice (some ⟨b, 0, none⟩) 5 5) ∧ w'.heap[b]? = some (.cells ((keyL c n).map bv).toArray 5 (0, 0)) ∧ Below w.heap.size w w' := by
  have kw : IntKind.u64.wrap (n : Int) = (n : Int) := by rw [IntKind.wrap_u64]; omega
  have hy : Byt (w.alloc (.cells #[bv c] 5)) (.slice (some ⟨w.heap.size, 0, none⟩) 1 1) [c] := Byt.fresh (l := [c]) (blk_new w (.cells ([c].map bv).toArray 5)) (by simp)
  have g := put_any _ 1 1 [c] 4 n (w.alloc (.cells #[bv c] 5)) hy (by decide) (by decide) (by simp)
  unfold Own1 at g
  rw [show ([c] ++ be 4 n).length = 5 by simp [be_len]] at g
  have G := Lib.hid g
  clear hy g
  go_enter Tryz.func106, Tryz.ntmps106
  go_wp2_with fail
  refine G.out.mono ?_; rintro e w1 ⟨rfl, rfl⟩
  go_wp2_with fail
  go_ret
  exact ⟨_, rfl, blk_new1 w _ _, Base.al (Base.al (Below.refl _ _) _) _⟩
def keyI (n : Nat) : ByteArray := toB (keyL 73 n)
def keyE (dir : Nat) (name : ByteArray) : ByteArray := toB (keyL 69 dir) ++ name
set_option maxHeartbeats 4000000 in
set_option maxRecDepth 100000 in
theorem keysInode_any (n : Nat) (w : World) (hn : n < 4294967296) : Makes 73 #[.int .u32 (n : Int)] w (.string (keyI n)) := by
  have G := Lib.hid (keysOf_any 73 n w hn)
  obtain ⟨K, hK⟩ : ∃ K, keyI n = K := ⟨_, rfl⟩
  rw [hK]
  go_enter Tryz.func73, Tryz.ntmps73
  go_wp2_with fail
  refine G.out.mono ?_; rintro e w1 ⟨b, rfl, hb, hb1⟩
  have hc := conv_all (cap := 5) hb
  rw [keyL_len, show toB (keyL 73 n) = K from hK] at hc
  clear hb G
  go_wp2_with fail
  go_ret
  exact ⟨rfl, hb1⟩
set_option maxHeartbeats 4000000 in
set_option maxRecDepth 100000 in
theorem keysEntry_any (n : Nat) (name : ByteArray) (w : World) (hn : n < 4294967296) (hs : name.size ≤ 32) : Makes 82 #[.int .u32 (n : Int), .string name] w (.string (keyE n name)) := by
  have G := Lib.hid (keysOf_any 69 n w hn)
  have t1 : decide ((32 : Int) < (name.size : Int)) = false := decide_eq_false (by omega)
  obtain ⟨K, hK⟩ : ∃ K, toB (keyL 69 n) = K := ⟨_, rfl⟩
  obtain ⟨M, hM⟩ : ∃ M, keyE n name = M := ⟨_, rfl⟩
  have hM' : K ++ name = M := by rw [← hK]; exact hM
  have hKs : K.size = 5 := by rw [← hK]; unfold toB; show (Array.size _) = 5; simp [keyL_len]
  have kov : (9223372036854775807 < K.size + name.size) = False := by simp; omega
  have kov2 : (9223372036854775807 < 5 + name.size) = False := by simp; omega
  rw [hM]
  clear hM
  go_enter Tryz.func82, Tryz.ntmps82
  go_wp2_with fail
  refine G.out.mono ?_; rintro e w1 ⟨b, rfl, hb, hb1⟩
  have hc := conv_all (cap := 5) hb
  rw [keyL_len, hK] at hc
  clear hb G hK hKs
  go_wp2_with fail
  go_ret
  exact ⟨rfl, hb1⟩

theorem idx3_0 (a b c : Value) (w : World) : (Instr.index 216 (.agg #[a, b, c]) (.int .i64 0)).run Tryz.prog w = .ok a w := by kernel_rfl
theorem idx3_1 (a b c : Value) (w : World) : (Instr.index 216 (.agg #[a, b, c]) (.int .i64 1)).run Tryz.prog w = .ok b w := by kernel_rfl
theorem idx3_2 (a b c : Value) (w : World) : (Instr.index 216 (.agg #[a, b, c]) (.int .i64 2)).run Tryz.prog w = .ok c w := by kernel_rfl
def nodeL (k l s p : Nat) : List Nat := [k] ++ be 4 l ++ be 4 s ++ be 4 p
theorem nodeL_len (k l s p : Nat) : (nodeL k l s p).length = 13 := by unfold nodeL; simp [be_len]
abbrev nodeV (k l s p : Nat) : Value := .agg #[.int .u8 (k : Int), .int .u32 (l : Int), .int .u32 (s : Int), .int .u32 (p : Int)]
set_option maxHeartbeats 8000000 in
set_option maxRecDepth 100000 in
theorem nodePut_any (k l s p : Nat) (w : World) (hl : l < 4294967296) (hs : s < 4294967296) (hp : p < 4294967296) : Makes 285 #[nodeV k l s p] w (.string (toB (nodeL k l s p))) := by
  have k1 : IntKind.u64.wrap (l : Int) = (l : Int) := by rw [IntKind.wrap_u64]; omega
  have k2 : IntKind.u64.wrap (s : Int) = (s : Int) := by rw [IntKind.wrap_u64]; omega
  have k3 : IntKind.u64.wrap (p : Int) = (p : Int) := by rw [IntKind.wrap_u64]; omega
  obtain ⟨R, hR⟩ : ∃ R : Nat → List Nat, R = fun i => if i = 0 then [k] else if i = 1 then [k] ++ be 4 l else if i = 2 then [k] ++ be 4 l ++ be 4 s else nodeL k l s p := ⟨_, rfl⟩
  obtain ⟨N, hN⟩ : ∃ N : Nat → Nat, N = fun i => if i = 0 then l else if i = 1 then s else p := ⟨_, rfl⟩
  have hstep : ∀ i, i < 3 → R (i + 1) = R i ++ be 4 (N i) := by
    intro i hi
    rw [hR, hN]
    match i, hi with
    | 0, _ => rfl
    | 1, _ => rfl
    | 2, _ => rfl
  have hlen : ∀ i, i ≤ 3 → (R i).length = 1 + 4 * i := by
    intro i hi
    rw [hR]
    match i, hi with
    | 0, _ => rfl
    | 1, _ => simp [be_len]
    | 2, _ => simp [be_len]
    | 3, _ => exact nodeL_len k l s p
  have GP : ∀ (W : World) (b i : Nat), i < 3 → W.heap[b]? = some (.cells ((R i).map bv).toArray 5 (0, 0)) → Hid (Makes1 157 #[.slice (some ⟨b, 0, none⟩) (1 + 4 * i) (1 + 4 * i), i64 4, .int .u64 (N i : Int)] W (.slice (some ⟨W.heap.size, 0, none⟩) (1 + 4 * (i + 1)) (1 + 4 * (i + 1))) (.cells ((R (i + 1)).map bv).toArray 5)) := fun W b i hi h => Lib.hid (by
    have hy := Byt.fresh h (by rw [hlen i (by omega)]; omega)
    rw [hlen i (by omega)] at hy
    have := put_any (some ⟨b, 0, none⟩) (1 + 4 * i) (1 + 4 * i) (R i) 4 (N i) W hy (by decide) (by decide) (by rw [hlen i (by omega)]; omega)
    unfold Own1 at this
    rw [← hstep i hi, hlen (i + 1) (by omega)] at this
    exact this)
  have hR0 : R 0 = [k] := by rw [hR]; rfl
  have hR3 : R 3 = nodeL k l s p := by rw [hR]; rfl
  have hN0 : N 0 = l := by rw [hN]; rfl
  have hN1 : N 1 = s := by rw [hN]; rfl
  have hN2 : N 2 = p := by rw [hN]; rfl
  have HR0 := Lib.hid hR0
  have HR3 := Lib.hid hR3
  have HN := Lib.hid (And.intro hN0 (And.intro hN1 hN2))
  have HL := Lib.hid hlen
  obtain ⟨K, hK⟩ : ∃ K, toB (nodeL k l s p) = K := ⟨_, rfl⟩
  have HK := Lib.hid hK
  rw [hK]
  clear hR hN hstep hlen hR0 hR3 hN0 hN1 hN2 hl hs hp hK
  go_enter Tryz.func285, Tryz.ntmps285
  go_wp2_with fail
  go_loopw [3, 16] (fun bvv iv wr => ∃ (i b : Nat), i ≤ 3 ∧ iv = .int .i64 i ∧ bvv = .slice (some ⟨b, 0, none⟩) (1 + 4 * i) (1 + 4 * i) ∧ wr.heap[b]? = some (.cells ((R i).map bv).toArray 5 (0, 0)) ∧ Below w.heap.size w wr) (fun _ iv _ => 3 - (intOf iv).toNat)
  case atStart =>
    refine ⟨0, _, by decide, rfl, rfl, ?_, Base.al (Base.al (Below.refl _ _) _) _⟩
    rw [HR0.out]
    exact blk_new1 w _ _
  case round =>
    obtain ⟨i, b, hi, rfl, rfl, hbk, hb⟩ := hrel
    obtain rfl | rfl | rfl | rfl : i = 0 ∨ i = 1 ∨ i = 2 ∨ i = 3 := by omega
    · have G := GP wr b 0 (by decide) hbk
      have ix := fun a b c => idx3_0 a b c wr
      rw [HN.out.1] at G
      clear GP hbk
      go_wp2_with fail
      refine G.out.mono ?_; rintro e w1 ⟨rfl, rfl⟩
      go_wp2_with fail
      exact ⟨⟨1, _, by decide, rfl, rfl, blk_new _ _, Base.al hb _⟩, by simp [intOf]⟩
    · have G := GP wr b 1 (by decide) hbk
      have ix := fun a b c => idx3_1 a b c wr
      rw [HN.out.2.1] at G
      clear GP hbk
      go_wp2_with fail
      refine G.out.mono ?_; rintro e w1 ⟨rfl, rfl⟩
      go_wp2_with fail
      exact ⟨⟨2, _, by decide, rfl, rfl, blk_new _ _, Base.al hb _⟩, by simp [intOf]⟩
    · have G := GP wr b 2 (by decide) hbk
      have ix := fun a b c => idx3_2 a b c wr
      rw [HN.out.2.2] at G
      clear GP hbk
      go_wp2_with fail
      refine G.out.mono ?_; rintro e w1 ⟨rfl, rfl⟩
      go_wp2_with fail
      exact ⟨⟨3, _, by decide, rfl, rfl, blk_new _ _, Base.al hb _⟩, by simp [intOf]⟩
    · have hc := conv_all (cap := 13) hbk
      rw [HR3.out, nodeL_len, HK.out] at hc
      clear GP hbk
      go_wp2_with fail
      go_ret
      exact ⟨rfl, hb⟩
end Go.Proofs.YthiimpleljaimaaGreatDoor

/- Packages node and walk: New, Root, Load of a root that isn't written, Child of none, Save, Hang. -/
namespace Go.Proofs.YthiimpleljaimaaGreatDoor
open Go Go.RowKit Flo
attribute [local go_sem] run_store_complex

set_option maxHeartbeats 4000000 in
set_option maxRecDepth 100000 in
theorem nodeNew_dir (p : Nat) (w : World) : Makes 107 #[.int .u8 2, .int .u32 (p : Int)] w (nodeV 2 2 0 p) := by
  go_enter Tryz.func107, Tryz.ntmps107
  go_wp2_with fail
  exact bodyPost_ret (v := nodeV 2 2 0 p) (by simp [results, Tryz.results107, go_sem]) rfl ⟨rfl, Base.al (Below.refl _ _) _⟩
set_option maxHeartbeats 4000000 in
set_option maxRecDepth 100000 in
theorem nodeNew_file (p : Nat) (w : World) : Makes 107 #[.int .u8 1, .int .u32 (p : Int)] w (nodeV 1 1 0 0) := by
  go_enter Tryz.func107, Tryz.ntmps107
  go_wp2_with fail
  exact bodyPost_ret (v := nodeV 1 1 0 0) (by simp [results, Tryz.results107, go_sem]) rfl ⟨rfl, Base.al (Below.refl _ _) _⟩
set_option maxHeartbeats 4000000 in
set_option maxRecDepth 100000 in
theorem nodeRoot_any (w : World) : Makes 74 #[] w (nodeV 2 2 0 1) := by
  have G := fun W => Lib.hid (nodeNew_dir 1 W)
  go_enter Tryz.func74, Tryz.ntmps74
  go_wp2_with fail
  refine (G _).out.mono ?_; rintro e w1 ⟨rfl, hb⟩
  have hB := blk_below (blk_new w (.cells #[.int .u8 0, .int .u32 0, .int .u32 0, .int .u32 0] 42)) hb
  have hb2 := Base.tr (Base.al (Below.refl _ w) (.cells #[.int .u8 0, .int .u32 0, .int .u32 0, .int .u32 0] 42)) hb
  have z0 := cell_blk hB 0
  have z1 := cell_blk hB 1
  have z2 := cell_blk hB 2
  have z3 := cell_blk hB 3
  have fz := fun o => frozen_blk hB o
  have hlt := (Array.getElem?_eq_some_iff.1 hB).1
  have HB := Lib.hid hB
  clear hB hb
  go_wp2_with fail
  have hs : (((w1.setCell ⟨w.heap.size, 0, none⟩ (.int .u8 2)).setCell ⟨w.heap.size, 1, none⟩ (.int .u32 2)).setCell ⟨w.heap.size, 2, none⟩ (.int .u32 0)).setCell ⟨w.heap.size, 3, none⟩ (.int .u32 1) = sets w1 w.heap.size 0 [.int .u8 2, .int .u32 2, .int .u32 0, .int .u32 1] := rfl
  rw [hs]
  have hB2 := sets_at HB.out [.int .u8 2, .int .u32 2, .int .u32 0, .int .u32 1] rfl
  have hb3 := sets_below (Nat.le_refl _) [.int .u8 2, .int .u32 2, .int .u32 0, .int .u32 1] w1 0 hb2
  generalize sets w1 w.heap.size 0 [.int .u8 2, .int .u32 2, .int .u32 0, .int .u32 1] = w2 at *
  have c0 : w2.cell? ⟨w.heap.size, 0, none⟩ = some (.int .u8 2) := cell_blk hB2 0
  have c1 : w2.cell? ⟨w.heap.size, 1, none⟩ = some (.int .u32 2) := cell_blk hB2 1
  have c2 : w2.cell? ⟨w.heap.size, 2, none⟩ = some (.int .u32 0) := cell_blk hB2 2
  have c3 : w2.cell? ⟨w.heap.size, 3, none⟩ = some (.int .u32 1) := cell_blk hB2 3
  exact bodyPost_ret (v := nodeV 2 2 0 1) (by simp [results, Tryz.results74, go_sem, c0, c1, c2, c3]) rfl ⟨rfl, hb3⟩

theorem Out.of_sets {Q : Nat → Prop} (w : World) {g : Nat} (hg : Q g) : ∀ (vs : List Value) (k : Nat), Out Q w (sets w g k vs) := by
  have key : ∀ (vs : List Value) (W : World) (k : Nat), Out Q w W → Out Q w (sets W g k vs) := by
    intro vs
    induction vs with
    | nil => intro W k h; exact h
    | cons v vs ih => intro W k h; exact ih _ _ (h.set hg k v)
  exact fun vs k => key vs w k (Out.refl _ _)
/-- A block of another type is written. -/
theorem VwR.sets {w : World} {B : Nat} {V : VwV} (h : VwR w B V) {g : Nat} {cs : Array Value} {t : TypeId} {f : Nat × Nat} (hg : w.heap[g]? = some (.cells cs t f)) (t1 : t ≠ 101) (t2 : t ≠ 156) (t3 : t ≠ 146) (vs : List Value) (k : Nat) : VwR (sets w g k vs) B V :=
  h.keep fun g' cs' t' f' _ hh hx => sets_old (by
    rcases hh with rfl | rfl | rfl
    · exact ne_type hx hg (Ne.symm t1)
    · exact ne_type hx hg (Ne.symm t2)
    · have := ne_type h.box hg (Ne.symm t3)
      exact this) vs _ k hx
set_option maxHeartbeats 8000000 in
set_option maxRecDepth 100000 in
theorem loadRoot {w : World} {B : Nat} {V : VwV} (h : VwR w B V) (hn : getT (keyI 1) V.shown = none) (hs : V.reads.size ≤ 500000) : Calls Tryz.prog 50 #[V.ptr, .int .u32 1] w fun e w' => e = .returned (.tuple #[nodeV 2 2 0 1, .bool true]) ∧ ∃ rv, VwR w' B { V with reads := setT (keyI 1) { data := #[] } V.reads, readsV := rv } ∧ Out (· = V.b) w w' := by
  have GK := fun W => Lib.hid (keysInode_any 1 W (by decide))
  have GG := fun W (hb : Below w.heap.size w W) => Lib.hid (vwGet_any (h.below hb) (keyI 1) hs)
  unfold getV at GG
  simp only [hn] at GG
  have GR := fun W => Lib.hid (nodeRoot_any W)
  have hlt := h.lt
  generalize keyI 1 = ky at *
  clear h hn hs
  go_enter Tryz.func50, Tryz.ntmps50
  go_wp2_with fail
  refine (GK _).out.mono ?_; rintro e w1 ⟨rfl, hb1⟩
  have hB1 := blk_below (blk_new w (.cells #[.int .u8 0, .int .u32 0, .int .u32 0, .int .u32 0] 42)) hb1
  have hb2 := Base.tr (Base.al (Below.refl _ w) (.cells #[.int .u8 0, .int .u32 0, .int .u32 0, .int .u32 0] 42)) hb1
  have GG1 := GG _ hb2
  clear GK GG hb1
  go_wp2_with fail
  refine GG1.out.mono ?_; rintro e w2 ⟨rfl, rv, hv2, ho2⟩
  have hB2 := ho2.blk hB1 (by omega)
  have HV2 := Lib.hid hv2
  have HO2 := Lib.hid ((Out.of_below (O := (· = V.b)) hb2).trans ho2)
  have HB2 := Lib.hid hB2
  clear hv2 ho2 hB1 hB2 hb2 GG1
  go_wp2_with fail
  refine (GR _).out.mono ?_; rintro e w3 ⟨rfl, hb3⟩
  have hB3 := blk_below HB2.out hb3
  have z0 := cell_blk hB3 0
  have z1 := cell_blk hB3 1
  have z2 := cell_blk hB3 2
  have z3 := cell_blk hB3 3
  have fz := fun o => frozen_blk hB3 o
  have hl3 := (Array.getElem?_eq_some_iff.1 hB3).1
  have HB3 := Lib.hid hB3
  have HV3 := Lib.hid (HV2.out.below hb3)
  have HO3 := Lib.hid (HO2.out.then hb3)
  clear hB3 hb3 HB2 HV2 HO2
  go_wp2_with fail
  have hs : (((w3.setCell ⟨w.heap.size, 0, none⟩ (.int .u8 2)).setCell ⟨w.heap.size, 1, none⟩ (.int .u32 2)).setCell ⟨w.heap.size, 2, none⟩ (.int .u32 0)).setCell ⟨w.heap.size, 3, none⟩ (.int .u32 1) = Go.Proofs.YthiimpleljaimaaGreatDoor.sets w3 w.heap.size 0 [.int .u8 2, .int .u32 2, .int .u32 0, .int .u32 1] := rfl
  rw [hs]
  have hB4 := sets_at HB3.out [.int .u8 2, .int .u32 2, .int .u32 0, .int .u32 1] rfl
  have hV4 := HV3.out.sets HB3.out (by decide) (by decide) (by decide) [.int .u8 2, .int .u32 2, .int .u32 0, .int .u32 1] 0
  have hO4 : Out (· = V.b) w (Go.Proofs.YthiimpleljaimaaGreatDoor.sets w3 w.heap.size 0 [.int .u8 2, .int .u32 2, .int .u32 0, .int .u32 1]) := outTr HO3.out (Out.of_sets (Q := (· = w.heap.size)) w3 rfl _ 0) (fun k hk => .inr (by rw [hk]; exact Nat.le_refl _))
  generalize Go.Proofs.YthiimpleljaimaaGreatDoor.sets w3 w.heap.size 0 [.int .u8 2, .int .u32 2, .int .u32 0, .int .u32 1] = w4 at *
  have c0 : w4.cell? ⟨w.heap.size, 0, none⟩ = some (.int .u8 2) := cell_blk hB4 0
  have c1 : w4.cell? ⟨w.heap.size, 1, none⟩ = some (.int .u32 2) := cell_blk hB4 1
  have c2 : w4.cell? ⟨w.heap.size, 2, none⟩ = some (.int .u32 0) := cell_blk hB4 2
  have c3 : w4.cell? ⟨w.heap.size, 3, none⟩ = some (.int .u32 1) := cell_blk hB4 3
  exact bodyPost_ret (v := .tuple #[nodeV 2 2 0 1, .bool true]) (by simp [results, Tryz.results50, go_sem, c0, c1, c2, c3]) rfl ⟨rfl, rv, hV4, hO4⟩

set_option maxHeartbeats 8000000 in
set_option maxRecDepth 100000 in
theorem childNone {w : World} {B : Nat} {V : VwV} (h : VwR w B V) (dir : Nat) (name : ByteArray) (hd : dir < 4294967296) (hsz : name.size ≤ 32) (hn : getT (keyE dir name) V.shown = none) (hs : V.reads.size ≤ 500000) : Calls Tryz.prog 53 #[V.ptr, .int .u32 (dir : Int), .string name] w fun e w' => e = .returned (.tuple #[.int .u32 0, .bool false]) ∧ ∃ rv, VwR w' B { V with reads := setT (keyE dir name) { data := #[] } V.reads, readsV := rv } ∧ Out (· = V.b) w w' := by
  have GK := fun W => Lib.hid (keysEntry_any dir name W hd hsz)
  have GG := fun W (hb : Below w.heap.size w W) => Lib.hid (vwGet_any (h.below hb) (keyE dir name) hs)
  unfold getV at GG
  simp only [hn] at GG
  have hlt := h.lt
  generalize keyE dir name = ky at *
  clear h hn hs
  go_enter Tryz.func53, Tryz.ntmps53
  go_wp2_with fail
  refine (GK _).out.mono ?_; rintro e w1 ⟨rfl, hb1⟩
  have GG1 := GG _ hb1
  go_wp2_with fail
  refine GG1.out.mono ?_; rintro e w2 ⟨rfl, rv, hv2, ho2⟩
  have HV2 := Lib.hid hv2
  have HO2 := Lib.hid ((Out.of_below (O := (· = V.b)) hb1).trans ho2)
  clear hv2 ho2 hb1 GG1 GG GK
  obtain ⟨cc, w3, hcv, hyb, hb3⟩ := conv_bytesK [] (fun b hb => by cases hb) (by decide) w2
  have hcv' : (convert 9 22 (.string { data := #[] })).run Tryz.prog w2 = .ok (.slice (some ⟨w2.heap.size, 0, none⟩) 0 cc) w3 := hcv
  have GP := Lib.hid (pkGet_any _ 0 cc [] 0 4 w3 hyb (fun b hb => by cases hb) (by decide) (by decide) (by decide) (by decide))
  rw [show pGet [] 0 4 = (0, 0, 3) from rfl] at GP
  have HV3 := Lib.hid (HV2.out.below hb3)
  have HO3 := Lib.hid (HO2.out.then hb3)
  clear hcv hyb HV2 HO2
  go_wp2_with fail
  refine GP.out.mono ?_; rintro e w4 ⟨rfl, rfl⟩
  clear hcv'
  go_wp2_with fail
  go_ret2
  exact ⟨rfl, rv, HV3.out, HO3.out⟩
end Go.Proofs.YthiimpleljaimaaGreatDoor

/- Package walk: Save, Hang. -/
namespace Go.Proofs.YthiimpleljaimaaGreatDoor
open Go Go.RowKit Flo
attribute [local go_sem] run_store_complex

/-- What is written of a view. -/
abbrev VwV.put (V : VwV) (key value : ByteArray) (wv sv : Value) : VwV := { V with writes := setT key (markB ++ value) V.writes, writesV := wv, shown := setT key value V.shown, shownV := sv }
set_option maxHeartbeats 8000000 in
set_option maxRecDepth 100000 in
theorem saveNew {w : World} {B : Nat} {V : VwV} (h : VwR w B V) (ino k l s p : Nat) (hi : ino < 4294967296) (hl : l < 4294967296) (hs : s < 4294967296) (hp : p < 4294967296) (hr : vwRoomB V (keyI ino) = true) (hs1 : V.writes.size ≤ 500000) (hs2 : V.shown.size ≤ 500000) :
    Calls Tryz.prog 259 #[V.ptr, .int .u32 (ino : Int), nodeV k l s p] w fun e w' => e = .returned (.bool true) ∧ ∃ wv sv, VwR w' B (V.put (keyI ino) (toB (nodeL k l s p)) wv sv) ∧ Out (· = V.b) w w' := by
  have GK := fun W => Lib.hid (keysInode_any ino W hi)
  have GN := fun W => Lib.hid (nodePut_any k l s p W hl hs hp)
  have hvs : (toB (nodeL k l s p)).size ≤ 1000000 := by unfold toB; show Array.size _ ≤ _; simp [nodeL_len]
  have GS := fun W (hb : Below w.heap.size w W) => Lib.hid (vwSet_any (h.below hb) (keyI ino) (toB (nodeL k l s p)) hr hs1 hs2 hvs)
  have hlt := h.lt
  generalize keyI ino = ky at *
  generalize toB (nodeL k l s p) = vl at *
  clear h hr hs1 hs2 hvs hl hs hp
  go_enter Tryz.func259, Tryz.ntmps259
  go_wp2_with fail
  have hb0 := Base.al (Below.refl _ w) (.cells #[.int .u8 (k : Int), .int .u32 (l : Int), .int .u32 (s : Int), .int .u32 (p : Int)] 42)
  have hbx := blk_new w (.cells #[.int .u8 (k : Int), .int .u32 (l : Int), .int .u32 (s : Int), .int .u32 (p : Int)] 42)
  generalize w.alloc (.cells #[.int .u8 (k : Int), .int .u32 (l : Int), .int .u32 (s : Int), .int .u32 (p : Int)] 42) = w1 at *
  have hl1 := (Array.getElem?_eq_some_iff.1 hbx).1
  have hnb : ¬ w.heap.size = V.b := by omega
  have q0 := fun q : OutOf (· = V.b) w1 => out_rd (o := 0) hl1 hnb (cell_blk hbx 0) q
  have q1 := fun q : OutOf (· = V.b) w1 => out_rd (o := 1) hl1 hnb (cell_blk hbx 1) q
  have q2 := fun q : OutOf (· = V.b) w1 => out_rd (o := 2) hl1 hnb (cell_blk hbx 2) q
  have q3 := fun q : OutOf (· = V.b) w1 => out_rd (o := 3) hl1 hnb (cell_blk hbx 3) q
  simp at q0 q1 q2 q3
  clear hbx
  refine wp_region_po (fun w' => ∃ p : OutOf (· = V.b) w1, w' = p.v) 7 [2, 4, 5] (by kernel_rfl) (by kernel_rfl) ⟨⟨_, Out.of_below (Base.dr (Below.refl _ _))⟩, rfl⟩ ?_
  simp only [List.take_succ_cons, List.take_zero, List.drop_succ_cons, List.drop_zero]
  have on0 := @on_rd0; have on1 := @on_rd1; have on2 := @on_rd2; have on3 := @on_new1; have on4 := @on_new2; have on5 := @gr_rd0
  repeat ((with_reducible refine seq_read ?_ ?_); (focus rfl); (intro K hK); (unfold readsAt); go_simp; first | ((with_reducible refine hK _ ?_); clear hK K) | (rw [if_neg (by intro h; cases h)]; (with_reducible refine hK _ ?_); clear hK K))
  refine seq_eff (by rfl) (by first | rfl | go_simp) ?_
  intro K hK
  unfold effAt2
  go_simp
  refine ⟨rfl, (GK _).out.mono ?_⟩; rintro e w2 ⟨rfl, hb2⟩
  have hb3 := Base.tr (Base.dr (Below.refl _ w1)) hb2
  refine ⟨_, rfl, ⟨⟨_, Out.of_below hb3⟩, rfl⟩, hK _ _ ?_⟩
  clear hK K
  repeat ((with_reducible refine seq_read ?_ ?_); (focus rfl); (intro K hK); (unfold readsAt); go_simp; first | ((with_reducible refine hK _ ?_); clear hK K) | (rw [if_neg (by intro h; cases h)]; (with_reducible refine hK _ ?_); clear hK K))
  refine seq_eff (by rfl) (by first | rfl | go_simp) ?_
  intro K hK
  unfold effAt2
  go_simp
  refine ⟨rfl, (GN _).out.mono ?_⟩; rintro e w3 ⟨rfl, hb4⟩
  have hb5 := Base.tr hb3 hb4
  refine ⟨_, rfl, ⟨⟨_, Out.of_below hb5⟩, rfl⟩, hK _ _ ?_⟩
  clear hK K
  repeat ((with_reducible refine seq_read ?_ ?_); (focus rfl); (intro K hK); (unfold readsAt); go_simp; first | ((with_reducible refine hK _ ?_); clear hK K) | (rw [if_neg (by intro h; cases h)]; (with_reducible refine hK _ ?_); clear hK K))
  refine seq_eff (by rfl) (by first | rfl | go_simp) ?_
  intro K hK
  unfold effAt2
  go_simp
  refine ⟨rfl, (GS _ (Base.tr hb0 hb5)).out.mono ?_⟩; rintro e w4 ⟨rfl, wv, sv, hv, ho⟩
  refine ⟨_, rfl, ⟨⟨_, (Out.of_below (O := (· = V.b)) hb5).trans ho⟩, rfl⟩, hK _ _ ?_⟩
  clear hK K
  repeat ((with_reducible refine seq_read ?_ ?_); (focus rfl); (intro K hK); (unfold readsAt); go_simp; first | ((with_reducible refine hK _ ?_); clear hK K) | (rw [if_neg (by intro h; cases h)]; (with_reducible refine hK _ ?_); clear hK K))
  clear on0 on1 on2 on3 on4 on5
  with_reducible refine seq_nil ?_
  have HV := Lib.hid hv
  have HO := Lib.hid ((Out.of_below (O := (· = V.b)) (Base.tr hb0 hb5)).trans ho)
  clear hv ho q0 q1 q2 q3 GK GN GS
  go_wp2_with fail
  go_ret
  exact ⟨rfl, wv, sv, HV.out, HO.out⟩
set_option maxHeartbeats 8000000 in
set_option maxRecDepth 100000 in
theorem hangNew {w : World} {B : Nat} {V : VwV} (h : VwR w B V) (dir : Nat) (name : ByteArray) (ino : Nat) (hd : dir < 4294967296) (hi : ino < 4294967296) (hn : name.size ≤ 32) (hr : vwRoomB V (keyE dir name) = true) (hs1 : V.writes.size ≤ 500000) (hs2 : V.shown.size ≤ 500000) :
    Calls Tryz.prog 260 #[V.ptr, .int .u32 (dir : Int), .string name, .int .u32 (ino : Int)] w fun e w' => e = .returned (.bool true) ∧ ∃ wv sv, VwR w' B (V.put (keyE dir name) (toB (be 4 ino)) wv sv) ∧ Out (· = V.b) w w' := by
  have kw : IntKind.u64.wrap (ino : Int) = (ino : Int) := by rw [IntKind.wrap_u64]; omega
  have GK := fun W => Lib.hid (keysEntry_any dir name W hd hn)
  have GP : ∀ W, Hid (Makes1 157 #[.slice none 0 0, i64 4, .int .u64 (ino : Int)] W (.slice (some ⟨W.heap.size, 0, none⟩) 4 4) (.cells ((be 4 ino).map bv).toArray 5)) := fun W => Lib.hid (by
    have := put_any none 0 0 [] 4 ino W (byt_nil W) (by decide) (by decide) (by decide)
    unfold Own1 at this
    rw [List.nil_append, show (be 4 ino).length = 4 by simp [be_len]] at this
    exact this)
  have hvs : (toB (be 4 ino)).size ≤ 1000000 := by unfold toB; show Array.size _ ≤ _; simp [be_len]
  have GS := fun W (hb : Below w.heap.size w W) => Lib.hid (vwSet_any (h.below hb) (keyE dir name) (toB (be 4 ino)) hr hs1 hs2 hvs)
  have hlt := h.lt
  have CV : ∀ W b, W.heap[b]? = some (.cells ((be 4 ino).map bv).toArray 5 (0, 0)) → (convert 22 9 (.slice (some ⟨b, 0, none⟩) 4 4)).run Tryz.prog W = .ok (.string (toB (be 4 ino))) W := fun W b hb => by
    have := conv_all (cap := 4) hb
    rw [show (be 4 ino).length = 4 by simp [be_len]] at this
    exact this
  generalize keyE dir name = ky at *
  generalize toB (be 4 ino) = vl at *
  generalize (be 4 ino).map bv = bl at *
  clear h hr hs1 hs2 hvs
  go_enter Tryz.func260, Tryz.ntmps260
  go_wp2_with fail
  refine (GK _).out.mono ?_; rintro e w1 ⟨rfl, hb1⟩
  have hb2 := Base.al hb1 (.cells bl.toArray 5)
  have hcv := CV _ _ (blk_new w1 (.cells bl.toArray 5))
  go_wp2_with fail
  refine (GP _).out.mono ?_; rintro e w2 ⟨rfl, rfl⟩
  go_wp2_with fail
  refine (GS _ hb2).out.mono ?_; rintro e w4 ⟨rfl, wv, sv, hv, ho⟩
  have HV := Lib.hid hv
  have HO := Lib.hid ((Out.of_below (O := (· = V.b)) hb2).trans ho)
  clear hv ho GK GP GS CV hcv
  go_wp2_with fail
  go_ret
  exact ⟨rfl, wv, sv, HV.out, HO.out⟩
end Go.Proofs.YthiimpleljaimaaGreatDoor

