/- head.Of, head.Class, and the reference's. -/
import Derived.Test.YteieaelinkdahaaDoorSumG
import Derived.Test.YteieaelinkdahaaDoorPackR
import Derived.Test.YteieaelinkdahaaDoorPh2
import Derived.Test.YteieaelinkdahaaDoorCopyF
import Derived.Test.YteieaelinkdahaaDoorEnters
import Derived.Test.YteieaelinkdahaaDoorScanP
import Derived.Test.YteieaelinkdahaaDoorSets
import Derived.Lib.SlBytesConst
namespace Go.Proofs.YteieaelinkdahaaDoor
open Go.RowKit

/-- Where is the first byte that isn't 255? -/
theorem ret_int0 {a b : Int} (h : a = b) : Ending.returned (i64 a) = Ending.returned (i64 b) := by rw [h]
def ffAt (l : List Nat) : Int := match l.findIdx? (fun x => !(x == 255)) with | some i => (i : Int) | none => -1
theorem ffAt_none {l : List Nat} (h : blankB l = true) : ffAt l = -1 := by
  unfold ffAt
  rw [List.findIdx?_eq_none_iff.2]
  intro x hx
  unfold blankB at h
  rw [List.all_eq_true] at h
  rw [h x hx]; rfl
theorem ffAt_some {l : List Nat} {k x : Nat} (hx : l[k]? = some x) (ha : blankB (l.take k) = true) (hne : x ≠ 255) : ffAt l = k := by
  obtain ⟨hk, rfl⟩ := List.getElem?_eq_some_iff.1 hx
  have : l.findIdx? (fun x => !(x == 255)) = some k := by
    rw [List.findIdx?_eq_some_iff_getElem]
    refine ⟨hk, by rw [beq_eq_false_iff_ne.2 hne]; rfl, fun j hj => ?_⟩
    unfold blankB at ha
    rw [List.all_eq_true] at ha
    have := ha l[j] (List.mem_take_iff_getElem.2 ⟨j, by omega, rfl⟩)
    rw [this]; decide
  unfold ffAt
  rw [this]
theorem blankB_take {l : List Nat} {k : Nat} (h : l[k]? = some 255) (ha : blankB (l.take k) = true) : blankB (l.take (k + 1)) = true := by
  obtain ⟨hk, h2⟩ := List.getElem?_eq_some_iff.1 h
  unfold blankB at *
  rw [List.take_succ_eq_append_getElem hk, List.all_append, ha, h2]
  rfl
theorem blankB_not {l : List Nat} {k x : Nat} (hx : l[k]? = some x) (hne : x ≠ 255) : blankB l = false := by
  unfold blankB
  rw [List.all_eq_false]
  exact ⟨x, List.mem_of_getElem? hx, by rw [beq_eq_false_iff_ne.2 hne]; decide⟩

set_option maxHeartbeats 1000000 in
theorem notFF_any (c : Nat) (w : World) : Gives 26 #[bv c] w (.bool (!((c : Int) == 255))) := by
  go_enter Tryd.func26, Tryd.ntmps26
  go_wp2_with fail
  go_ret
  exact ⟨rfl, rfl⟩
theorem entersFF : Enters 26 := fun _ _ => by kernel_rfl

set_option maxHeartbeats 1000000 in
set_option maxRecDepth 100000 in
theorem indexFF_any (A : Option Addr) (n cap : Nat) (l : List Nat) (w : World) (h : Byt w (.slice A n cap) l) :
    Gives 48 #[.slice A n cap, .func (.func 26) #[] #[]] w (i64 (ffAt l)) := by
  have hn := h.len
  rw [List.length_map] at hn
  subst hn
  have hm := h.max
  rw [List.length_map] at hm
  unfold maxLen at hm
  have HF := Lib.hid entersFF
  have hf := entersFF
  have hnone := Lib.hid (@ffAt_none l)
  have hsome := fun k x hx => Lib.hid (@ffAt_some l k x hx)
  have htake := fun k hx => Lib.hid (@blankB_take l k hx)
  go_enter Tryd.func48, Tryd.ntmps48
  go_wp2_with fail
  go_loopw [8] (fun i wr => ∃ k : Nat, k ≤ l.length ∧ i = .int .i64 k ∧ Hid (blankB (l.take k) = true) ∧ wr = w) (fun i _ => l.length - (intOf i).toNat)
  case atStart => exact ⟨0, Nat.zero_le _, rfl, Lib.hid rfl, rfl⟩
  case round =>
    obtain ⟨k, hk, rfl, ha, rfl⟩ := hrel
    by_cases hlt : k < l.length
    · obtain ⟨b, off, rfl, hbs, hc⟩ := Byt.cell h (by omega)
      obtain ⟨x, hx0⟩ : ∃ x, l[k]? = some x := ⟨_, List.getElem?_eq_getElem hlt⟩
      have c0 := hc k (bv x) (by rw [List.getElem?_map, hx0]; rfl)
      rw [Addr.add_lit] at c0
      have hp := fun W => notFF_any x W
      by_cases hff : x = 255
      · subst hff
        have HT := htake k hx0
        rw [show (!(((255 : Nat) : Int) == 255)) = false from rfl] at hp
        have HP := fun W => Lib.hid (hp W)
        clear hc hp hx0
        go_wp2_with fail
        refine (HP _).out.mono ?_; rintro e w1 ⟨rfl, rfl⟩
        go_wp2_with fail
        exact ⟨⟨k + 1, by omega, by go_num, Lib.hid (HT.out ha.out), trivial⟩, by simp [intOf]; omega⟩
      · have HS := hsome k x hx0
        have HX := Lib.hid hff
        rw [show (!((x : Int) == 255)) = true from by rw [beq_eq_false_iff_ne.2 (by omega)]; rfl] at hp
        have HP := fun W => Lib.hid (hp W)
        clear hc hp hx0
        go_wp2_with fail
        refine (HP _).out.mono ?_; rintro e w1 ⟨rfl, rfl⟩
        go_wp2_with fail
        go_ret
        exact ⟨ret_int0 (HS.out ha.out HX.out).symm, rfl⟩
    · have hke : k = l.length := by omega
      subst hke
      go_wp2_with fail
      go_ret
      exact ⟨ret_int0 (hnone.out (by have := ha.out; rwa [List.take_length] at this)).symm, rfl⟩

set_option maxHeartbeats 1000000 in
set_option maxRecDepth 100000 in
theorem containsFF_any (A : Option Addr) (n cap : Nat) (l : List Nat) (w : World) (h : Byt w (.slice A n cap) l) :
    Gives 25 #[.slice A n cap, .func (.func 26) #[] #[]] w (.bool (!blankB l)) := by
  have G := fun W (hW : W = w) => Lib.hid (indexFF_any A n cap l W (by rw [hW]; exact h))
  have hv : (decide (0 ≤ ffAt l)) = !blankB l := by
    cases hb : blankB l with
    | true => rw [ffAt_none hb]; rfl
    | false =>
      unfold ffAt
      cases hi : l.findIdx? (fun x => !(x == 255)) with
      | some i => simp
      | none =>
        rw [List.findIdx?_eq_none_iff] at hi
        exfalso
        have : blankB l = true := by
          unfold blankB
          rw [List.all_eq_true]
          intro x hx
          have := hi x hx
          revert this
          cases (x == 255) <;> simp
        rw [hb] at this; cases this
  rw [← hv]
  clear hv
  go_enter Tryd.func25, Tryd.ntmps25
  go_wp2_with fail
  refine (G _ rfl).out.mono ?_; rintro e w1 ⟨rfl, rfl⟩
  go_wp2_with fail
  go_ret
  exact ⟨rfl, rfl⟩
end Go.Proofs.YteieaelinkdahaaDoor

/- head.Of. -/
namespace Go.Proofs.YteieaelinkdahaaDoor
open Go.RowKit

theorem eight {α : Type} {l : List α} (h : l.length = 8) : ∃ a b c d e f g i, l = [a, b, c, d, e, f, g, i] := by
  match l, h with
  | [a, b, c, d, e, f, g, i], _ => exact ⟨a, b, c, d, e, f, g, i, rfl⟩
theorem sumB_lt32 (l : List Nat) : sumB l < 2 ^ 32 := by
  have h := adler_lt (1, 0) l
  unfold sumB sumNum
  omega
abbrev arr8 (a b c d e f g i : Nat) : Array Value := #[bv a, bv b, bv c, bv d, bv e, bv f, bv g, bv i]
/-- A literal's bytes, marked. -/
theorem conv_mark (w : World) (C : Array Value) (n c : Nat) :
    (convert 24 24 (.slice (some ⟨w.heap.size, 0, none⟩) n c)).run Tryd.prog (w.alloc (.cells C 5)).drew = .ok (.slice (some ⟨w.heap.size, 0, none⟩) n c) (w.alloc (.cells C 5 (C.size, C.size + 1))).drew :=
  Lib.run_convert_bytes_const w.drew _ _ C n c Tryd.underlying24 Tryd.underlying5
theorem Byt.blk {w : World} {g : Nat} {l : List Nat} {t : TypeId} {fr : Nat × Nat} (h : w.heap[g]? = some (.cells (l.map bv).toArray t fr)) (hm : l.length ≤ maxLen) : Byt w (.slice (some ⟨g, 0, none⟩) l.length l.length) l := by
  refine ⟨some ⟨g, 0, none⟩, l.length, by rw [List.length_map], by rw [List.length_map]; exact Nat.le_refl _, hm, (fun h => by cases h), fun _ => ⟨g, 0, rfl, (Array.getElem?_eq_some_iff.1 h).1, ?_⟩⟩
  intro i x hi
  rw [List.getElem?_map] at hi
  obtain ⟨y, hy, rfl⟩ := Option.map_eq_some_iff.1 hi
  refine ⟨rfl, fun j u hj => ?_⟩
  cases j with
  | succ j => cases hj
  | zero =>
    have hu : u = bv y := by simpa using hj.symm
    subst hu
    rw [cell_of_row w g _ _ t fr h, show 0 + i * 1 + 0 = i by omega]
    simp [hy]

set_option maxHeartbeats 2000000 in
set_option maxRecDepth 100000 in
theorem headOf_no (s z : Int) (w : World) (h : geoB s z = false) : Makes 24 #[geo s z] w (.agg (arr8 0 0 0 0 0 0 0 0)) := by
  have G0 := fun W => placeMay_any s z W
  rw [h] at G0
  have HG0 := fun W => Lib.hid (G0 W)
  clear h G0
  go_enter Tryd.func24, Tryd.ntmps24
  go_wp2_with fail
  refine (HG0 _).out.mono ?_; rintro e x1 ⟨rfl, hb1⟩
  obtain ⟨q1, qf1⟩ := rd hb1
  have hs1 : w.heap.size + 1 + 1 < x1.heap.size := by have := hb1.size; simp at this; omega
  have hB1 := Base.tr (Base.al (Base.al (Base.al (Below.refl _ w) _) _) _) hb1
  have kr := blk_below (blk_old (blk_new1 w _ _)) hb1
  have ko := blk_below (blk_new2 w _ _ _) hb1
  generalize x1 = y1 at *
  clear q1 qf1 hb1
  have fr := fun o => frozen_blk kr o
  have r0 := cell_blk kr 0
  have r1 := cell_blk kr 1
  have r2 := cell_blk kr 2
  have r3 := cell_blk kr 3
  have r4 := cell_blk kr 4
  have r5 := cell_blk kr 5
  have r6 := cell_blk kr 6
  have r7 := cell_blk kr 7
  have o0 := cell_blk ko 0
  have o1 := cell_blk ko 1
  have o2 := cell_blk ko 2
  have o3 := cell_blk ko 3
  have o4 := cell_blk ko 4
  have o5 := cell_blk ko 5
  have o6 := cell_blk ko 6
  have o7 := cell_blk ko 7
  go_wp2_with fail
  change bodyPost _ _ _ _ _ (sets y1 (w.heap.size + 1) 0 [Value.int .u8 0, Value.int .u8 0, Value.int .u8 0, Value.int .u8 0, Value.int .u8 0, Value.int .u8 0, Value.int .u8 0, Value.int .u8 0])
  have e8 := sets_at kr [Value.int .u8 0, Value.int .u8 0, Value.int .u8 0, Value.int .u8 0, Value.int .u8 0, Value.int .u8 0, Value.int .u8 0, Value.int .u8 0] rfl
  have b8 := sets_below (a := w) (Nat.le_succ _) [Value.int .u8 0, Value.int .u8 0, Value.int .u8 0, Value.int .u8 0, Value.int .u8 0, Value.int .u8 0, Value.int .u8 0, Value.int .u8 0] y1 0 hB1
  generalize sets y1 (w.heap.size + 1) 0 [Value.int .u8 0, Value.int .u8 0, Value.int .u8 0, Value.int .u8 0, Value.int .u8 0, Value.int .u8 0, Value.int .u8 0, Value.int .u8 0] = y2 at *
  have c0 := cell_blk e8 0
  have c1 := cell_blk e8 1
  have c2 := cell_blk e8 2
  have c3 := cell_blk e8 3
  have c4 := cell_blk e8 4
  have c5 := cell_blk e8 5
  have c6 := cell_blk e8 6
  have c7 := cell_blk e8 7
  exact bodyPost_ret (v := .agg (arr8 0 0 0 0 0 0 0 0)) (by simp [results, Tryd.results24, go_sem, c0, c1, c2, c3, c4, c5, c6, c7]) rfl ⟨rfl, b8⟩

set_option maxHeartbeats 4000000 in
set_option maxRecDepth 100000 in
theorem headOf_any (s z : Nat) (w : World) (h : geoB s z = true) (a b c d e f g i : Nat) (hh : headOf s z = [a, b, c, d, e, f, g, i]) : Makes 24 #[geo s z] w (.agg (arr8 a b c d e f g i)) := by
  obtain ⟨h1, h2, h3, h4⟩ := geoB_yes h
  have G0 := fun W => placeMay_any s z W
  rw [h] at G0
  have HG0 := fun W => Lib.hid (G0 W)
  have kw1 : IntKind.u64.wrap (s : Int) = (s : Int) := by rw [IntKind.wrap_u64]; omega
  have kw2 : IntKind.u64.wrap (z : Int) = (z : Int) := by rw [IntKind.wrap_u64]; omega
  have P1 : ∀ (W : World) (g : Nat), Byt W (.slice (some ⟨g, 0, none⟩) 4 4) mark → Own1 46 #[.slice (some ⟨g, 0, none⟩) 4 4, i64 2, .int .u64 s] W (mark ++ be 2 s) :=
    fun W g hg => put_any _ 4 4 mark 2 s W hg (by decide) (by decide) (by decide)
  have P2 : ∀ (W : World) (g : Nat), W.heap[g]? = some (.cells ((mark ++ be 2 s).map bv).toArray 5 (0, 0)) → Own1 46 #[.slice (some ⟨g, 0, none⟩) 6 6, i64 2, .int .u64 z] W (mark ++ be 2 s ++ be 2 z) := by
    intro W g hg
    refine put_any _ 6 6 (mark ++ be 2 s) 2 z W ?_ (by decide) (by decide) (by simp [be_len, mark])
    have := Byt.fresh hg (by simp [be_len, mark])
    rwa [show (mark ++ be 2 s).length = 6 by simp [be_len, mark]] at this
  have B8 : ∀ (W : World) (g : Nat), W.heap[g]? = some (.cells ((mark ++ be 2 s ++ be 2 z).map bv).toArray 5 (0, 0)) → Byt W (.slice (some ⟨g, 0, none⟩) 8 8) (mark ++ be 2 s ++ be 2 z) := by
    intro W g hg
    have := Byt.fresh hg (by simp [be_len, mark])
    rwa [show (mark ++ be 2 s ++ be 2 z).length = 8 by simp [be_len, mark]] at this
  have hlt8 : ∀ b ∈ mark ++ be 2 s ++ be 2 z, b < 256 := by
    intro b hb
    rcases List.mem_append.1 hb with hb | hb
    · rcases List.mem_append.1 hb with hb | hb
      · unfold mark at hb; simp at hb; omega
      · exact be_lt _ _ _ hb
    · exact be_lt _ _ _ hb
  have S8 : ∀ (W : World) (g : Nat), W.heap[g]? = some (.cells ((mark ++ be 2 s ++ be 2 z).map bv).toArray 5 (0, 0)) → Gives 47 #[.slice (some ⟨g, 0, none⟩) 8 8] W (.int .u32 (sumB (mark ++ be 2 s ++ be 2 z))) :=
    fun W g hg => sumSum_any _ _ _ _ _ (B8 W g hg) hlt8 (by simp [be_len, mark])
  have hsum : sumB (mark ++ be 2 s ++ be 2 z) < 2 ^ 32 := sumB_lt32 _
  have kw3 : IntKind.u64.wrap (sumB (mark ++ be 2 s ++ be 2 z) : Int) = (sumB (mark ++ be 2 s ++ be 2 z) : Int) := by rw [IntKind.wrap_u64]; omega
  have P3 : ∀ (W : World) (g : Nat), W.heap[g]? = some (.cells ((mark ++ be 2 s ++ be 2 z).map bv).toArray 5 (0, 0)) → Own1 46 #[.slice (some ⟨g, 0, none⟩) 4 8, i64 4, .int .u64 (sumB (mark ++ be 2 s ++ be 2 z))] W (headOf s z) := by
    intro W g hg
    refine put_any _ 4 8 mark 4 _ W ?_ (by decide) (by decide) (by decide)
    have := Byt.piece (B8 W g hg) 0 4 8 (by simp [be_len, mark]) (by decide) (by decide)
    exact this
  unfold Own1 at P1 P2 P3
  rw [show (mark ++ be 2 s).length = 6 by simp [be_len, mark]] at P1
  rw [show (mark ++ be 2 s ++ be 2 z).length = 8 by simp [be_len, mark]] at P2
  rw [headOf_len, hh] at P3
  generalize sumB (mark ++ be 2 s ++ be 2 z) = sm at *
  generalize mark ++ be 2 s ++ be 2 z = l8 at *
  generalize mark ++ be 2 s = l6 at *
  have HP1 := fun W g hg => Lib.hid (P1 W g hg)
  have HP2 := fun W g hg => Lib.hid (P2 W g hg)
  have HP3 := fun W g hg => Lib.hid (P3 W g hg)
  have HS8 := fun W g hg => Lib.hid (S8 W g hg)
  clear P1 P2 P3 S8 B8 hlt8 h G0 hh
  go_enter Tryd.func24, Tryd.ntmps24
  go_wp2_with fail
  refine (HG0 _).out.mono ?_; rintro e1 x1 ⟨rfl, hb1⟩
  obtain ⟨q1, qf1⟩ := rd hb1
  have hs1 : w.heap.size + 1 + 1 < x1.heap.size := by have := hb1.size; simp at this; omega
  have hB1 := Base.tr (Base.al (Base.al (Base.al (Below.refl _ w) _) _) _) hb1
  have kg := blk_below (blk_old (blk_old (blk_new w _))) hb1
  have kr := blk_below (blk_old (blk_new1 w _ _)) hb1
  have ko := blk_below (blk_new2 w _ _ _) hb1
  clear hb1 q1 qf1
  have c0 : x1.cell? ⟨w.heap.size, 0, none⟩ = some (i64 s) := cell_blk kg 0
  have c1 : x1.cell? ⟨w.heap.size, 1, none⟩ = some (i64 z) := cell_blk kg 1
  go_wp2_with fail
  have k0 := fun p : OnOf x1 => on_cell (by show w.heap.size < _; omega) c0 p
  have k1 := fun p : OnOf x1 => on_cell (by show w.heap.size < _; omega) c1 p
  refine wp_region_po (fun w' => ∃ p : OnOf x1, w' = p.v) 11 [0, 1, 5, 9] (by kernel_rfl) (by kernel_rfl) ⟨⟨_, Base.dr (Below.refl _ _)⟩, rfl⟩ ?_
  simp only [List.take_succ_cons, List.take_zero, List.drop_succ_cons, List.drop_zero]
  have on0 := @on_rd0; have on1 := @on_rd1; have on2 := @on_rd2; have on3 := @on_new1; have on4 := @on_new2; have on5 := @gr_rd0
  refine seq_eff (by rfl) (by first | rfl | go_simp) ?_
  intro K hK
  unfold effAt2
  go_simp
  refine ⟨⟨⟨_, Base.dr (Base.al (Below.refl _ _) _)⟩, rfl⟩, hK _ _ ?_⟩
  clear hK K
  have hcv := conv_mark x1 #[.int .u8 84, .int .u8 120, .int .u8 78, .int .u8 82] 4 4
  refine seq_eff (by rfl) (by first | rfl | go_simp) ?_
  intro K hK
  unfold effAt2
  go_simp
  refine ⟨⟨⟨_, Base.dr (Base.al (Below.refl _ _) _)⟩, rfl⟩, hK _ _ ?_⟩
  clear hK K hcv
  have hy2 : Byt ((x1.alloc (.cells #[.int .u8 84, .int .u8 120, .int .u8 78, .int .u8 82] 5 (4, 4 + 1))).drew) (.slice (some ⟨x1.heap.size, 0, none⟩) 4 4) mark := Byt.blk (l := mark) (blk_new x1 _) (by decide)
  have hB2 : Below x1.heap.size x1 ((x1.alloc (.cells #[.int .u8 84, .int .u8 120, .int .u8 78, .int .u8 82] 5 (4, 4 + 1))).drew) := Base.dr (Base.al (Below.refl _ _) _)
  generalize ((x1.alloc (.cells #[.int .u8 84, .int .u8 120, .int .u8 78, .int .u8 82] 5 (4, 4 + 1))).drew) = x2 at *
  repeat ((with_reducible refine seq_read ?_ ?_); (focus rfl); (intro K hK); (unfold readsAt); go_simp; first | ((with_reducible refine hK _ ?_); clear hK K) | (rw [if_neg (by intro h; cases h)]; (with_reducible refine hK _ ?_); clear hK K))
  refine seq_eff (by rfl) (by first | rfl | go_simp) ?_
  intro K hK
  unfold effAt2
  go_simp
  refine ⟨rfl, (HP1 _ _ hy2).out.mono ?_⟩; rintro e3 x3 ⟨rfl, hx3⟩
  have hB3 : Below x1.heap.size x1 x3 := hx3 ▸ Base.al hB2 _
  have hy3 : x3.heap[x2.heap.size]? = some (.cells (l6.map bv).toArray 5 (0, 0)) := hx3 ▸ blk_new x2 _
  clear hx3
  refine ⟨_, rfl, ⟨⟨_, hB3⟩, rfl⟩, hK _ _ ?_⟩
  clear hK K
  repeat ((with_reducible refine seq_read ?_ ?_); (focus rfl); (intro K hK); (unfold readsAt); go_simp; first | ((with_reducible refine hK _ ?_); clear hK K) | (rw [if_neg (by intro h; cases h)]; (with_reducible refine hK _ ?_); clear hK K))
  refine seq_eff (by rfl) (by first | rfl | go_simp) ?_
  intro K hK
  unfold effAt2
  go_simp
  refine ⟨rfl, (HP2 _ _ hy3).out.mono ?_⟩; rintro e4 x4 ⟨rfl, hx4⟩
  have hB4 : Below x1.heap.size x1 x4 := hx4 ▸ Base.al hB3 _
  have hy4 : x4.heap[x3.heap.size]? = some (.cells (l8.map bv).toArray 5 (0, 0)) := hx4 ▸ blk_new x3 _
  have hs4 : x1.heap.size ≤ x3.heap.size := hB3.size
  clear hx4
  refine ⟨_, rfl, ⟨⟨_, hB4⟩, rfl⟩, hK _ _ ?_⟩
  clear hK K
  repeat ((with_reducible refine seq_read ?_ ?_); (focus rfl); (intro K hK); (unfold readsAt); go_simp; first | ((with_reducible refine hK _ ?_); clear hK K) | (rw [if_neg (by intro h; cases h)]; (with_reducible refine hK _ ?_); clear hK K))
  clear on0 on1 on2 on3 on4 on5
  with_reducible refine seq_nil ?_
  have ko4 := blk_below ko hB4
  have kr4 := blk_below kr hB4
  have hb4 := Base.tr hB1 hB4
  clear ko kr kg c0 c1 k0 k1 hy2 hB2 hB3 hy3 hB4 hB1
  go_wp2_with fail
  refine wp_region_po (fun w' => ∃ p : GrOf x4 (some (w.heap.size + 1 + 1)), w' = p.v) 8 [4, 6, 7] (by kernel_rfl) (by kernel_rfl) ⟨⟨_, grown_dr (grown_same _ _)⟩, rfl⟩ ?_
  simp only [List.take_succ_cons, List.take_zero, List.drop_succ_cons, List.drop_zero]
  have on0 := @on_rd0; have on1 := @on_rd1; have on2 := @on_rd2; have on3 := @on_new1; have on4 := @on_new2; have on5 := @gr_rd0
  repeat ((with_reducible refine seq_read ?_ ?_); (focus rfl); (intro K hK); (unfold readsAt); go_simp; first | ((with_reducible refine hK _ ?_); clear hK K) | (rw [if_neg (by intro h; cases h)]; (with_reducible refine hK _ ?_); clear hK K))
  refine seq_eff (by rfl) (by first | rfl | go_simp) ?_
  intro K hK
  unfold effAt2
  go_simp
  refine ⟨rfl, (HS8 x4.drew _ hy4).out.mono ?_⟩; rintro e5 x5 ⟨rfl, rfl⟩
  refine ⟨_, rfl, ⟨⟨_, grown_dr (grown_same _ _)⟩, rfl⟩, hK _ _ ?_⟩
  clear hK K
  repeat ((with_reducible refine seq_read ?_ ?_); (focus rfl); (intro K hK); (unfold readsAt); go_simp; first | ((with_reducible refine hK _ ?_); clear hK K) | (rw [if_neg (by intro h; cases h)]; (with_reducible refine hK _ ?_); clear hK K))
  refine seq_eff (by rfl) (by first | rfl | go_simp) ?_
  intro K hK
  unfold effAt2
  go_simp
  refine ⟨rfl, (HP3 x4.drew _ hy4).out.mono ?_⟩; rintro e6 x6 ⟨rfl, hx6⟩
  have hg6 : x4.grownBy x6 (some (w.heap.size + 1 + 1)) := hx6 ▸ grown_al (grown_dr (grown_same _ _)) _
  have hy6 : x6.heap[x4.heap.size]? = some (.cells ([a, b, c, d, e, f, g, i].map bv).toArray 5 (0, 0)) := hx6 ▸ blk_new x4 _
  have ko6 := blk_old (w := x4.drew) (x := .cells ([a, b, c, d, e, f, g, i].map bv).toArray 5) ko4
  have kr6 := blk_old (w := x4.drew) (x := .cells ([a, b, c, d, e, f, g, i].map bv).toArray 5) kr4
  rw [← hx6] at ko6 kr6
  have hb6 : Below w.heap.size w x6 := hx6 ▸ Base.al (Base.dr hb4) _
  clear hx6
  refine ⟨.slice (some ⟨x4.heap.size, 0, none⟩) 8 8, rfl, ⟨⟨_, hg6⟩, rfl⟩, hK _ _ ?_⟩
  clear hK K
  have hcp := run_copy_row (P := Tryd.prog) x6 24 24 3 5 (w.heap.size + 1 + 1) 0 8 8 ⟨x4.heap.size, 0, none⟩ 8 8 _ _ ([a, b, c, d, e, f, g, i].map bv) Tryd.underlying24 (by kernel_rfl) ko6 rfl (fun j v hj => by rw [Addr.add_lit, cell_blk hy6]; simpa using hj) (by simp) (by intro v hv; obtain ⟨x, _, rfl⟩ := List.mem_map.1 hv; rfl)
  refine seq_eff (by rfl) (by first | rfl | go_simp) ?_
  intro K hK
  unfold effAt2
  go_simp
  refine ⟨⟨⟨_, grown_setRow hg6 _⟩, rfl⟩, hK _ _ ?_⟩
  clear hK K hcp
  clear on0 on1 on2 on3 on4 on5
  with_reducible refine seq_nil ?_
  have ko7 : (x6.setRow (w.heap.size + 1 + 1) #[bv a, bv b, bv c, bv d, bv e, bv f, bv g, bv i]).heap[w.heap.size + 1 + 1]? = some (.cells #[bv a, bv b, bv c, bv d, bv e, bv f, bv g, bv i] 62 (0, 0)) := setRow_heap x6 _ _ _ _ _ ko6
  have kr7 := (setRow_other x6 (w.heap.size + 1 + 1) (w.heap.size + 1) #[bv a, bv b, bv c, bv d, bv e, bv f, bv g, bv i] (by omega)).trans kr6
  have hb7 : Below w.heap.size w (x6.setRow (w.heap.size + 1 + 1) #[bv a, bv b, bv c, bv d, bv e, bv f, bv g, bv i]) := Base.gr hb6 (grown_setRow (grown_same x6 (some (w.heap.size + 1 + 1))) _) (fun k hk => by injection hk with hk; omega)
  generalize x6.setRow (w.heap.size + 1 + 1) #[bv a, bv b, bv c, bv d, bv e, bv f, bv g, bv i] = x7 at *
  clear ko6 kr6 hb6 hg6 hy6 ko4 kr4 hb4 hy4 hs4
  have fr := fun o => frozen_blk kr7 o
  have r0 := cell_blk kr7 0
  have o0 := cell_blk ko7 0
  have r1 := cell_blk kr7 1
  have o1 := cell_blk ko7 1
  have r2 := cell_blk kr7 2
  have o2 := cell_blk ko7 2
  have r3 := cell_blk kr7 3
  have o3 := cell_blk ko7 3
  have r4 := cell_blk kr7 4
  have o4 := cell_blk ko7 4
  have r5 := cell_blk kr7 5
  have o5 := cell_blk ko7 5
  have r6 := cell_blk kr7 6
  have o6 := cell_blk ko7 6
  have r7 := cell_blk kr7 7
  have o7 := cell_blk ko7 7
  go_wp2_with fail
  change bodyPost _ _ _ _ _ (sets x7 (w.heap.size + 1) 0 [bv a, bv b, bv c, bv d, bv e, bv f, bv g, bv i])
  have e8 := sets_at kr7 [bv a, bv b, bv c, bv d, bv e, bv f, bv g, bv i] rfl
  have b8 := sets_below (a := w) (Nat.le_succ _) [bv a, bv b, bv c, bv d, bv e, bv f, bv g, bv i] x7 0 hb7
  generalize sets x7 (w.heap.size + 1) 0 [bv a, bv b, bv c, bv d, bv e, bv f, bv g, bv i] = y2 at *
  have c0 := cell_blk e8 0
  have c1 := cell_blk e8 1
  have c2 := cell_blk e8 2
  have c3 := cell_blk e8 3
  have c4 := cell_blk e8 4
  have c5 := cell_blk e8 5
  have c6 := cell_blk e8 6
  have c7 := cell_blk e8 7
  exact bodyPost_ret (v := .agg (arr8 a b c d e f g i)) (by simp [results, Tryd.results24, go_sem, c0, c1, c2, c3, c4, c5, c6, c7]) rfl ⟨rfl, b8⟩
end Go.Proofs.YteieaelinkdahaaDoor

/- head.Class. -/
namespace Go.Proofs.YteieaelinkdahaaDoor
open Go.RowKit

theorem cast_eq (xs ys : List Nat) : (xs.map fun x : Nat => (x : Int)) = (ys.map fun x : Nat => (x : Int)) ↔ xs = ys := List.map_inj_right (by intro a b h; omega)
theorem eql8 (a b c d e f g i a' b' c' d' e' f' g' i' : Nat) (w : World) : (Op.equalIn 10000 62 (.agg (arr8 a b c d e f g i)) (.agg (arr8 a' b' c' d' e' f' g' i'))).run Tryd.prog w = .ok (decide ([a, b, c, d, e, f, g, i] = [a', b', c', d', e', f', g', i'])) w := by
  have := Base.run_eql_ints (P := Tryd.prog) w Tryd.underlying62 (by kernel_rfl) Tryd.underlying5 ([a, b, c, d, e, f, g, i].map fun x : Nat => (x : Int)) ([a', b', c', d', e', f', g', i'].map fun x : Nat => (x : Int)) rfl rfl
  rw [show decide ([a, b, c, d, e, f, g, i].map (fun x : Nat => (x : Int)) = [a', b', c', d', e', f', g', i'].map (fun x : Nat => (x : Int))) = decide ([a, b, c, d, e, f, g, i] = [a', b', c', d', e', f', g', i']) from decide_eq_decide.2 (cast_eq _ _)] at this
  rw [List.map_map, List.map_map] at this
  exact this

/-- The class of a sector's bytes where the geometry fits. -/
theorem geoN_yes {s z : Int} {l : List Nat} (h : geoN s z l = true) : geoB s z = true ∧ (l.length : Int) = z := by
  unfold geoN at h
  simpa using h

set_option maxHeartbeats 4000000 in
set_option maxRecDepth 100000 in
theorem headClass_any (s z : Int) (A : Option Addr) (n cap : Nat) (l : List Nat) (w : World) (h : Byt w (.slice A n cap) l) (hm : l.length ≤ 100000) : Makes 12 #[geo s z, .slice A n cap] w (i64 (classB s z l)) := by
  have hn := h.len
  rw [List.length_map] at hn
  subst hn
  have G0 := fun W => placeMay_any s z W
  cases hg : geoB s z
  · have hv : classB s z l = 2 := by unfold classB geoN; rw [hg]; rfl
    rw [hv]
    rw [hg] at G0
    have HG0 := fun W => Lib.hid (G0 W)
    clear hv hg h G0
    go_enter Tryd.func12, Tryd.ntmps12
    go_wp2_with fail
    refine (HG0 _).out.mono ?_; rintro e x1 ⟨rfl, hb1⟩
    go_wp2_with fail
    go_ret
    exact ⟨rfl, Base.tr (Base.al (Below.refl _ _) _) hb1⟩
  rw [hg] at G0
  have HG0 := fun W => Lib.hid (G0 W)
  clear G0
  by_cases hz : ¬ (l.length : Int) = z
  · have hv : classB s z l = 2 := by unfold classB geoN; rw [hg, beq_eq_false_iff_ne.2 hz]; rfl
    rw [hv]
    have t1 : ((l.length : Int) == z) = false := beq_eq_false_iff_ne.2 hz
    clear hv hg h hz
    go_enter Tryd.func12, Tryd.ntmps12
    go_wp2_with fail
    refine (HG0 _).out.mono ?_; rintro e x1 ⟨rfl, hb1⟩
    obtain ⟨q1, -⟩ := rd hb1
    go_wp2_with fail
    go_ret
    exact ⟨rfl, Base.tr (Base.al (Below.refl _ _) _) hb1⟩
  have hz := Decidable.not_not.1 hz
  obtain ⟨g1, g2, g3, g4⟩ := geoB_yes hg
  have hv : classB s z l = if l.take 8 = headOf s.toNat z.toNat then 1 else if blankB l then 0 else 2 := by
    unfold classB geoN; rw [hg, beq_iff_eq.2 hz]; rfl
  obtain ⟨s', rfl⟩ : ∃ s' : Nat, s = s' := ⟨s.toNat, by omega⟩
  subst hz
  simp only [Int.toNat_natCast] at hv
  obtain ⟨a, b, c, d, e, f, g, i, hh⟩ := eight (headOf_len s' l.length)
  obtain ⟨a', b', c', d', e', f', g', i', hk⟩ := eight (show (l.take 8).length = 8 by rw [List.length_take]; omega)
  have HO := fun W => Lib.hid (headOf_any s' l.length W hg a b c d e f g i hh)
  have t1 : ((l.length : Int) == (l.length : Int)) = true := beq_self_eq_true _
  have EQ := fun W => eql8 a' b' c' d' e' f' g' i' a b c d e f g i W
  obtain ⟨ab, off, rfl, hab, hx⟩ := Byt.cell h (by omega)
  have hrow : ∀ j v, ([bv a', bv b', bv c', bv d', bv e', bv f', bv g', bv i'] : List Value)[j]? = some v → w.cell? ((⟨ab, off, none⟩ : Addr).add j) = some v := by
    intro j v hj
    refine hx j v ?_
    rw [List.getElem?_map]
    have : ([a', b', c', d', e', f', g', i'].map bv)[j]? = some v := by simpa using hj
    rw [← hk, List.getElem?_map] at this
    obtain ⟨y, hy, rfl⟩ := Option.map_eq_some_iff.1 this
    have hj8 : j < 8 := by have := (List.getElem?_eq_some_iff.1 hy).1; rw [List.length_take] at this; omega
    rw [List.getElem?_take_of_lt hj8] at hy
    rw [hy]; rfl
  have hmin : (8 : Nat) = Nat.min l.length 8 := (Nat.min_eq_right (by omega)).symm
  have HC := fun W hB => Lib.hid (containsFF_any (some ⟨ab, off, none⟩) l.length cap l W (Sl.below (w' := W) h hB))
  clear hx hg hm hz
  by_cases heq : [a', b', c', d', e', f', g', i'] = [a, b, c, d, e, f, g, i]
  · rw [if_pos (by rw [hk, hh]; exact heq)] at hv
    rw [hv]
    simp only [decide_eq_true heq] at EQ
    clear hv hh hk heq HC
    go_enter Tryd.func12, Tryd.ntmps12
    go_wp2_with fail
    refine (HG0 _).out.mono ?_; rintro e1 x1 ⟨rfl, hb1⟩
    obtain ⟨q1, -⟩ := rd hb1
    have hs1 : w.heap.size < x1.heap.size := by have := hb1.size; simp at this; omega
    have hB1 := Base.tr (Base.al (Below.refl _ w) _) hb1
    have kg := blk_below (blk_new w _) hb1
    have c0 : x1.cell? ⟨w.heap.size, 0, none⟩ = some (i64 s') := cell_blk kg 0
    have c1 : x1.cell? ⟨w.heap.size, 1, none⟩ = some (i64 l.length) := cell_blk kg 1
    clear kg q1 hb1
    have hrow1 : ∀ j v, ([bv a', bv b', bv c', bv d', bv e', bv f', bv g', bv i'] : List Value)[j]? = some v → (x1.alloc (.cells #[.int .u8 0, .int .u8 0, .int .u8 0, .int .u8 0, .int .u8 0, .int .u8 0, .int .u8 0, .int .u8 0] 62)).cell? ((⟨ab, off, none⟩ : Addr).add j) = some v := fun j v hj => by
      rw [(Base.al hB1 _).cell (by rw [block_add]; exact hab)]; exact hrow j v hj
    have hcp : (Builtin.copy_ #[24, 24] 3 #[.slice (some ⟨x1.heap.size, 0, none⟩) 8 8, .slice (some ⟨ab, off, none⟩) l.length cap]).run Tryd.prog (x1.alloc (.cells #[.int .u8 0, .int .u8 0, .int .u8 0, .int .u8 0, .int .u8 0, .int .u8 0, .int .u8 0, .int .u8 0] 62)) = .ok (goInt 8) (x1.alloc (.cells #[bv a', bv b', bv c', bv d', bv e', bv f', bv g', bv i'] 62)) := by
      have := run_copy_row (P := Tryd.prog) (x1.alloc (.cells #[.int .u8 0, .int .u8 0, .int .u8 0, .int .u8 0, .int .u8 0, .int .u8 0, .int .u8 0, .int .u8 0] 62)) 24 24 3 5 x1.heap.size 0 8 8 ⟨ab, off, none⟩ l.length cap _ _ [bv a', bv b', bv c', bv d', bv e', bv f', bv g', bv i'] Tryd.underlying24 (by kernel_rfl) (blk_new x1 _) hmin hrow1 (by simp) (by intro v hv; obtain ⟨x, _, rfl⟩ := List.mem_map.1 (show v ∈ [a', b', c', d', e', f', g', i'].map bv from hv); rfl)
      rw [World.setRow_alloc_new] at this
      exact this
    clear hmin hrow hrow1
    go_wp2_with fail
    have on0 := @on_rd0; have on1 := @on_rd1; have on2 := @on_rd2; have on3 := @on_new1; have on4 := @on_new2
    refine wp_region_quiet_on (by kernel_rfl) (by kernel_rfl) ?_
    repeat ((with_reducible refine wpQuiet_step (fun K hK => ?_)); go_simp; first | ((with_reducible refine hK _ ?_); clear hK K) | (rw [if_neg (by intro h; cases h)]; (with_reducible refine hK _ ?_); clear hK K) | (apply Exists.intro; refine ⟨fun _ => ?_, hK _ ?_⟩; ((with_reducible exact on_of (HO _).out)); clear hK K))
    clear on0 on1 on2 on3 on4
    with_reducible refine wpQuiet_nil ?_
    intro _ hw'
    obtain ⟨pq, hw''⟩ := hw'
    subst hw''
    go_wp2_with fail
    go_ret
    exact ⟨rfl, Base.tr (Base.al hB1 _) pq.h⟩
  · rw [if_neg (by rw [hk, hh]; exact heq)] at hv
    simp only [decide_eq_false heq] at EQ
    rw [hv]
    clear hv hh hk heq
    cases hbl : blankB l
    all_goals
      rw [hbl] at HC
      clear hbl
      go_enter Tryd.func12, Tryd.ntmps12
      go_wp2_with fail
      refine (HG0 _).out.mono ?_; rintro e1 x1 ⟨rfl, hb1⟩
      obtain ⟨q1, -⟩ := rd hb1
      have hs1 : w.heap.size < x1.heap.size := by have := hb1.size; simp at this; omega
      have hB1 := Base.tr (Base.al (Below.refl _ w) _) hb1
      have kg := blk_below (blk_new w _) hb1
      have c0 : x1.cell? ⟨w.heap.size, 0, none⟩ = some (i64 s') := cell_blk kg 0
      have c1 : x1.cell? ⟨w.heap.size, 1, none⟩ = some (i64 l.length) := cell_blk kg 1
      clear kg q1 hb1
      have hrow1 : ∀ j v, ([bv a', bv b', bv c', bv d', bv e', bv f', bv g', bv i'] : List Value)[j]? = some v → (x1.alloc (.cells #[.int .u8 0, .int .u8 0, .int .u8 0, .int .u8 0, .int .u8 0, .int .u8 0, .int .u8 0, .int .u8 0] 62)).cell? ((⟨ab, off, none⟩ : Addr).add j) = some v := fun j v hj => by
        rw [(Base.al hB1 _).cell (by rw [block_add]; exact hab)]; exact hrow j v hj
      have hcp : (Builtin.copy_ #[24, 24] 3 #[.slice (some ⟨x1.heap.size, 0, none⟩) 8 8, .slice (some ⟨ab, off, none⟩) l.length cap]).run Tryd.prog (x1.alloc (.cells #[.int .u8 0, .int .u8 0, .int .u8 0, .int .u8 0, .int .u8 0, .int .u8 0, .int .u8 0, .int .u8 0] 62)) = .ok (goInt 8) (x1.alloc (.cells #[bv a', bv b', bv c', bv d', bv e', bv f', bv g', bv i'] 62)) := by
        have := run_copy_row (P := Tryd.prog) (x1.alloc (.cells #[.int .u8 0, .int .u8 0, .int .u8 0, .int .u8 0, .int .u8 0, .int .u8 0, .int .u8 0, .int .u8 0] 62)) 24 24 3 5 x1.heap.size 0 8 8 ⟨ab, off, none⟩ l.length cap _ _ [bv a', bv b', bv c', bv d', bv e', bv f', bv g', bv i'] Tryd.underlying24 (by kernel_rfl) (blk_new x1 _) hmin hrow1 (by simp) (by intro v hv; obtain ⟨x, _, rfl⟩ := List.mem_map.1 (show v ∈ [a', b', c', d', e', f', g', i'].map bv from hv); rfl)
        rw [World.setRow_alloc_new] at this
        exact this
      clear hmin hrow hrow1
      go_wp2_with fail
      have on0 := @on_rd0; have on1 := @on_rd1; have on2 := @on_rd2; have on3 := @on_new1; have on4 := @on_new2
      refine wp_region_quiet_on (by kernel_rfl) (by kernel_rfl) ?_
      repeat ((with_reducible refine wpQuiet_step (fun K hK => ?_)); go_simp; first | ((with_reducible refine hK _ ?_); clear hK K) | (rw [if_neg (by intro h; cases h)]; (with_reducible refine hK _ ?_); clear hK K) | (apply Exists.intro; refine ⟨fun _ => ?_, hK _ ?_⟩; ((with_reducible exact on_of (HO _).out)); clear hK K))
      clear on0 on1 on2 on3 on4
      with_reducible refine wpQuiet_nil ?_
      intro _ hw'
      obtain ⟨pq, hw''⟩ := hw'
      subst hw''
      go_wp2_with fail
      have hB2 := Base.tr (Base.al hB1 _) pq.h
      refine (HC _ hB2).out.mono ?_; rintro e3 x3 ⟨rfl, rfl⟩
      go_wp2_with fail
      go_ret
      exact ⟨rfl, hB2⟩
end Go.Proofs.YteieaelinkdahaaDoor

/- The reference's head and class. -/
namespace Go.Proofs.YteieaelinkdahaaDoor
open Go.RowKit

theorem toB_app (l m : List Nat) : toB l ++ toB m = toB (l ++ m) := by
  apply ByteArray.ext
  unfold toB
  rw [ByteArray.data_append, List.map_append]
  simp
/-- The head as a string. -/
def headS (s z : Int) : List Nat := if geoB s z then headOf s.toNat z.toNat else [0, 0, 0, 0, 0, 0, 0, 0]

set_option maxHeartbeats 4000000 in
set_option maxRecDepth 100000 in
theorem rOf_no (s z : Int) (w : World) (h : geoB s z = false) : Makes 20 #[geo s z] w (.string { data := #[0, 0, 0, 0, 0, 0, 0, 0] }) := by
  have G0 := fun W => rMay_any s z W
  rw [h] at G0
  have HG0 := fun W => Lib.hid (G0 W)
  clear h G0
  go_enter Tryd.func20, Tryd.ntmps20
  go_wp2_with fail
  refine (HG0 _).out.mono ?_; rintro e x1 ⟨rfl, hb1⟩
  go_wp2_with fail
  go_ret
  exact ⟨rfl, Base.tr (Base.al (Below.refl _ _) _) hb1⟩

set_option maxHeartbeats 4000000 in
set_option maxRecDepth 100000 in
theorem rOf_any (s z : Nat) (w : World) (h : geoB s z = true) : Makes 20 #[geo s z] w (.string (toB (headOf s z))) := by
  obtain ⟨h1, h2, h3, h4⟩ := geoB_yes h
  have G0 := fun W => rMay_any s z W
  rw [h] at G0
  have HG0 := fun W => Lib.hid (G0 W)
  have kw1 : IntKind.u64.wrap (s : Int) = (s : Int) := by rw [IntKind.wrap_u64]; omega
  have kw2 : IntKind.u64.wrap (z : Int) = (z : Int) := by rw [IntKind.wrap_u64]; omega
  have P1 := fun (W : World) (g : Nat) (hy : Byt W (.slice (some ⟨g, 0, none⟩) 4 4) mark) => Lib.hid (rPut_any ⟨g, 0, none⟩ 4 4 mark 2 s W hy (by decide) (by decide) (by omega) (by decide))
  have P2 := fun (W : World) ad n c (hy : Byt W (.slice (some ad) n c) (mark ++ be 2 s)) => Lib.hid (rPut_any ad n c (mark ++ be 2 s) 2 z W hy (by decide) (by decide) (by omega) (by simp [be_len, mark]))
  have hlt8 : ∀ b ∈ mark ++ be 2 s ++ be 2 z, b < 256 := by
    intro b hb
    rcases List.mem_append.1 hb with hb | hb
    · rcases List.mem_append.1 hb with hb | hb
      · unfold mark at hb; simp at hb; omega
      · exact be_lt _ _ _ hb
    · exact be_lt _ _ _ hb
  have S8 := fun (W : World) A n c (hy : Byt W (.slice A n c) (mark ++ be 2 s ++ be 2 z)) => Lib.hid (rsumSum_any A n c _ W hy hlt8 (by simp [be_len, mark]))
  have hsum : sumB (mark ++ be 2 s ++ be 2 z) < 2 ^ 32 := sumB_lt32 _
  have kw3 : IntKind.u64.wrap (sumB (mark ++ be 2 s ++ be 2 z) : Int) = (sumB (mark ++ be 2 s ++ be 2 z) : Int) := by rw [IntKind.wrap_u64]; omega
  have P3 := fun (W : World) (g : Nat) (hy : Byt W (.slice (some ⟨g, 0, none⟩) 0 0) []) => Lib.hid (rPut_any ⟨g, 0, none⟩ 0 0 [] 4 (sumB (mark ++ be 2 s ++ be 2 z)) W hy (by decide) (by decide) (by omega) (by decide))
  have hres : toB mark ++ toB ([] ++ be 4 (sumB (mark ++ be 2 s ++ be 2 z))) = toB (headOf s z) := by rw [toB_app]; rfl
  generalize sumB (mark ++ be 2 s ++ be 2 z) = sm at *
  generalize mark ++ be 2 s ++ be 2 z = l8 at *
  generalize mark ++ be 2 s = l6 at *
  have HR := Lib.hid hres
  clear hres hlt8 h G0
  go_enter Tryd.func20, Tryd.ntmps20
  go_wp2_with fail
  refine (HG0 _).out.mono ?_; rintro e1 x1 ⟨rfl, hb1⟩
  have hs1 : w.heap.size < x1.heap.size := by have := hb1.size; simp at this; omega
  have hB1 := Base.tr (Base.al (Below.refl _ w) _) hb1
  have kg := blk_below (blk_new w _) hb1
  clear hb1
  have c0 : x1.cell? ⟨w.heap.size, 0, none⟩ = some (i64 s) := cell_blk kg 0
  have c1 : x1.cell? ⟨w.heap.size, 1, none⟩ = some (i64 z) := cell_blk kg 1
  have hcv := Lib.run_convert_bytes_const (P := Tryd.prog) x1 24 5 #[.int .u8 84, .int .u8 120, .int .u8 78, .int .u8 82] 4 4 Tryd.underlying24 Tryd.underlying5
  go_wp2_with fail
  have hy2 : Byt (x1.alloc (.cells #[.int .u8 84, .int .u8 120, .int .u8 78, .int .u8 82] 5 (4, 5))) (.slice (some ⟨x1.heap.size, 0, none⟩) 4 4) mark := Byt.blk (l := mark) (blk_new x1 _) (by decide)
  have hB2 := Base.al hB1 (.cells #[.int .u8 84, .int .u8 120, .int .u8 78, .int .u8 82] 5 (4, 5))
  have kg2 := blk_old (x := .cells #[.int .u8 84, .int .u8 120, .int .u8 78, .int .u8 82] 5 (4, 5)) kg
  generalize (x1.alloc (.cells #[.int .u8 84, .int .u8 120, .int .u8 78, .int .u8 82] 5 (4, 5))) = x2 at *
  clear hcv c0 c1 kg
  refine (P1 _ _ hy2).out.mono ?_; rintro e2 x3 ⟨v3, rfl, hown3, ⟨ad3, n3, m3, rfl⟩, hb3⟩
  have hy3 := own_Byt hown3
  have kg3 := blk_below kg2 hb3
  have hB3 := Base.tr hB2 hb3
  have c0 : x3.cell? ⟨w.heap.size, 0, none⟩ = some (i64 s) := cell_blk kg3 0
  have c1 : x3.cell? ⟨w.heap.size, 1, none⟩ = some (i64 z) := cell_blk kg3 1
  clear kg2 hown3 hb3 hy2 hB2
  go_wp2_with fail
  refine (P2 _ _ _ _ hy3).out.mono ?_; rintro e4 x4 ⟨v4, rfl, hown4, ⟨ad4, n4, m4, rfl⟩, hb4⟩
  have hy4 := own_Byt hown4
  have hB4 := Base.tr hB3 hb4
  clear hown4 hb4 hy3 hB3 c0 c1 kg3
  go_wp2_with fail
  have hy5 := Sl.below hy4 (Base.al (Below.refl _ x4) (.cells #[] 5))
  have hB5 := Base.al hB4 (.cells #[] 5)
  have hy0 : Byt (x4.alloc (.cells #[] 5)) (.slice (some ⟨x4.heap.size, 0, none⟩) 0 0) [] := Byt.blk (l := []) (blk_new x4 _) (by decide)
  generalize hs4 : x4.heap.size = N4 at *
  generalize (x4.alloc (.cells #[] 5)) = x5 at *
  refine (S8 _ _ _ _ hy5).out.mono ?_; rintro e5 x5' ⟨rfl, rfl⟩
  go_wp2_with fail
  refine (P3 _ _ hy0).out.mono ?_; rintro e6 x6 ⟨v6, rfl, hown6, ⟨ad6, n6, m6, rfl⟩, hb6⟩
  have hcv6 := conv_any (own_Byt hown6)
  have hB6 := Base.tr hB5 hb6
  clear hown6 hb6 hy0 hy5 hB5 hy4 hB4
  go_wp2_with fail
  go_ret
  exact ⟨by rw [← HR.out]; rfl, hB6⟩
end Go.Proofs.YteieaelinkdahaaDoor

/- The reference's class of a sector's bytes. -/
namespace Go.Proofs.YteieaelinkdahaaDoor
open Go.RowKit

set_option maxHeartbeats 4000000 in
set_option maxRecDepth 100000 in
theorem rClass_any (s z : Int) (A : Option Addr) (n cap : Nat) (l : List Nat) (w : World) (h : Byt w (.slice A n cap) l) (hl : ∀ b ∈ l, b < 256) (hm : l.length ≤ 100000) : Makes 16 #[geo s z, .slice A n cap] w (i64 (classB s z l)) := by
  have hn := h.len
  rw [List.length_map] at hn
  subst hn
  have G0 := fun W => rMay_any s z W
  cases hg : geoB s z
  · have hv : classB s z l = 2 := by unfold classB geoN; rw [hg]; rfl
    rw [hv]
    rw [hg] at G0
    have HG0 := fun W => Lib.hid (G0 W)
    clear hv hg h G0 hm
    go_enter Tryd.func16, Tryd.ntmps16
    go_wp2_with fail
    refine (HG0 _).out.mono ?_; rintro e x1 ⟨rfl, hb1⟩
    go_wp2_with fail
    go_ret
    exact ⟨rfl, Base.tr (Base.al (Below.refl _ _) _) hb1⟩
  rw [hg] at G0
  have HG0 := fun W => Lib.hid (G0 W)
  clear G0
  by_cases hz : ¬ (l.length : Int) = z
  · have hv : classB s z l = 2 := by unfold classB geoN; rw [hg, beq_eq_false_iff_ne.2 hz]; rfl
    rw [hv]
    have t1 : ((l.length : Int) == z) = false := beq_eq_false_iff_ne.2 hz
    clear hv hg h hz hm
    go_enter Tryd.func16, Tryd.ntmps16
    go_wp2_with fail
    refine (HG0 _).out.mono ?_; rintro e x1 ⟨rfl, hb1⟩
    obtain ⟨q1, -⟩ := rd hb1
    go_wp2_with fail
    go_ret
    exact ⟨rfl, Base.tr (Base.al (Below.refl _ _) _) hb1⟩
  have hz := Decidable.not_not.1 hz
  obtain ⟨g1, g2, g3, g4⟩ := geoB_yes hg
  have hv : classB s z l = if l.take 8 = headOf s.toNat z.toNat then 1 else if blankB l then 0 else 2 := by
    unfold classB geoN; rw [hg, beq_iff_eq.2 hz]; rfl
  obtain ⟨s', rfl⟩ : ∃ s' : Nat, s = s' := ⟨s.toNat, by omega⟩
  subst hz
  simp only [Int.toNat_natCast] at hv
  have HO := fun W => Lib.hid (rOf_any s' l.length W hg)
  have t1 : ((l.length : Int) == (l.length : Int)) = true := beq_self_eq_true _
  have hcap : 8 ≤ cap := by
    obtain ⟨_, c', hv', hle, _⟩ := h
    injection hv' with _ _ hv'
    subst hv'
    rw [List.length_map] at hle
    omega
  have hcm : cap ≤ maxLen := by
    obtain ⟨_, c', hv', _, hmx, _⟩ := h
    injection hv' with _ _ hv'
    subst hv'
    exact hmx
  obtain ⟨ab, off, rfl, hab, hx⟩ := Byt.cell h (by omega)
  have HP : ∀ W, Below w.heap.size w W → Byt W (.slice (some ⟨ab, off, none⟩) 8 cap) (l.take 8) := fun W hW => by
    have := Byt.piece (Sl.below h hW) 0 8 cap (by omega) (by omega) hcm
    simpa using this
  have HCV := fun W hW => conv_any (HP W hW)
  have HX := Lib.hid hx
  clear hx
  have hs8 : ((toB (l.take 8)).toList == (toB (headOf s' l.length)).toList) = decide (l.take 8 = headOf s' l.length) := by
    rw [Bool.eq_iff_iff, beq_iff_eq, decide_eq_true_iff]
    refine ⟨fun e => ?_, fun e => by rw [e]⟩
    rw [ByteArray.toList_eq, ByteArray.toList_eq] at e
    have := congrArg sb (ByteArray.ext (Array.toList_inj.1 e))
    rwa [sb_toB _ (fun b hb => hl b (List.mem_of_mem_take hb)), sb_toB _ (headOf_lt _ _)] at this
  clear HP hm
  by_cases heq : l.take 8 = headOf s' l.length
  · rw [if_pos heq] at hv
    rw [decide_eq_true heq] at hs8
    rw [hv]
    clear hv heq hl hg h
    go_enter Tryd.func16, Tryd.ntmps16
    go_wp2_with fail
    refine (HG0 _).out.mono ?_; rintro e x1 ⟨rfl, hb1⟩
    have hs1 : w.heap.size < x1.heap.size := by have := hb1.size; simp at this; omega
    have hB1 := Base.tr (Base.al (Below.refl _ w) _) hb1
    have kg := blk_below (blk_new w _) hb1
    have c0 : x1.cell? ⟨w.heap.size, 0, none⟩ = some (i64 s') := cell_blk kg 0
    have c1 : x1.cell? ⟨w.heap.size, 1, none⟩ = some (i64 l.length) := cell_blk kg 1
    clear kg hb1
    have h8i : (8 : Int) ≤ (cap : Int) := by omega
    have k0 := fun p : OnOf x1 => on_cell (by show w.heap.size < _; omega) c0 p
    have k1 := fun p : OnOf x1 => on_cell (by show w.heap.size < _; omega) c1 p
    have kc := fun p : OnOf x1 => HCV p.v (Base.tr hB1 p.h)
    go_wp2_with fail
    have on0 := @on_rd0; have on1 := @on_rd1; have on2 := @on_rd2; have on3 := @on_new1; have on4 := @on_new2
    refine wp_region_quiet_on (by kernel_rfl) (by kernel_rfl) ?_
    repeat ((with_reducible refine wpQuiet_step (fun K hK => ?_)); go_simp; first | ((with_reducible refine hK _ ?_); clear hK K) | (rw [if_neg (by intro h; cases h)]; (with_reducible refine hK _ ?_); clear hK K) | (apply Exists.intro; refine ⟨fun _ => ?_, hK _ ?_⟩; ((with_reducible exact on_of (HO _).out)); clear hK K))
    clear on0 on1 on2 on3 on4
    with_reducible refine wpQuiet_nil ?_
    intro _ hw'
    obtain ⟨pq, hw''⟩ := hw'
    subst hw''
    go_wp2_with fail
    go_ret
    exact ⟨rfl, Base.tr hB1 pq.h⟩
  · rw [if_neg heq] at hv
    rw [decide_eq_false heq] at hs8
    rw [hv]
    clear hv heq hl hg
    obtain ⟨R, hR⟩ : ∃ R, (if blankB l = true then 0 else 2) = R := ⟨_, rfl⟩
    rw [hR]
    have HR0 : Hid ((if blankB (l.drop 0) = true then 0 else 2) = R) := Lib.hid hR
    clear hR
    go_enter Tryd.func16, Tryd.ntmps16
    go_wp2_with fail
    refine (HG0 _).out.mono ?_; rintro e x1 ⟨rfl, hb1⟩
    have hs1 : w.heap.size < x1.heap.size := by have := hb1.size; simp at this; omega
    have hB1 := Base.tr (Base.al (Below.refl _ w) _) hb1
    have kg := blk_below (blk_new w _) hb1
    have c0 : x1.cell? ⟨w.heap.size, 0, none⟩ = some (i64 s') := cell_blk kg 0
    have c1 : x1.cell? ⟨w.heap.size, 1, none⟩ = some (i64 l.length) := cell_blk kg 1
    clear kg hb1
    have h8i : (8 : Int) ≤ (cap : Int) := by omega
    have k0 := fun p : OnOf x1 => on_cell (by show w.heap.size < _; omega) c0 p
    have k1 := fun p : OnOf x1 => on_cell (by show w.heap.size < _; omega) c1 p
    have kc := fun p : OnOf x1 => HCV p.v (Base.tr hB1 p.h)
    go_wp2_with fail
    have on0 := @on_rd0; have on1 := @on_rd1; have on2 := @on_rd2; have on3 := @on_new1; have on4 := @on_new2
    refine wp_region_quiet_on (by kernel_rfl) (by kernel_rfl) ?_
    repeat ((with_reducible refine wpQuiet_step (fun K hK => ?_)); go_simp; first | ((with_reducible refine hK _ ?_); clear hK K) | (rw [if_neg (by intro h; cases h)]; (with_reducible refine hK _ ?_); clear hK K) | (apply Exists.intro; refine ⟨fun _ => ?_, hK _ ?_⟩; ((with_reducible exact on_of (HO _).out)); clear hK K))
    clear on0 on1 on2 on3 on4
    with_reducible refine wpQuiet_nil ?_
    intro _ hw'
    obtain ⟨pq, hw''⟩ := hw'
    subst hw''
    go_wp2_with fail
    have hB2 := Base.tr hB1 pq.h
    generalize pq.v = x2 at *
    go_loopw [24] (fun i wr => ∃ j : Nat, j ≤ l.length ∧ i = .int .i64 j ∧ Hid ((if blankB (l.drop j) = true then 0 else 2) = R) ∧ wr = x2) (fun i _ => l.length - (intOf i).toNat)
    case atStart => exact ⟨0, Nat.zero_le _, rfl, HR0, rfl⟩
    case round =>
      obtain ⟨j, hj, rfl, hR, rfl⟩ := hrel
      by_cases hlt : j < l.length
      · obtain ⟨x, hx0⟩ : ∃ x, l[j]? = some x := ⟨_, List.getElem?_eq_getElem hlt⟩
        have cj := (Sl.below h hB2)
        obtain ⟨ab', off', he', -, hx'⟩ := Byt.cell cj (by omega)
        injection he' with he'
        injection he' with he1 he2
        subst he1; subst he2
        have c0 := hx' j (bv x) (by rw [List.getElem?_map, hx0]; rfl)
        rw [Addr.add_lit] at c0
        have hbd := blankB_drop hx0
        have hRo := hR.out
        rw [hbd] at hRo
        clear hx' cj
        by_cases hff : x = 255
        · subst hff
          have HR1 : Hid ((if blankB (l.drop (j + 1)) = true then 0 else 2) = R) := Lib.hid (by rw [← hRo]; rfl)
          have t3 : ((255 : Int) == 255) = true := rfl
          clear hRo hbd hR
          go_wp2_with fail
          exact ⟨⟨j + 1, by omega, by go_num, HR1, trivial⟩, by simp [intOf]; omega⟩
        · have t3 : ((x : Int) == 255) = false := by rw [beq_eq_false_iff_ne]; omega
          have HR1 : Hid (2 = R) := Lib.hid (by rw [← hRo, beq_eq_false_iff_ne.2 hff]; rfl)
          clear hRo hbd hR
          go_wp2_with fail
          go_ret
          exact ⟨by rw [← HR1.out]; rfl, hB2⟩
      · have hje : j = l.length := by omega
        subst hje
        have HR1 : Hid (0 = R) := Lib.hid (by rw [← hR.out, List.drop_length]; rfl)
        clear hR
        go_wp2_with fail
        go_ret
        exact ⟨by rw [← HR1.out]; rfl, hB2⟩
end Go.Proofs.YteieaelinkdahaaDoor

