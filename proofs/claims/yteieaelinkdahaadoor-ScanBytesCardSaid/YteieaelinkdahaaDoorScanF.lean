/- flintlaw08.fixed: the chapter's example. -/
import Derived.Test.YteieaelinkdahaaDoorScan01
import Derived.Test.YteieaelinkdahaaDoorHeadX
import Derived.Test.YteieaelinkdahaaDoorPh2
import Derived.Lib.AppendStr
import Derived.Deep.RegionHeld3
namespace Go.Proofs.YteieaelinkdahaaDoor
open Go Go.RowKit Flo

theorem own_valn {w : World} {base : Nat} {e : TypeId} {size : Nat} {v : Value} {n : Nat} {xs : List Value} (h : w.ownsRow base e size v n xs) : ∃ A c, v = .slice A n c := by
  rcases h.2 with ⟨h1, h2⟩ | ⟨g', c', _, h1, _⟩
  · exact ⟨_, _, by rw [h1, h2]⟩
  · exact ⟨_, _, h1⟩
/-- The example's bytes. -/
def exB (j : Nat) : List Nat := headOf 6 512 ++ List.replicate j 255
theorem exB_len (j : Nat) : (exB j).length = 8 + j := by unfold exB; rw [List.length_append, headOf_len, List.length_replicate]
theorem exB_succ (j : Nat) : exB (j + 1) = exB j ++ [255] := by unfold exB; rw [List.replicate_succ', List.append_assoc]
theorem exB_lt (j : Nat) : ∀ b ∈ exB j, b < 256 := by
  intro b hb
  unfold exB at hb
  rcases List.mem_append.1 hb with h | h
  · exact headOf_lt _ _ _ h
  · rw [(List.mem_replicate.1 h).2]; decide
theorem exB_scan : scanB 6 512 3 (exB 504) = ⟨1, 8, false, []⟩ := by
  have hl : (exB 504).length = 512 := exB_len 504
  have ht : (exB 504).take 8 = headOf 6 512 := by unfold exB; exact List.take_left' (headOf_len _ _)
  have hd : (exB 504).drop 8 = List.replicate 504 255 := by unfold exB; exact List.drop_left' (headOf_len _ _)
  have hc : classB 6 512 (exB 504) = 1 := by
    unfold classB geoN
    rw [hl, if_neg (by decide)]
    exact if_pos ht
  have hb : blankB (List.replicate 504 255) = true := by
    unfold blankB
    rw [List.all_eq_true]
    intro x hx
    rw [(List.mem_replicate.1 hx).2]; rfl
  have hr : recClass (exB 504) 8 = (0, [], 0) := by
    unfold recClass
    rw [hl, hd, hb, if_neg (by decide), if_pos rfl]
  have hs : ∀ n, scanN 3 (exB 504) n 8 [] = (8, []) := fun n => scanN_stop (by rw [hr]; decide) (by rw [hr]; intro h; rcases h.1 with h | h <;> cases h)
  unfold scanB
  rw [if_pos hc, hs]
  show Scan.mk 1 8 (!decide ((recClass (exB 504) 8).1 = 0) || decide ((exB 504).length ≤ 8)) [] = _
  rw [hr, hl]
  rfl

def lenV : Value → Nat | .slice _ n _ => n | _ => 0
set_option maxHeartbeats 4000000 in
set_option maxRecDepth 100000 in
theorem bytesEx_any (w : World) : Calls Tryd.prog 9 #[geo 6 512, .bool true, .slice none 0 0] w fun e w' =>
    ∃ ad c, e = .returned (.slice (some ad) 512 c) ∧ Byt w' (.slice (some ad) 512 c) (exB 504) ∧ Below w.heap.size w w' := by
  have HO := fun W => Lib.hid (rOf_any 6 512 W rfl)
  obtain ⟨i0, hi, hz0, hz1, hz2⟩ := info_parts info_u8
  go_enter Tryd.func9, Tryd.ntmps9
  go_wp2_with fail
  refine (HO _).out.mono ?_; rintro e x1 ⟨rfl, hb1⟩
  have hs1 : w.heap.size < x1.heap.size := by have := hb1.size; simp at this; omega
  have hB1 := Base.tr (Base.al (Below.refl _ w) _) hb1
  have kg := blk_below (blk_new w _) hb1
  clear hb1
  have hown0 : x1.ownsRow (w.heap.size + 1) 5 1 (.slice none 0 0) 0 [] := World.ownsRow_nil _ _ _ _
  go_wp2_with (at_builtin; refine Lib.wpList_append_own_string _ rfl _ _ 24 9 rfl (w.heap.size + 1) 5 i0 Tryd.underlying24 Tryd.underlying9 hi hz0 hz1 hz2 _ _ _ rfl hown0 (toB (headOf 6 512)) rfl ?c1 ?c2 ?c3 ?_)
  case c1 => unfold maxLen; rw [toB_size, headOf_len]; decide
  case c2 => rw [toB_size, headOf_len]; decide
  case c3 => omega
  intro v' w2 hown2 hgrow _
  have hb2 := Base.gr hB1 hgrow (fun g hg => by have := (hown0.lt g hg).1; omega)
  have kg2 := (hgrow.block w.heap.size (by omega) (by simp [Value.ownBlock])).trans kg
  rw [strCells_sb, sb_toB _ (headOf_lt _ _), toB_size, headOf_len] at hown2
  have hown3 : w2.ownsRow (w.heap.size + 1) 5 1 v' (8 + 0) ((exB 0).map bv) := by
    have : exB 0 = headOf 6 512 := by unfold exB; simp
    rw [this]; exact hown2
  clear hown2 hgrow hB1 kg hown0
  go_wp2_with fail
  go_loopw [7, 19] (fun u i wr => u = v' ∧ i = .int .i64 0 ∧ wr = w2) (fun _ _ _ => 0)
  case atStart => exact ⟨rfl, rfl, rfl⟩
  case round =>
    obtain ⟨rfl, rfl, rfl⟩ := hrel
    go_wp2_with fail
    go_loopw [7] (fun v wr => ∃ j, j ≤ 504 ∧ wr.ownsRow (w.heap.size + 1) 5 1 v (8 + j) ((exB j).map bv) ∧ Below w.heap.size w wr ∧ wr.heap[w.heap.size]? = some (.cells #[i64 6, i64 512] 23 (0, 0))) (fun v _ => 512 - lenV v)
    case atStart => exact ⟨0, Nat.zero_le _, hown3, hb2, kg2⟩
    case round =>
      obtain ⟨j, hj, hown, hb, kg⟩ := hrel
      clear hown3 hb2 kg2
      obtain ⟨g, gc, rfl, hg1, hg2, hgc, -⟩ := own_pos hown (by omega) (by decide)
      have c1 : wr.cell? ⟨w.heap.size, 1, none⟩ = some (i64 512) := cell_blk kg 1
      have hsz := (Array.getElem?_eq_some_iff.1 kg).1
      by_cases hlt : j < 504
      · have hle : w.heap.size + 1 ≤ wr.heap.size := by omega
        have hsu := exB_succ j
        have HSU := Lib.hid hsu
        clear hsu
        go_wp2_with (at_builtin; refine wpList_append_own _ rfl _ _ 24 rfl (w.heap.size + 1) 5 i0 _ 1 1 Tryd.underlying24 hi hz0 hz1 hz2 rfl (by decide) _ _ _ rfl (hown.alloc _) ⟨wr.heap.size, 0, none⟩ 1 1 [.int .u8 255] rfl rfl ?c1 ?c2 ?c3 ?c4 ?c5 ?_)
        case c1 => exact news_of _ _ _
        case c2 => simp [Value.oneCell']
        case c3 => unfold maxLen; omega
        case c4 => omega
        case c5 => simp; omega
        intro v' w5 hown2 hgrow _
        have hb4 := Base.gr (Base.al hb _) hgrow (fun g hg => by have := (hown.lt g hg).1; omega)
        have kg2 := (hgrow.block w.heap.size (by simp; omega) (fun e => by have := (hown.lt _ e.symm).1; omega)).trans (blk_old kg)
        have hown4 : w5.ownsRow (w.heap.size + 1) 5 1 v' (8 + (j + 1)) ((exB (j + 1)).map bv) := by rw [HSU.out, List.map_append]; exact hown2
        clear hgrow hown hown2
        obtain ⟨g', gc', rfl, -, -, -, -⟩ := own_pos hown4 (by omega) (by decide)
        go_wp2_with fail
        refine ⟨⟨j + 1, by omega, hown4, hb4, kg2⟩, ?_⟩
        show 512 - (8 + (j + 1)) < 512 - (8 + j)
        omega
      · obtain rfl : j = 504 := by omega
        have hY := own_Byt (base := w.heap.size + 1) (l := exB 504) (by rw [exB_len]; exact hown)
        rw [show (8 + 504 : Nat) = 512 from rfl] at hY
        have hY' : Byt wr (.slice (some ⟨g, 0, none⟩) 512 gc) (exB 504) := hY
        clear hY
        have h512 : (512 : Int) ≤ (gc : Int) := by omega
        go_wp2_with fail
        go_ret
        exact ⟨_, gc, rfl, hY', hb⟩

set_option maxHeartbeats 1000000 in
set_option maxRecDepth 100000 in
theorem nextNil (w : World) : Gives 10 #[.slice none 0 0] w (.int .u64 1) := by
  go_enter Tryd.func10, Tryd.ntmps10
  go_wp2_with fail
  go_loopw [3, 10] (fun u i wr => u = .int .u64 0 ∧ i = .int .i64 0 ∧ wr = w) (fun _ _ _ => 0)
  case atStart => exact ⟨rfl, rfl, rfl⟩
  case round =>
    obtain ⟨rfl, rfl, rfl⟩ := hrel
    go_wp2_with fail
    go_ret
    exact ⟨rfl, rfl⟩

theorem scanOf_any (s z : Int) (k : Nat) (A : Option Addr) (n cap : Nat) (l : List Nat) (w : World) (h : Byt w (.slice A n cap) l) (hl : ∀ b ∈ l, b < 256) (hm : l.length ≤ 100000) (hk : k ≤ 2147483647) :
    Calls Tryd.prog 7 #[geo s z, i64 k, .slice A n cap] w (ScanPost w (scanB s z k l)) := by
  have hn := h.len
  rw [List.length_map] at hn
  subst hn
  unfold scanB
  rcases classB_cases s z l with hc | hc | hc
  · rw [if_neg (by omega), hc]
    exact scanOf_no s z k A cap l w h hm 0 hc (.inl rfl)
  · rw [if_pos hc]
    exact scanOf_yes s z k A cap l w h hl hk hc
  · rw [if_neg (by omega), hc]
    exact scanOf_no s z k A cap l w h hm 2 hc (.inr rfl)

set_option maxHeartbeats 4000000 in
set_option maxRecDepth 100000 in
theorem fixed8 (w : World) (g0 : w.cell? ⟨0, 0, none⟩ = some (i64 6)) (g1 : w.cell? ⟨0, 1, none⟩ = some (i64 512)) (hg : 0 < w.heap.size) : Makes 4 #[] w (.bool true) := by
  have HB := fun W => Lib.hid (bytesEx_any W)
  have HS := fun (W : World) A n c (hy : Byt W (.slice A n c) (exB 504)) => Lib.hid (scanOf_any 6 512 3 A n c (exB 504) W hy (exB_lt _) (by rw [exB_len]; decide) (by decide))
  unfold ScanPost at HS
  rw [exB_scan] at HS
  have HN := fun W => Lib.hid (nextNil W)
  have SO := fun W (hb : Below w.heap.size w W) => (show W.cell? ⟨0, 0, none⟩ = some (i64 6) ∧ W.cell? ⟨0, 1, none⟩ = some (i64 512) ∧ Below w.heap.size w W from ⟨(hb.cell (p := ⟨0, 0, none⟩) hg).trans g0, (hb.cell (p := ⟨0, 1, none⟩) hg).trans g1, hb⟩)
  have HSO := fun W => Lib.hid (SO W)
  clear SO
  go_enter Tryd.func4, Tryd.ntmps4
  go_wp2_with fail
  go_region_held3 (fun w' => w'.cell? ⟨0, 0, none⟩ = some (i64 6) ∧ w'.cell? ⟨0, 1, none⟩ = some (i64 512) ∧ Below w.heap.size w w')
    (first | (refine (HSO _).out ?_; (repeat (first | assumption | exact Below.refl _ _ | refine Base.al ?_ _ | refine Base.dr ?_ | (refine Base.st ?_ (by first | exact Nat.le_refl _ | omega) _ _))); done))
    (first | (go_at_call 9; refine (HB _).out.mono ?_; rintro e x4 ⟨ad, cp, rfl, hy4, hb4⟩; have hB4 := Base.tr (a := w) (by go_split_ands; assumption) hb4; have hz4 := hb4.size; (try simp at hz4); (try have kz4 := blk_below (w := (w.alloc (.cells #[.int .i64 0, .int .i64 0, .bool false, .slice none 0 0] 31)).drew) (blk_new w (.cells #[.int .i64 0, .int .i64 0, .bool false, .slice none 0 0] 31)) hb4)) | (go_at_call 7; refine (HS _ _ _ _ (by first | exact hy4 | exact Sl.below hy4 (Base.al (Below.refl _ _) _))).out.mono ?_; rintro e x5 ⟨v5, rfl, hown5, hb5⟩; obtain ⟨A5, c5, rfl⟩ := own_valn hown5; have hB5 := Base.tr (a := w) (by go_split_ands; assumption) hb5; have hz5 := hb5.size; (try simp at hz5); (try have kz5 := blk_below kz4 hb5); (try have kz5 := blk_below (show _ = some (Obj.cells #[.int .i64 0, .int .i64 0, .bool false, .slice none 0 0] 31 (0, 0)) from blk_new x4 (.cells #[.int .i64 0, .int .i64 0, .bool false, .slice none 0 0] 31)) hb5); (try (have z0 := cell_blk kz5 0; have z1 := cell_blk kz5 1; have z2 := cell_blk kz5 2; have z3 := cell_blk kz5 3; have fz := fun o => frozen_blk kz5 o))))
  all_goals
    go_wp2_with fail
    refine (HN _).out.mono ?_; rintro e6 x6 ⟨rfl, rfl⟩
    go_wp2_with fail
    go_ret
    have hzz := hB4.size
    exact ⟨rfl, by repeat (first | assumption | refine Base.st ?_ (by first | exact Nat.le_refl _ | exact hzz) _ _ | refine Base.al ?_ _)⟩
end Go.Proofs.YteieaelinkdahaaDoor
