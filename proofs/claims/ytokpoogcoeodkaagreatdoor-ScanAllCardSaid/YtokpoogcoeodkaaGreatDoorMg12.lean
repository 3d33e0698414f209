/- flintlaw08.fixed: the chapter's example. -/
import Derived.Test.YtokpoogcoeodkaaGreatDoorScan1
import Derived.Test.YtokpoogcoeodkaaGreatDoorMg11
import Derived.Test.YtokpoogcoeodkaaGreatDoorPh2
import Derived.Lib.AppendStr
import Derived.Deep.RegionHeld3
import Derived.Test.YtokpoogcoeodkaaGreatDoorScan2
import Derived.Test.YtokpoogcoeodkaaGreatDoorMg3
import Derived.Test.YtokpoogcoeodkaaGreatDoorMg9
import Derived.Laws.StructEq
import Derived.Test.YtokpoogcoeodkaaGreatDoorMg16
namespace Go.Proofs.YtokpoogcoeodkaaGreatDoor
open Go Go.RowKit Flo

theorem own_valn {w : World} {base : Nat} {e : TypeId} {size : Nat} {v : Value} {n : Nat} {xs : List Value} (h : w.ownsRow base e size v n xs) : ∃ A c, v = .slice A n c := by
  rcases h.2 with ⟨h1, h2⟩ | ⟨g', c', _, h1, _⟩
  · exact ⟨_, _, by rw [h1, h2]⟩
  · exact ⟨_, _, h1⟩
/-- The example's bytes. -/
def exB (j : Nat) : List Nat := headOf 6 512 ++ List.replicate j 255
theorem exB_len (j : Nat) : (exB j).length = 8 + j := by unfold exB; rw [List.length_append, headOf_len, List.length_replicate]
theorem exB_succ (j : Nat) : exB (j + 1) = exB j ++ [255] := by unfold exB; rw [List.replicate_succ', List.append_assoc]
theorem exB_lt (j : Nat) : ∀ b ∈ exB j, b < 256 := by
  intro b hb
  unfold exB at hb
  rcases List.mem_append.1 hb with h | h
  · exact headOf_lt _ _ _ h
  · rw [(List.mem_replicate.1 h).2]; decide
theorem exB_scan : scanB 6 512 3 (exB 504) = ⟨1, 8, false, []⟩ := by
  have hl : (exB 504).length = 512 := exB_len 504
  have ht : (exB 504).take 8 = headOf 6 512 := by unfold exB; exact List.take_left' (headOf_len _ _)
  have hd : (exB 504).drop 8 = List.replicate 504 255 := by unfold exB; exact List.drop_left' (headOf_len _ _)
  have hc : classB 6 512 (exB 504) = 1 := by
    unfold classB geoN
    rw [hl, if_neg (by decide)]
    exact if_pos ht
  have hb : blankB (List.replicate 504 255) = true := by
    unfold blankB
    rw [List.all_eq_true]
    intro x hx
    rw [(List.mem_replicate.1 hx).2]; rfl
  have hr : recClass (exB 504) 8 = (0, [], 0) := by
    unfold recClass
    rw [hl, hd, hb, if_neg (by decide), if_pos rfl]
  have hs : ∀ n, scanN 3 (exB 504) n 8 [] = (8, []) := fun n => scanN_stop (by rw [hr]; decide) (by rw [hr]; intro h; rcases h.1 with h | h <;> cases h)
  unfold scanB
  rw [if_pos hc, hs]
  show Scan.mk 1 8 (!decide ((recClass (exB 504) 8).1 = 0) || decide ((exB 504).length ≤ 8)) [] = _
  rw [hr, hl]
  rfl

def lenV : Value → Nat | .slice _ n _ => n | _ => 0
set_option maxHeartbeats 4000000 in
set_option maxRecDepth 100000 in
theorem bytesEx_any (w : World) : Calls Tryz.prog 43 #[geo 6 512, .bool true, .slice none 0 0] w fun e w' =>
    ∃ ad c, e = .returned (.slice (some ad) 512 c) ∧ Byt w' (.slice (some ad) 512 c) (exB 504) ∧ Below w.heap.size w w' := by
  have HO := fun W => Lib.hid (rOf_any 6 512 W rfl)
  obtain ⟨i0, hi, hz0, hz1, hz2⟩ := info_parts info_u8
  go_enter Tryz.func43, Tryz.ntmps43
  go_wp2_with fail
  refine (HO _).out.mono ?_; rintro e x1 ⟨rfl, hb1⟩
  have hs1 : w.heap.size < x1.heap.size := by have := hb1.size; simp at this; omega
  have hB1 := Base.tr (Base.al (Below.refl _ w) _) hb1
  have kg := blk_below (blk_new w _) hb1
  clear hb1
  have hown0 : x1.ownsRow (w.heap.size + 1) 5 1 (.slice none 0 0) 0 [] := World.ownsRow_nil _ _ _ _
  go_wp2_with (at_builtin; refine Lib.wpList_append_own_string _ rfl _ _ 38 9 rfl (w.heap.size + 1) 5 i0 Tryz.underlying38 Tryz.underlying9 hi hz0 hz1 hz2 _ _ _ rfl hown0 (toB (headOf 6 512)) rfl ?c1 ?c2 ?c3 ?_)
  case c1 => unfold maxLen; rw [toB_size, headOf_len]; decide
  case c2 => rw [toB_size, headOf_len]; decide
  case c3 => omega
  intro v' w2 hown2 hgrow _
  have hb2 := Base.gr hB1 hgrow (fun g hg => by have := (hown0.lt g hg).1; omega)
  have kg2 := (hgrow.block w.heap.size (by omega) (by simp [Value.ownBlock])).trans kg
  rw [strCells_sb, sb_toB _ (headOf_lt _ _), toB_size, headOf_len] at hown2
  have hown3 : w2.ownsRow (w.heap.size + 1) 5 1 v' (8 + 0) ((exB 0).map bv) := by
    have : exB 0 = headOf 6 512 := by unfold exB; simp
    rw [this]; exact hown2
  clear hown2 hgrow hB1 kg hown0
  go_wp2_with fail
  go_loopw [7, 19] (fun u i wr => u = v' ∧ i = .int .i64 0 ∧ wr = w2) (fun _ _ _ => 0)
  case atStart => exact ⟨rfl, rfl, rfl⟩
  case round =>
    obtain ⟨rfl, rfl, rfl⟩ := hrel
    go_wp2_with fail
    go_loopw [7] (fun v wr => ∃ j, j ≤ 504 ∧ wr.ownsRow (w.heap.size + 1) 5 1 v (8 + j) ((exB j).map bv) ∧ Below w.heap.size w wr ∧ wr.heap[w.heap.size]? = some (.cells #[i64 6, i64 512] 28 (0, 0))) (fun v _ => 512 - lenV v)
    case atStart => exact ⟨0, Nat.zero_le _, hown3, hb2, kg2⟩
    case round =>
      obtain ⟨j, hj, hown, hb, kg⟩ := hrel
      clear hown3 hb2 kg2
      obtain ⟨g, gc, rfl, hg1, hg2, hgc, -⟩ := own_pos hown (by omega) (by decide)
      have c1 : wr.cell? ⟨w.heap.size, 1, none⟩ = some (i64 512) := cell_blk kg 1
      have hsz := (Array.getElem?_eq_some_iff.1 kg).1
      by_cases hlt : j < 504
      · have hle : w.heap.size + 1 ≤ wr.heap.size := by omega
        have hsu := exB_succ j
        have HSU := Lib.hid hsu
        clear hsu
        go_wp2_with (at_builtin; refine wpList_append_own _ rfl _ _ 38 rfl (w.heap.size + 1) 5 i0 _ 1 1 Tryz.underlying38 hi hz0 hz1 hz2 rfl (by decide) _ _ _ rfl (hown.alloc _) ⟨wr.heap.size, 0, none⟩ 1 1 [.int .u8 255] rfl rfl ?c1 ?c2 ?c3 ?c4 ?c5 ?_)
        case c1 => exact news_of _ _ _
        case c2 => simp [Value.oneCell']
        case c3 => unfold maxLen; omega
        case c4 => omega
        case c5 => simp; omega
        intro v' w5 hown2 hgrow _
        have hb4 := Base.gr (Base.al hb _) hgrow (fun g hg => by have := (hown.lt g hg).1; omega)
        have kg2 := (hgrow.block w.heap.size (by simp; omega) (fun e => by have := (hown.lt _ e.symm).1; omega)).trans (blk_old kg)
        have hown4 : w5.ownsRow (w.heap.size + 1) 5 1 v' (8 + (j + 1)) ((exB (j + 1)).map bv) := by rw [HSU.out, List.map_append]; exact hown2
        clear hgrow hown hown2
        obtain ⟨g', gc', rfl, -, -, -, -⟩ := own_pos hown4 (by omega) (by decide)
        go_wp2_with fail
        refine ⟨⟨j + 1, by omega, hown4, hb4, kg2⟩, ?_⟩
        show 512 - (8 + (j + 1)) < 512 - (8 + j)
        omega
      · obtain rfl : j = 504 := by omega
        have hY := own_Byt (base := w.heap.size + 1) (l := exB 504) (by rw [exB_len]; exact hown)
        rw [show (8 + 504 : Nat) = 512 from rfl] at hY
        have hY' : Byt wr (.slice (some ⟨g, 0, none⟩) 512 gc) (exB 504) := hY
        clear hY
        have h512 : (512 : Int) ≤ (gc : Int) := by omega
        go_wp2_with fail
        go_ret
        exact ⟨_, gc, rfl, hY', hb⟩

set_option maxHeartbeats 1000000 in
set_option maxRecDepth 100000 in
theorem nextNil (w : World) : Gives 44 #[.slice none 0 0] w (.int .u64 1) := by
  go_enter Tryz.func44, Tryz.ntmps44
  go_wp2_with fail
  go_loopw [3, 10] (fun u i wr => u = .int .u64 0 ∧ i = .int .i64 0 ∧ wr = w) (fun _ _ _ => 0)
  case atStart => exact ⟨rfl, rfl, rfl⟩
  case round =>
    obtain ⟨rfl, rfl, rfl⟩ := hrel
    go_wp2_with fail
    go_ret
    exact ⟨rfl, rfl⟩

theorem scanOf_any (s z : Int) (k : Nat) (A : Option Addr) (n cap : Nat) (l : List Nat) (w : World) (h : Byt w (.slice A n cap) l) (hl : ∀ b ∈ l, b < 256) (hm : l.length ≤ 100000) (hk : k ≤ 2147483647) :
    Calls Tryz.prog 42 #[geo s z, i64 k, .slice A n cap] w (ScanPost w (scanB s z k l)) := by
  have hn := h.len
  rw [List.length_map] at hn
  subst hn
  unfold scanB
  rcases classB_cases s z l with hc | hc | hc
  · rw [if_neg (by omega), hc]
    exact scanOf_no s z k A cap l w h hm 0 hc (.inl rfl)
  · rw [if_pos hc]
    exact scanOf_yes s z k A cap l w h hl hk hc
  · rw [if_neg (by omega), hc]
    exact scanOf_no s z k A cap l w h hm 2 hc (.inr rfl)

set_option maxHeartbeats 4000000 in
set_option maxRecDepth 100000 in
theorem fixed8 (w : World) (g0 : w.cell? ⟨0, 0, none⟩ = some (i64 6)) (g1 : w.cell? ⟨0, 1, none⟩ = some (i64 512)) (hg : 0 < w.heap.size) : Makes 13 #[] w (.bool true) := by
  have HB := fun W => Lib.hid (bytesEx_any W)
  have HS := fun (W : World) A n c (hy : Byt W (.slice A n c) (exB 504)) => Lib.hid (scanOf_any 6 512 3 A n c (exB 504) W hy (exB_lt _) (by rw [exB_len]; decide) (by decide))
  unfold ScanPost at HS
  rw [exB_scan] at HS
  have HN := fun W => Lib.hid (nextNil W)
  have SO := fun W (hb : Below w.heap.size w W) => (show W.cell? ⟨0, 0, none⟩ = some (i64 6) ∧ W.cell? ⟨0, 1, none⟩ = some (i64 512) ∧ Below w.heap.size w W from ⟨(hb.cell (p := ⟨0, 0, none⟩) hg).trans g0, (hb.cell (p := ⟨0, 1, none⟩) hg).trans g1, hb⟩)
  have HSO := fun W => Lib.hid (SO W)
  clear SO
  go_enter Tryz.func13, Tryz.ntmps13
  go_wp2_with fail
  go_region_held3 (fun w' => w'.cell? ⟨0, 0, none⟩ = some (i64 6) ∧ w'.cell? ⟨0, 1, none⟩ = some (i64 512) ∧ Below w.heap.size w w')
    (first | (refine (HSO _).out ?_; (repeat (first | assumption | exact Below.refl _ _ | refine Base.al ?_ _ | refine Base.dr ?_ | (refine Base.st ?_ (by first | exact Nat.le_refl _ | omega) _ _))); done))
    (first | (go_at_call 43; refine (HB _).out.mono ?_; rintro e x4 ⟨ad, cp, rfl, hy4, hb4⟩; have hB4 := Base.tr (a := w) (by go_split_ands; assumption) hb4; have hz4 := hb4.size; (try simp at hz4); (try have kz4 := blk_below (w := (w.alloc (.cells #[.int .i64 0, .int .i64 0, .bool false, .slice none 0 0] 52)).drew) (blk_new w (.cells #[.int .i64 0, .int .i64 0, .bool false, .slice none 0 0] 52)) hb4)) | (go_at_call 42; refine (HS _ _ _ _ (by first | exact hy4 | exact Sl.below hy4 (Base.al (Below.refl _ _) _))).out.mono ?_; rintro e x5 ⟨v5, rfl, hown5, hb5⟩; obtain ⟨A5, c5, rfl⟩ := own_valn hown5; have hB5 := Base.tr (a := w) (by go_split_ands; assumption) hb5; have hz5 := hb5.size; (try simp at hz5); (try have kz5 := blk_below kz4 hb5); (try have kz5 := blk_below (show _ = some (Obj.cells #[.int .i64 0, .int .i64 0, .bool false, .slice none 0 0] 52 (0, 0)) from blk_new x4 (.cells #[.int .i64 0, .int .i64 0, .bool false, .slice none 0 0] 52)) hb5); (try (have z0 := cell_blk kz5 0; have z1 := cell_blk kz5 1; have z2 := cell_blk kz5 2; have z3 := cell_blk kz5 3; have fz := fun o => frozen_blk kz5 o))))
  all_goals
    go_wp2_with fail
    refine (HN _).out.mono ?_; rintro e6 x6 ⟨rfl, rfl⟩
    go_wp2_with fail
    go_ret
    have hzz := hB4.size
    exact ⟨rfl, by repeat (first | assumption | refine Base.st ?_ (by first | exact Nat.le_refl _ | exact hzz) _ _ | refine Base.al ?_ _)⟩
end Go.Proofs.YtokpoogcoeodkaaGreatDoor

/- ScanBytes: what is found in any bytes is the document's. -/
namespace Go.Proofs.YtokpoogcoeodkaaGreatDoor
open Go Go.RowKit Flo

theorem rscanOf_any (s z : Int) (k : Nat) (A : Option Addr) (n cap : Nat) (l : List Nat) (w : World) (h : Byt w (.slice A n cap) l) (hl : ∀ b ∈ l, b < 256) (hm : l.length ≤ 100000) (hk : k ≤ 2147483647) :
    Calls Tryz.prog 16 #[geo s z, i64 k, .slice A n cap] w (ScanPost w (scanB s z k l)) := by
  have hn := h.len
  rw [List.length_map] at hn
  subst hn
  unfold scanB
  rcases classB_cases s z l with hc | hc | hc
  · rw [if_neg (by omega), hc]
    exact rscanOf_no s z k A cap l w h hl hm 0 hc (.inl rfl)
  · rw [if_pos hc]
    exact rscanOf_yes s z k A cap l w h hl hk hc
  · rw [if_neg (by omega), hc]
    exact rscanOf_no s z k A cap l w h hl hm 2 hc (.inr rfl)

theorem self_mk {s a : Nat} (z : Int) (b : Bool) (it : Item) (hs : s ≤ 2147483647) (ha : a ≤ 2147483647) (hi : itemEq it it = true) : selfB ⟨near s, near a, z, b, it⟩ = true := by
  unfold selfB
  rw [Bool.and_eq_true]
  exact ⟨cxEq_self (part_some (nearest_Whole hs)) (part_some (nearest_Whole ha)), hi⟩
theorem oneAt_self {s a : Nat} (l : List Nat) (hs : s ≤ 2147483647) (ha : a ≤ 2147483647) : selfB (oneAt s l a) = true := by
  unfold oneAt
  exact self_mk _ _ _ hs ha (gotI_self _)
theorem scanN_self {s : Nat} {l : List Nat} (hs : s ≤ 2147483647) (hl : l.length ≤ 2147483647) : ∀ (k a : Nat) (fs : List Found), a ≤ 2147483647 → (∀ f ∈ fs, selfB f = true) → ∀ f ∈ (scanN s l k a fs).2, selfB f = true
  | 0, _, _, _, h => h
  | k + 1, a, fs, ha, h => by
    have hen : (recClass l a).2.2 ≤ 2147483647 := by
      rcases recClass_cases l a with e | e | ⟨-, -, e, -⟩
      · rw [e]; decide
      · rw [e]; decide
      · omega
    unfold scanN
    split
    · exact scanN_self hs hl k _ _ hen h
    · split
      · refine scanN_self hs hl k _ _ hen fun f hf => ?_
        rcases List.mem_append.1 hf with hf | hf
        · exact h f hf
        · rw [List.mem_singleton.1 hf]; exact oneAt_self l hs ha
      · exact h
theorem scanB_self (s z : Int) {k : Nat} {l : List Nat} (hk : k ≤ 2147483647) (hl : l.length ≤ 2147483647) : ∀ f ∈ (scanB s z k l).found, selfB f = true := by
  unfold scanB
  split
  · exact scanN_self hk hl _ _ _ (by decide) (by intro f hf; cases hf)
  · intro f hf; cases hf

theorem scanN_len (s : Nat) (l : List Nat) : ∀ (k a : Nat) (fs : List Found), (scanN s l k a fs).2.length ≤ fs.length + k
  | 0, _, _ => Nat.le_refl _
  | k + 1, a, fs => by
    unfold scanN
    split
    · have := scanN_len s l k (recClass l a).2.2 fs; omega
    · split
      · have := scanN_len s l k (recClass l a).2.2 (fs ++ [oneAt s l a])
        rw [List.length_append, List.length_singleton] at this
        omega
      · show fs.length ≤ fs.length + (k + 1); omega
theorem scanB_len (s z : Int) (k : Nat) (l : List Nat) : (scanB s z k l).found.length ≤ l.length + 1 := by
  unfold scanB
  split
  · have := scanN_len k l (l.length + 1) 8 []
    simpa using this
  · exact Nat.zero_le _

theorem founds_of {w : World} {base : Nat} {v : Value} {l : List Found} (h : w.ownsRow base 98 11 v l.length (l.flatMap Found.row)) : Founds w v l :=
  Sl.own _ (by intro y hy; obtain ⟨q, _, rfl⟩ := List.mem_map.1 hy; rfl) (by
    rw [List.flatMap_def] at h; rw [List.length_map]; exact h)

abbrev secV (R : Scan) (v : Value) : Value := .agg #[i64 R.cls, i64 R.stop, .bool R.full, v]
set_option maxHeartbeats 1000000 in
set_option maxRecDepth 100000 in
theorem lawOf_any (R : Scan) (A : Option Addr) (n c : Nat) (w : World) : Makes 15 #[secV R (.slice A n c)] w (secV R (.slice A n c)) := by
  go_enter Tryz.func15, Tryz.ntmps15
  go_wp2_with fail
  exact bodyPost_ret (v := secV R (.slice A n c)) (by simp [results, Tryz.results15, go_sem]) rfl ⟨rfl, by repeat (first | exact Below.refl _ _ | refine Base.al ?_ _)⟩

set_option maxHeartbeats 2000000 in
set_option maxRecDepth 100000 in
theorem sameSector_any (R : Scan) (A B : Option Addr) (n m c d : Nat) (w : World) (h1 : Founds w (.slice A n c) R.found) (h2 : Founds w (.slice B m d) R.found) (hs : ∀ f ∈ R.found, selfB f = true) (hm : R.found.length ≤ 60000) :
    Makes 14 #[secV R (.slice A n c), secV R (.slice B m d)] w (.bool true) := by
  have HS := fun W hB => Lib.hid (same_any A B n m c d R.found W (Sl.below (w' := W) h1 hB) (Sl.below h2 hB) hs hm)
  clear h1 h2 hs hm
  go_enter Tryz.func14, Tryz.ntmps14
  go_wp2_with fail
  refine (HS _ (Base.al (Base.al (Below.refl _ _) _) _)).out.mono ?_; rintro e1 x1 ⟨rfl, hb1⟩
  go_wp2_with fail
  go_ret
  exact ⟨rfl, Base.tr (Base.al (Base.al (Below.refl _ _) _) _) hb1⟩

end Go.Proofs.YtokpoogcoeodkaaGreatDoor

/- scan.All: what is gathered, sector by sector, as it stands in memory. -/
namespace Go.Proofs.YtokpoogcoeodkaaGreatDoor
open Go Go.RowKit Flo

theorem keepN {W W' : World} {e : TypeId} {base n size : Nat} {v : Value} {xs : List Value} (own : W.ownsRow base e size v n xs) (hg : W.grownBy W' v.ownBlock) {g : Nat} {c : Array Value} {t : TypeId} {f : Nat × Nat} (hx : W.heap[g]? = some (.cells c t f)) (hne : t ≠ e) : W'.heap[g]? = some (.cells c t f) := by
  rw [hg.block g (Array.getElem?_eq_some_iff.1 hx).1 ?_]
  · exact hx
  · intro he
    rcases own.2 with ⟨h1, _⟩ | ⟨g', cap, cur, h1, _, hgg, _⟩
    · rw [h1] at he; cases he
    · rw [h1] at he
      injection he with he
      subst he
      rw [hx] at hgg
      injection hgg with hgg
      injection hgg with _ h2
      exact hne h2
theorem own_keepN {W W' : World} {e1 e2 : TypeId} {b1 b2 n1 n2 k1 k2 : Nat} {v1 v2 : Value} {xs1 xs2 : List Value} (own : W.ownsRow b1 e1 k1 v1 n1 xs1) (hg : W.grownBy W' v1.ownBlock) (h : W.ownsRow b2 e2 k2 v2 n2 xs2) (hne : e2 ≠ e1) : W'.ownsRow b2 e2 k2 v2 n2 xs2 := by
  refine ⟨h.1, ?_⟩
  rcases h.2 with hn | ⟨g, cap, cur, rfl, hbg, hgg, rest⟩
  · exact .inl hn
  · exact .inr ⟨g, cap, cur, rfl, hbg, keepN own hg hgg hne, rest⟩

/-- A sector as it was found, as cells. -/
def secRow (x : Scan × Value) : List Value := [i64 x.1.cls, i64 x.1.stop, .bool x.1.full, x.2]
noncomputable def secAt (N : Nor) (i : Nat) : Scan := scanB N.S N.Z i (N.data.getD i [])
/-- So many sectors are gathered. -/
structure SecSt (w : World) (N : Nor) (B : Nat) (wr : World) (v : Value) (xs : List (Scan × Value)) : Prop where
  own : wr.ownsRow B 52 4 v xs.length (xs.flatMap secRow)
  sec : ∀ i x, xs[i]? = some x → x.1 = secAt N i ∧ wr.ownsRow w.heap.size 98 11 x.2 x.1.found.length (x.1.found.flatMap Found.row)
  below : Below w.heap.size w wr
  hB : w.heap.size ≤ B
theorem SecSt.on {w : World} {N : Nor} {B : Nat} {wr W : World} {v : Value} {xs : List (Scan × Value)} (h : SecSt w N B wr v xs) (hb : Below wr.heap.size wr W) : SecSt w N B W v xs :=
  ⟨own_below h.own hb, fun i x hx => ⟨(h.sec i x hx).1, own_below (h.sec i x hx).2 hb⟩, Base.tr h.below hb, h.hB⟩
theorem SecSt.step {w : World} {N : Nor} {B : Nat} {wr W : World} {v v' : Value} {xs : List (Scan × Value)} (h : SecSt w N B wr v xs) (hg : wr.grownBy W v.ownBlock) {x : Scan × Value}
    (ho : W.ownsRow B 52 4 v' (xs.length + 1) (xs.flatMap secRow ++ secRow x)) (hx : x.1 = secAt N xs.length) (hf : wr.ownsRow w.heap.size 98 11 x.2 x.1.found.length (x.1.found.flatMap Found.row)) : SecSt w N B W v' (xs ++ [x]) := by
  have hne : 98 ≠ 52 := by decide
  refine ⟨?_, ?_, Base.gr h.below hg (fun g hg => Nat.le_trans h.hB (h.own.lt g hg).1), h.hB⟩
  · rw [List.length_append, List.flatMap_append]
    simpa using ho
  · intro i y hy
    by_cases hi : i < xs.length
    · rw [List.getElem?_append_left hi] at hy
      exact ⟨(h.sec i y hy).1, own_keepN h.own hg (h.sec i y hy).2 hne⟩
    · rw [List.getElem?_append_right (by omega)] at hy
      have hi2 : i - xs.length = 0 := by
        cases hq : i - xs.length with
        | zero => rfl
        | succ k => rw [hq] at hy; cases hy
      rw [hi2] at hy
      injection hy with hy
      subst hy
      rw [show i = xs.length by omega]
      exact ⟨hx, own_keepN h.own hg hf hne⟩
/-- What all sectors come to. -/
def AllPost (w : World) (N : Nor) (e : Ending) (w' : World) : Prop :=
  ∃ v xs, e = .returned (.tuple #[v, i64 0]) ∧ SecSt w N w.heap.size w' v xs ∧ xs.length = N.S
end Go.Proofs.YtokpoogcoeodkaaGreatDoor

