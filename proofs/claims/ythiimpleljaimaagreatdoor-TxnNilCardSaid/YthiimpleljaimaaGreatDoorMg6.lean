/- The device's small operations: is it on, on, off, its counts; and of none. -/
import Derived.Test.YthiimpleljaimaaGreatDoorMg3
import Derived.Test.YthiimpleljaimaaGreatDoorMg10
import Derived.Test.YthiimpleljaimaaGreatDoorMg11
import Derived.Laws.BitsAllLaws
namespace Go.Proofs.YthiimpleljaimaaGreatDoor
open Go.RowKit Flo

abbrev ptrD (N : Nor) : Value := .pointer (some ⟨N.D, 0, none⟩)
abbrev nilD : Value := .pointer none
/-- What a head's cells are. -/
theorem DevR.at {O : Nat → Prop} {w : World} {N : Nor} (h : DevR O w N) (i : Nat) : w.cell? ⟨N.D, i, none⟩ = N.cells[i]? := cell_blk h.hD i

theorem DevR.ltD {O : Nat → Prop} {w : World} {N : Nor} (h : DevR O w N) : N.D < w.heap.size := (Array.getElem?_eq_some_iff.1 h.hD).1

theorem isOn_nil (w : World) : Gives 32 #[nilD] w (.bool false) := by
  go_enter Tryz.func32, Tryz.ntmps32
  go_wp2_with fail
  go_ret
  exact ⟨rfl, rfl⟩
theorem isOn_any {O : Nat → Prop} {w : World} {N : Nor} (h : DevR O w N) : Gives 32 #[ptrD N] w (.bool (!N.off)) := by
  have c5 : w.cell? ⟨N.D, 5, none⟩ = some (.bool N.off) := h.at 5
  go_enter Tryz.func32, Tryz.ntmps32
  go_wp2_with fail
  go_ret
  exact ⟨rfl, rfl⟩
theorem offs_nil (w : World) : Gives 57 #[nilD] w (i64 0) := by
  go_enter Tryz.func57, Tryz.ntmps57
  go_wp2_with fail
  go_ret
  exact ⟨rfl, rfl⟩
theorem offs_any {O : Nat → Prop} {w : World} {N : Nor} (h : DevR O w N) : Gives 57 #[ptrD N] w (i64 N.offs) := by
  have c6 : w.cell? ⟨N.D, 6, none⟩ = some (i64 N.offs) := h.at 6
  go_enter Tryz.func57, Tryz.ntmps57
  go_wp2_with fail
  go_ret
  exact ⟨rfl, rfl⟩
theorem geom_nil (w : World) : Makes 55 #[nilD] w (geo 0 0) := by
  go_enter Tryz.func55, Tryz.ntmps55
  go_wp2_with fail
  exact bodyPost_ret (v := geo 0 0) (by simp [results, Tryz.results55, go_sem]) rfl ⟨rfl, Base.al (Below.refl _ _) _⟩
theorem geom_any {O : Nat → Prop} {w : World} {N : Nor} (h : DevR O w N) : Makes 55 #[ptrD N] w (geo N.S N.Z) := by
  have c0 : w.cell? ⟨N.D, 0, none⟩ = some (i64 N.S) := h.at 0
  have c1 : w.cell? ⟨N.D, 1, none⟩ = some (i64 N.Z) := h.at 1
  have hlt := h.ltD
  go_enter Tryz.func55, Tryz.ntmps55
  go_wp2_with fail
  exact bodyPost_ret (v := geo N.S N.Z) (by simp [results, Tryz.results55, go_sem]) rfl ⟨rfl, Base.al (Below.refl _ _) _⟩
theorem on_nil (w : World) : Gives 10 #[nilD] w (.tuple #[]) := by
  go_enter Tryz.func10, Tryz.ntmps10
  go_wp2_with fail
  first | go_end0 | refine bodyPost_ret (results_none rfl _ _ _) rfl ?_
  exact ⟨rfl, rfl⟩
theorem on_any {O : Nat → Prop} {w : World} {N : Nor} (h : DevR O w N) : Calls Tryz.prog 10 #[ptrD N] w fun e w' => e = .returned (.tuple #[]) ∧ w' = w.setCell ⟨N.D, 5, none⟩ (.bool false) := by
  have c5 : w.cell? ⟨N.D, 5, none⟩ = some (.bool N.off) := h.at 5
  have hf := frozen_blk h.hD 5
  go_enter Tryz.func10, Tryz.ntmps10
  go_wp2_with fail
  first | go_end0 | refine bodyPost_ret (results_none rfl _ _ _) rfl ?_
  exact ⟨rfl, rfl⟩
theorem DevR.on {O : Nat → Prop} {w : World} {N : Nor} (h : DevR O w N) : DevR O (w.setCell ⟨N.D, 5, none⟩ (.bool false)) { N with off := false } :=
  h.setD 5 _ rfl (.inr rfl) rfl
theorem off_nil (w : World) : Gives 9 #[nilD] w (.tuple #[]) := by
  have g0 := fun W => Lib.hid (isOn_nil W)
  go_enter Tryz.func9, Tryz.ntmps9
  go_wp2_with fail
  refine (g0 _).out.mono ?_; rintro e x1 ⟨rfl, rfl⟩
  go_wp2_with fail
  first | go_end0 | refine bodyPost_ret (results_none rfl _ _ _) rfl ?_
  exact ⟨rfl, rfl⟩
/-- Off: what is left. -/
def Nor.turn (N : Nor) : Nor := if N.off then N else { N with off := true, cut := none, offs := N.offs + 1 }
set_option maxHeartbeats 2000000 in
theorem off_any {O : Nat → Prop} {w : World} {N : Nor} (h : DevR O w N) (hlim : N.offs ≤ 1000000) : Calls Tryz.prog 9 #[ptrD N] w fun e w' => e = .returned (.tuple #[]) ∧ DevR O w' N.turn ∧ Out O w w' := by
  have g0 := fun W (hW : DevR O W N) => Lib.hid (isOn_any hW)
  cases hoff : N.off
  · rw [hoff] at g0
    have c5 : w.cell? ⟨N.D, 5, none⟩ = some (.bool false) := by rw [← hoff]; exact h.at 5
    have c6 : w.cell? ⟨N.D, 6, none⟩ = some (i64 N.offs) := h.at 6
    have c8 : w.cell? ⟨N.D, 8, none⟩ = some N.cutv := h.at 8
    have hf := fun o => frozen_blk h.hD o
    have ht : N.turn = { N with off := true, cut := none, offs := N.offs + 1 } := by unfold Nor.turn; rw [hoff]; rfl
    go_enter Tryz.func9, Tryz.ntmps9
    go_wp2_with fail
    refine (g0 _ h).out.mono ?_; rintro e x1 ⟨rfl, rfl⟩
    go_wp2_with fail
    first | go_end0 | refine bodyPost_ret (results_none rfl _ _ _) rfl ?_
    refine ⟨rfl, ?_, ?_⟩
    · rw [ht]
      have h1 := h.setD (N' := { N with off := true }) 5 (.bool true) rfl (.inr rfl) rfl
      have h2 := h1.setD (N' := { N with off := true, cut := none }) 8 (.pointer none) rfl (.inl rfl) rfl
      exact h2.setD (N' := { N with off := true, cut := none, offs := N.offs + 1 }) 6 (i64 (N.offs + 1 : Nat)) rfl (.inl rfl) rfl
    · exact ((((Out.refl O _).set h.ownD _ _).set h.ownD _ _).set h.ownD _ _)
  · rw [hoff] at g0
    have ht : N.turn = N := by unfold Nor.turn; rw [hoff]; rfl
    go_enter Tryz.func9, Tryz.ntmps9
    go_wp2_with fail
    refine (g0 _ h).out.mono ?_; rintro e x1 ⟨rfl, rfl⟩
    go_wp2_with fail
    first | go_end0 | refine bodyPost_ret (results_none rfl _ _ _) rfl ?_
    exact ⟨rfl, by rw [ht]; exact h, Out.refl _ _⟩
end Go.Proofs.YthiimpleljaimaaGreatDoor

/- The device's wear, spoilt sectors, and its cut. -/
namespace Go.Proofs.YthiimpleljaimaaGreatDoor
open Go.RowKit Flo

theorem wear_nil (s : Int) (w : World) : Gives 183 #[nilD, i64 s] w (i64 0) := by
  go_enter Tryz.func183, Tryz.ntmps183
  go_wp2_with fail
  go_ret
  exact ⟨rfl, rfl⟩
def Nor.wearAt (N : Nor) (s : Int) : Nat := if 0 ≤ s ∧ s < N.S then N.wear.getD s.toNat 0 else 0
set_option maxHeartbeats 2000000 in
theorem wear_any {O : Nat → Prop} {w : World} {N : Nor} (h : DevR O w N) (s : Int) : Gives 183 #[ptrD N, i64 s] w (i64 (N.wearAt s)) := by
  have c0 : w.cell? ⟨N.D, 0, none⟩ = some (i64 N.S) := h.at 0
  have c3 : w.cell? ⟨N.D, 3, none⟩ = some (.slice (some ⟨N.WB, 0, none⟩) N.S N.S) := h.at 3
  by_cases hin : 0 ≤ s ∧ s < N.S
  · obtain ⟨k, rfl⟩ : ∃ k : Nat, s = k := ⟨s.toNat, by omega⟩
    have hk : k < N.S := by omega
    have hv : N.wearAt k = N.wear.getD k 0 := by unfold Nor.wearAt; rw [if_pos hin]; rfl
    have hkw : k < N.wear.length := by rw [h.wl]; exact hk
    have hc : w.cell? ⟨N.WB, k, none⟩ = some (i64 (N.wear.getD k 0 : Nat)) := by
      rw [cell_blk h.hW]
      simp [hkw]
    rw [hv]
    clear hv hin
    obtain ⟨x, hx⟩ : ∃ x, N.wear.getD k 0 = x := ⟨_, rfl⟩
    rw [hx] at hc ⊢
    clear hx
    go_enter Tryz.func183, Tryz.ntmps183
    go_wp2_with fail
    go_ret
    exact ⟨rfl, rfl⟩
  · have hv : N.wearAt s = 0 := by unfold Nor.wearAt; rw [if_neg hin]
    rw [hv]
    clear hv
    go_enter Tryz.func183, Tryz.ntmps183
    go_wp2_with fail
    all_goals first
      | (exfalso; omega)
      | (go_ret; exact ⟨rfl, rfl⟩)

theorem spoil_nil (s : Int) (w : World) : Gives 48 #[nilD, i64 s] w (.tuple #[]) := by
  go_enter Tryz.func48, Tryz.ntmps48
  go_wp2_with fail
  first | go_end0 | refine bodyPost_ret (results_none rfl _ _ _) rfl ?_
  exact ⟨rfl, rfl⟩
theorem DevR.setM {O : Nat → Prop} {w w' : World} {N : Nor} (h : DevR O w N) {l : List (Int × Value)} (hm : MapR (Value.int .i64) w' N.MB l) (hg : w.grownBy w' (some N.MB)) (hl : ∀ p ∈ l, p.2 = .bool true) : DevR O w' { N with bad := l } := by
  obtain ⟨arr, ha1, ha2⟩ := h.hA
  have ob : ∀ {g : Nat} {cs : Array Value} {t : TypeId} {f : Nat × Nat}, w.heap[g]? = some (.cells cs t f) → w'.heap[g]? = some (.cells cs t f) := by
    intro g cs t f hx
    rw [hg.block g (Array.getElem?_eq_some_iff.1 hx).1 (by intro e; injection e with e; exact mapR_ne h.hM hx e.symm)]
    exact hx
  exact { lim := fun k hk => Nat.lt_of_lt_of_le (h.lim k hk) hg.size, hD := ob h.hD, hA := ⟨arr, ob ha1, ha2⟩, hW := ob h.hW, hM := hm, hR := fun i l hl => by { obtain ⟨b, j, h1, h2⟩ := h.hR i l hl; exact ⟨b, j, h1, ob h2⟩ }, hC := fun c hc => ob (h.hC c hc), bkl := h.bkl, dl := h.dl, wl := h.wl, row := h.row, geo := h.geo, badt := hl, cdl := h.cdl, mask := h.mask, ownD := h.ownD, ownA := h.ownA, ownW := h.ownW, ownM := h.ownM, ownC := h.ownC, ownR := h.ownR, apart := h.apart, apartC := h.apartC }
theorem mput_bad {l : List (Int × Value)} (h : ∀ p ∈ l, p.2 = .bool true) (x : Int) : ∀ p ∈ mput l x (.bool true), p.2 = .bool true := by
  intro p hp
  unfold mput at hp
  split at hp
  · obtain ⟨q, hq, rfl⟩ := List.mem_map.1 hp
    split
    · rfl
    · exact h q hq
  · rcases List.mem_append.1 hp with hp | hp
    · exact h p hp
    · rw [List.mem_singleton] at hp; subst hp; rfl
def Nor.spoil (N : Nor) (s : Int) : Nor := { N with bad := mput N.bad s (.bool true) }
set_option maxHeartbeats 2000000 in
theorem spoil_any {O : Nat → Prop} {w : World} {N : Nor} (h : DevR O w N) (s : Int) : Calls Tryz.prog 48 #[ptrD N, i64 s] w fun e w' => e = .returned (.tuple #[]) ∧ DevR O w' (N.spoil s) ∧ Out O w w' := by
  have c4 : w.cell? ⟨N.D, 4, none⟩ = some (.map (some N.MB)) := h.at 4
  have K := keys_int (P := Tryz.prog) (k := 3) (q := .i64) Tryz.underlying3
  have hm := h.hM
  go_enter Tryz.func48, Tryz.ntmps48
  go_wp2_with (refine wpList_update_R rfl 86 _ _ _ rfl 3 4 K Tryz.underlying86 rfl s rfl (.bool true) rfl hm ?_; intro w3 hm5 hg5 hs5)
  first | go_end0 | refine bodyPost_ret (results_none rfl _ _ _) rfl ?_
  exact ⟨rfl, h.setM hm5 hg5 (mput_bad h.badt s), (Out.refl O w).grown h.ownM hg5⟩

theorem cut_nil (a b : Int) (m : Nat) (w : World) : Gives 47 #[nilD, i64 a, i64 b, .int .u8 m] w (.tuple #[]) := by
  go_enter Tryz.func47, Tryz.ntmps47
  go_wp2_with fail
  first | go_end0 | refine bodyPost_ret (results_none rfl _ _ _) rfl ?_
  exact ⟨rfl, rfl⟩
theorem DevR.newC {O : Nat → Prop} {w : World} {N : Nor} (h : DevR O w N) (a b m : Nat) (hm : m < 256) :
    DevR (fun k => O k ∨ k = w.heap.size) ((w.setCell ⟨N.D, 8, none⟩ (.pointer (some ⟨w.heap.size, 0, none⟩))).alloc (.cells #[i64 a, i64 b, .int .u8 m] 158)) { N with cut := some (a, b, m), CB := w.heap.size } := by
  obtain ⟨hap1, hap2⟩ := List.nodup_cons.1 h.apart
  simp only [List.mem_cons, not_or] at hap1
  obtain ⟨arr, ha1, ha2⟩ := h.hA
  have hm0 := mapR_ne h.hM h.hD
  have hsz : (w.setCell ⟨N.D, 8, none⟩ (.pointer (some ⟨w.heap.size, 0, none⟩))).heap.size = w.heap.size := by simp [World.setCell]
  have hnew := blk_new (w.setCell ⟨N.D, 8, none⟩ (.pointer (some ⟨w.heap.size, 0, none⟩))) (.cells #[i64 a, i64 b, .int .u8 m] 158)
  rw [hsz] at hnew
  refine { lim := ?_, hD := blk_old ?_, hA := ⟨arr, blk_old (blk_set ha1 _ _ (Ne.symm hap1.1)), ha2⟩, hW := blk_old (blk_set h.hW _ _ (Ne.symm hap1.2.1)), hM := (mapR_set h.hM _ _ hm0).alloc _, hR := ?_, hC := ?_, bkl := h.bkl, dl := h.dl, wl := h.wl, row := h.row, geo := h.geo, badt := h.badt, cdl := h.cdl, mask := ?_, ownD := .inl h.ownD, ownA := .inl h.ownA, ownW := .inl h.ownW, ownM := .inl h.ownM, ownC := fun _ _ => .inr rfl, ownR := fun b hb => .inl (h.ownR b hb), apart := h.apart, apartC := ?_ }
  · intro k hk
    have : ((w.setCell ⟨N.D, 8, none⟩ (.pointer (some ⟨w.heap.size, 0, none⟩))).alloc (.cells #[i64 a, i64 b, .int .u8 m] 158)).heap.size = w.heap.size + 1 := by simp [World.setCell]
    rw [this]
    rcases hk with hk | hk
    · have := h.lim k hk; omega
    · omega
  · exact heap_setCell h.hD 8 _
  · intro i l hl
    obtain ⟨b, j, h1, h2⟩ := h.hR i l hl
    exact ⟨b, j, h1, blk_old (blk_set h2 _ _ (fun e => hap1.2.2 (by rw [← e]; exact List.mem_of_getElem? h1)))⟩
  · intro c hc
    injection hc with hc
    subst hc
    exact hnew
  · intro c hc
    injection hc with hc
    subst hc
    exact hm
  · intro c hc hmem
    have : O w.heap.size := by
      simp only [List.mem_cons] at hmem
      rcases hmem with h1 | h1 | h1 | h1
      · rw [h1]; exact h.ownD
      · rw [h1]; exact h.ownA
      · rw [h1]; exact h.ownW
      · exact h.ownR _ h1
    exact Nat.lt_irrefl _ (h.lim _ this)
def Nor.cutAt (N : Nor) (a b : Int) (m : Nat) (g : Nat) : Nor := { N with cut := some (a.toNat, b.toNat, m), CB := g }
set_option maxHeartbeats 4000000 in
theorem cut_any {O : Nat → Prop} {w : World} {N : Nor} (h : DevR O w N) (a b : Int) (m : Nat) (hm : m < 256) : Calls Tryz.prog 47 #[ptrD N, i64 a, i64 b, .int .u8 m] w fun e w' => e = .returned (.tuple #[]) ∧ DevR (fun k => O k ∨ k = w.heap.size) w' (N.cutAt a b m w.heap.size) ∧ Out O w w' := by
  have c8 : w.cell? ⟨N.D, 8, none⟩ = some N.cutv := h.at 8
  have hf := frozen_blk h.hD 8
  have hlt := h.ltD
  have hnw := fun x y => h.newC x y m hm
  have hown := h.ownD
  go_enter Tryz.func47, Tryz.ntmps47
  go_wp2_with fail
  all_goals
    first | go_end0 | refine bodyPost_ret (results_none rfl _ _ _) rfl ?_
    have hn := hnw a.toNat b.toNat
    refine ⟨rfl, ?_, Out.then ((Out.refl O w).set hown _ _) (Base.al (Below.refl _ _) _)⟩
    first
      | rw [show ((a.toNat : Nat) : Int) = a by omega, show ((b.toNat : Nat) : Int) = b by omega] at hn
      | rw [show ((a.toNat : Nat) : Int) = a by omega, show ((b.toNat : Nat) : Int) = 0 by omega] at hn
      | rw [show ((a.toNat : Nat) : Int) = 0 by omega, show ((b.toNat : Nat) : Int) = b by omega] at hn
      | rw [show ((a.toNat : Nat) : Int) = 0 by omega, show ((b.toNat : Nat) : Int) = 0 by omega] at hn
    exact hn
end Go.Proofs.YthiimpleljaimaaGreatDoor

/- The device read. -/
namespace Go.Proofs.YthiimpleljaimaaGreatDoor
open Go.RowKit Flo

theorem DevR.geoI {O : Nat → Prop} {w : World} {N : Nor} (h : DevR O w N) : 6 ≤ N.S ∧ N.S ≤ 64 ∧ 512 ≤ N.Z ∧ N.Z ≤ 4096 := by have := geoB_yes h.geo; omega

set_option maxHeartbeats 4000000 in
set_option maxRecDepth 100000 in
theorem read_nil (a b : Nat) (n : Int) (w : World) : Gives 117 #[nilD, cx a b, i64 n] w (.tuple #[.slice none 0 0, i64 7]) := by
  have g0 := fun W => Lib.hid (isOn_nil W)
  go_enter Tryz.func117, Tryz.ntmps117
  go_wp2_with fail
  refine (g0 _).out.mono ?_; rintro e x1 ⟨rfl, rfl⟩
  go_wp2_with fail
  go_ret2
  exact ⟨rfl, rfl⟩

/-- A piece of a sector. -/
theorem DevR.row_at {O : Nat → Prop} {w : World} {N : Nor} (h : DevR O w N) {s : Nat} (hs : s < N.S) :
    ∃ (l : List Nat) (b : Nat), N.data[s]? = some l ∧ N.bk[s]? = some b ∧ w.cell? ⟨N.DA, s, none⟩ = some (.slice (some ⟨b, 0, none⟩) N.Z N.Z) ∧ l.length = N.Z ∧ (∀ x ∈ l, x < 256) ∧ O b ∧ b < w.heap.size ∧
      (∀ j u, (l.map bv)[j]? = some u → w.cell? ⟨b, j, none⟩ = some u) ∧ ∀ j, w.frozen? ⟨b, j, none⟩ = false := by
  have hsd : s < N.data.length := by rw [h.dl]; exact hs
  have hl : N.data[s]? = some N.data[s] := List.getElem?_eq_getElem hsd
  obtain ⟨b, junk, h1, h2⟩ := h.hR s _ hl
  obtain ⟨arr, ha1, ha2⟩ := h.hA
  refine ⟨_, b, hl, h1, ?_, (h.row _ (List.mem_of_getElem? hl)).1, (h.row _ (List.mem_of_getElem? hl)).2, h.ownR b (List.mem_of_getElem? h1), (Array.getElem?_eq_some_iff.1 h2).1, ?_, fun j => frozen_blk h2 j⟩
  · rw [cell_blk ha1]
    simpa using ha2 s b h1
  · intro j u hj
    rw [cell_blk h2]
    have hjl := (List.getElem?_eq_some_iff.1 hj).1
    simp only [List.getElem?_toArray]
    rw [List.getElem?_append_left hjl]
    exact hj
theorem piece_Byt {w : World} {b cap : Nat} {l : List Nat} (hb : b < w.heap.size) (hx : ∀ j u, (l.map bv)[j]? = some u → w.cell? ⟨b, j, none⟩ = some u) (a n : Nat) (hn : a + n ≤ l.length) (hc : n ≤ cap) (hcm : cap ≤ maxLen) :
    Byt w (.slice (some ⟨b, a, none⟩) n cap) ((l.drop a).take n) := by
  have hlen : (((l.drop a).take n).map fun x => [bv x]).length = n := by rw [List.length_map, List.length_take, List.length_drop]; omega
  refine ⟨some ⟨b, a, none⟩, cap, by rw [hlen], by rw [hlen]; exact hc, hcm, (fun h => by cases h), fun _ => ⟨b, a, rfl, hb, ?_⟩⟩
  intro i x hi
  rw [List.getElem?_map] at hi
  obtain ⟨y, hy, rfl⟩ := Option.map_eq_some_iff.1 hi
  refine ⟨rfl, fun j u hj => ?_⟩
  cases j with
  | succ j => cases hj
  | zero =>
    have hil : i < n := by have := (List.getElem?_eq_some_iff.1 hy).1; rw [List.length_take] at this; omega
    rw [List.getElem?_take_of_lt hil, List.getElem?_drop] at hy
    have : u = bv y := by simpa using hj.symm
    subst this
    have := hx (a + i) (bv y) (by rw [List.getElem?_map, hy]; rfl)
    rw [show a + i * 1 + 0 = a + i by omega]
    exact this

/-- What is read. -/
noncomputable def Nor.got (N : Nor) (a b : Nat) (n : Int) : List Nat × Nat :=
  if N.off then ([], 7) else if withinB N.S N.Z a b n then (((N.data.getD ((part? a).getD 0) []).drop ((part? b).getD 0)).take n.toNat, 0) else ([], 1)
/-- What a reading call gives. -/
abbrev ReadPost (w : World) (l : List Nat) (e : Nat) (en : Ending) (w' : World) : Prop :=
  ∃ v, en = .returned (.tuple #[v, i64 e]) ∧ w'.ownsRow w.heap.size 5 1 v l.length (l.map bv) ∧ Below w.heap.size w w'
theorem own_none (w : World) (base : Nat) (e : TypeId) : w.ownsRow base e 1 (.slice none 0 0) 0 [] := ⟨rfl, .inl ⟨rfl, rfl⟩⟩

set_option maxHeartbeats 4000000 in
set_option maxRecDepth 100000 in
theorem read_any {O : Nat → Prop} {w : World} {N : Nor} (h : DevR O w N) (a b : Nat) (n : Int) :
    Calls Tryz.prog 117 #[ptrD N, cx a b, i64 n] w (ReadPost w (N.got a b n).1 (N.got a b n).2) := by
  have g0 := fun W (hW : DevR O W N) => Lib.hid (isOn_any hW)
  obtain ⟨q1, q2, q3, q4⟩ := h.geoI
  cases hoff : N.off
  case true =>
    have hv : N.got a b n = ([], 7) := by unfold Nor.got; rw [hoff]; rfl
    rw [hv]
    rw [hoff] at g0
    clear hv
    go_enter Tryz.func117, Tryz.ntmps117
    go_wp2_with fail
    refine (g0 _ h).out.mono ?_; rintro e x1 ⟨rfl, rfl⟩
    go_wp2_with fail
    go_ret2
    exact ⟨_, rfl, own_none _ _ _, Below.refl _ _⟩
  case false =>
    rw [hoff] at g0
    have c0 : w.cell? ⟨N.D, 0, none⟩ = some (i64 N.S) := h.at 0
    have c1 : w.cell? ⟨N.D, 1, none⟩ = some (i64 N.Z) := h.at 1
    have hlt := h.ltD
    have g1 := fun W => Lib.hid (within_any (N.S : Int) N.Z a b n W (by omega) (by omega))
    cases hwi : withinB N.S N.Z a b n
    · have hv : N.got a b n = ([], 1) := by unfold Nor.got; rw [hoff, hwi]; rfl
      rw [hv]
      rw [hwi] at g1
      clear hv
      go_enter Tryz.func117, Tryz.ntmps117
      go_wp2_with fail
      refine (g0 _ h).out.mono ?_; rintro e x1 ⟨rfl, rfl⟩
      go_wp2_with fail
      refine (g1 _).out.mono ?_; rintro e x2 ⟨rfl, hb2⟩
      go_wp2_with fail
      go_ret2
      exact ⟨_, rfl, own_none _ _ _, hb2⟩
    · obtain ⟨k, o, ha, hb⟩ : ∃ k o, part? a = some k ∧ part? b = some o := by
        cases h1 : part? a <;> cases h2 : part? b <;> first | exact ⟨_, _, rfl, rfl⟩ | (rw [within_no (by simp [h1, h2])] at hwi; cases hwi)
      have hin := hwi
      rw [within_yes ha hb] at hin
      simp only [Bool.and_eq_true, decide_eq_true_eq] at hin
      obtain ⟨⟨⟨i1, i2⟩, i3⟩, i4⟩ := hin
      obtain ⟨m, rfl⟩ : ∃ m : Nat, n = m := ⟨n.toNat, by omega⟩
      obtain ⟨l, bb, hl, hbk, -, hll, hlt8, hO, -, -, -⟩ := h.row_at (s := k) (by omega)
      have hv : N.got a b m = ((l.drop o).take m, 0) := by
        unfold Nor.got
        rw [hoff, hwi, ha, hb]
        simp [List.getD_eq_getElem?_getD, hl]
      rw [hv]
      rw [hwi] at g1
      have g2 := fun W => Lib.hid (parts_yes W ha hb)
      clear hv hwi ha hb
      go_enter Tryz.func117, Tryz.ntmps117
      go_wp2_with fail
      refine (g0 _ h).out.mono ?_; rintro e x1 ⟨rfl, rfl⟩
      go_wp2_with fail
      refine (g1 _).out.mono ?_; rintro e x2 ⟨rfl, hb2⟩
      go_wp2_with fail
      refine (g2 _).out.mono ?_; rintro e x3 ⟨rfl, rfl⟩
      have h3 := h.below hb2
      have d2 : x3.cell? ⟨N.D, 2, none⟩ = some (.slice (some ⟨N.DA, 0, none⟩) N.S N.cd) := h3.at 2
      obtain ⟨l', bb', hl', hbk', hda, -, -, -, hblt, hcells, -⟩ := h3.row_at (s := k) (by omega)
      obtain rfl : l' = l := by rw [hl] at hl'; injection hl' with e; exact e.symm
      obtain rfl : bb' = bb := by rw [hbk] at hbk'; injection hbk' with e; exact e.symm
      have k1 : (0 : Int) ≤ (o : Int) + (m : Int) ∧ (o : Int) + (m : Int) ≤ (N.Z : Int) := by omega
      have k3 : (o : Int) ≤ (o : Int) + (m : Int) := by omega
      have k4 : ((o : Int) + (m : Int)).toNat = o + m := by omega
      have k5 : o + m - o = m := by omega
      have k6 : k < N.S := by omega
      clear g0 g1 g2 hl' hbk' hl hbk c0 c1 h h3
      by_cases ho : N.Z = o
      · obtain rfl : m = 0 := by omega
        have hcl := clone_any ⟨bb', 0, none⟩ 0 0 [] x3 ⟨some ⟨bb', 0, none⟩, 0, rfl, Nat.zero_le _, by unfold maxLen; omega, (fun h => by cases h), fun h => absurd h (by decide)⟩ (by simp)
        have HCL := Lib.hid hcl
        clear hcl hcells
        go_wp2_with fail
        refine HCL.out.mono ?_; rintro e x4 ⟨v, rfl, hown, -, hb4⟩
        go_wp2_with fail
        go_ret2
        exact ⟨_, rfl, by simpa using own_base hown hb2.size, Base.tr hb2 hb4⟩
      · have hby := piece_Byt (cap := N.Z - o) hblt hcells o m (by omega) (by omega) (by unfold maxLen; omega)
        have hcl := clone_any ⟨bb', o, none⟩ m (N.Z - o) _ x3 hby (by rw [List.length_take, List.length_drop]; omega)
        have HCL := Lib.hid hcl
        clear hcl hcells hby
        go_wp2_with fail
        refine HCL.out.mono ?_; rintro e x4 ⟨v, rfl, hown, -, hb4⟩
        go_wp2_with fail
        go_ret2
        exact ⟨_, rfl, own_base hown hb2.size, Base.tr hb2 hb4⟩
end Go.Proofs.YthiimpleljaimaaGreatDoor

/- The device programmed. -/
namespace Go.Proofs.YthiimpleljaimaaGreatDoor
open Go.RowKit Flo

theorem blt {w : World} {a : Addr} {v : Value} (h : w.cell? a = some v) : a.block < w.heap.size := by
  unfold World.cell? at h
  cases hb : w.heap[a.block]? with
  | none => rw [hb] at h; simp at h
  | some o => exact (Array.getElem?_eq_some_iff.1 hb).1

/-- Programmed; erased: a byte. -/
def pUp (x m old : Nat) : Nat := old &&& (x ||| (255 - m))
def eUp (m old : Nat) : Nat := old ||| m
theorem xor255 (m : Nat) (h : m < 256) : 255 ^^^ m = 255 - m := by
  have h1 : m < 2 ^ 8 := h
  apply Nat.eq_of_testBit_eq
  intro i
  rw [show 255 - m = 2 ^ 8 - (m + 1) by omega, Nat.testBit_two_pow_sub_succ h1, Nat.testBit_xor, show (255 : Nat) = 2 ^ 8 - 1 by decide, Nat.testBit_two_pow_sub_one]
  by_cases hi : i < 8
  · simp [hi]
  · have : m.testBit i = false := Nat.testBit_lt_two_pow (Nat.lt_of_lt_of_le h1 (Nat.pow_le_pow_right (by decide) (by omega)))
    simp [hi, this]
theorem pUp_lt {x m old : Nat} (h : old < 256) : pUp x m old < 256 := Nat.lt_of_le_of_lt Nat.and_le_left h
theorem eUp_lt {m old : Nat} (h : old < 256) (hm : m < 256) : eUp m old < 256 := Nat.or_lt_two_pow (n := 8) h hm

set_option maxHeartbeats 4000000 in
set_option maxRecDepth 100000 in
theorem progStep (w : World) (i m x old : Nat) (lv sv b o n c s so n' c' : Nat) (hm : m < 256) (hx : x < 256) (hold : old < 256) (hl : w.cell? ⟨lv, 0, none⟩ = some (.slice (some ⟨b, o, none⟩) n c)) (hs : w.cell? ⟨sv, 0, none⟩ = some (.slice (some ⟨s, so, none⟩) n' c'))
    (hi : i < n) (hi' : i < n') (h0 : w.cell? ⟨b, o + i, none⟩ = some (bv old)) (h1 : w.cell? ⟨s, so + i, none⟩ = some (bv x)) (hf : w.frozen? ⟨b, o + i, none⟩ = false) :
    Calls Tryz.prog 256 #[i64 i, .int .u8 m, .pointer (some ⟨lv, 0, none⟩), .pointer (some ⟨sv, 0, none⟩)] w fun e w' => e = .returned (.tuple #[]) ∧ w' = (w.setCell ⟨b, o + i, none⟩ (bv (pUp x m old))).drew := by
  have b1 := blt hl
  have b2 := blt hs
  have b3 := blt h0
  have b4 := blt h1
  simp only [] at b1 b2 b3 b4
  go_enter Tryz.func256, Tryz.ntmps256
  go_wp2_with fail
  have k1 := fun p => on_cell (w := w) b1 hl p
  have k2 := fun p => on_cell (w := w) b2 hs p
  have k3 := fun p => on_cell (w := w) b3 h0 p
  have k4 := fun p => on_cell (w := w) b4 h1 p
  refine wp_region_ph (D := fun w' => ∃ p : OnOf _, w' = p.v) 13 [] (by kernel_rfl) (by kernel_rfl) ⟨⟨_, Base.dr (Below.refl _ _)⟩, rfl⟩ ?_
  simp only [List.take_succ_cons, List.take_zero, List.drop_succ_cons, List.drop_zero]
  have on0 := @on_rd0; have on1 := @on_rd1; have on2 := @on_rd2; have on3 := @on_new1; have on4 := @on_new2
  repeat (first | ((with_reducible refine head_quiet ?_ ?_); (focus rfl); (intro K hK); go_simp; first | ((with_reducible refine hK _ ?_); clear hK K) | (rw [if_neg (by intro h; cases h)]; (with_reducible refine hK _ ?_); clear hK K) | (apply Exists.intro; refine ⟨fun _ => ?_, hK _ ?_⟩; (fail); clear hK K)))
  clear on0 on1 on2 on3 on4
  with_reducible refine head_nil ?_
  rintro _ rfl
  clear k1 k2 k3 k4
  have hv : bits .and .u8 (old : Int) (bits .or .u8 (x : Int) (bits .xor .u8 IntKind.u8.max (m : Int))) = ((pUp x m old : Nat) : Int) := by
    have h255 : IntKind.u8.max = ((255 : Nat) : Int) := by decide
    rw [h255, u8_xor_nat 255 m (by omega) hm, xor255 m hm, u8_or_nat x (255 - m) hx (by omega), u8_and_nat old _ hold (Nat.or_lt_two_pow (n := 8) (by omega) (by omega))]
    rfl
  have HV := Lib.hid hv
  clear hv
  go_wp2_with fail
  first | go_end0 | refine bodyPost_ret (results_none rfl _ _ _) rfl ?_
  exact ⟨rfl, by rw [HV.out]⟩
set_option maxHeartbeats 4000000 in
set_option maxRecDepth 100000 in
theorem eraseStep (w : World) (i m old : Nat) (lv b o n c : Nat) (hm : m < 256) (hold : old < 256) (hl : w.cell? ⟨lv, 0, none⟩ = some (.slice (some ⟨b, o, none⟩) n c)) (hi : i < n) (h0 : w.cell? ⟨b, o + i, none⟩ = some (bv old)) (hf : w.frozen? ⟨b, o + i, none⟩ = false) :
    Calls Tryz.prog 282 #[i64 i, .int .u8 m, .pointer (some ⟨lv, 0, none⟩)] w fun e w' => e = .returned (.tuple #[]) ∧ w' = w.setCell ⟨b, o + i, none⟩ (bv (eUp m old)) := by
  have hb := u8_or_nat old m hold hm
  unfold eUp
  go_enter Tryz.func282, Tryz.ntmps282
  go_wp2_with fail
  first | go_end0 | refine bodyPost_ret (results_none rfl _ _ _) rfl ?_
  exact ⟨rfl, rfl⟩

/-- A row of bytes that an act has gone over, so far. -/
def stepRow (upd : Nat → Nat → Nat → Nat) (p : Nat) (l : List Nat) : Nat → List Nat
  | 0 => l
  | j + 1 => (stepRow upd p l j).set (p + j) (upd j 255 ((stepRow upd p l j).getD (p + j) 0))
theorem stepRow_len (upd : Nat → Nat → Nat → Nat) (p : Nat) (l : List Nat) : ∀ j, (stepRow upd p l j).length = l.length
  | 0 => rfl
  | j + 1 => by rw [stepRow, List.length_set]; exact stepRow_len upd p l j
/-- .. cut off behind so many bytes, and some bits of one. -/
def cutRow (upd : Nat → Nat → Nat → Nat) (p : Nat) (l : List Nat) (n b m : Nat) : List Nat :=
  if b < n then (stepRow upd p l b).set (p + b) (upd b m ((stepRow upd p l b).getD (p + b) 0)) else stepRow upd p l n
/-- An act: its error, and the device behind it. -/
def Nor.act (N : Nor) (s p n : Nat) (upd : Nat → Nat → Nat → Nat) : Nat × Nor :=
  match N.cut with
  | none => (0, { N with acts := N.acts + 1, data := N.data.set s (stepRow upd p (N.data.getD s []) n) })
  | some (c, b, m) =>
    if 0 < c then (0, { N with acts := N.acts + 1, cut := some (c - 1, b, m), data := N.data.set s (stepRow upd p (N.data.getD s []) n) })
    else (7, { N with acts := N.acts + 1, off := true, cut := none, offs := N.offs + 1, data := N.data.set s (cutRow upd p (N.data.getD s []) n b m) })
/-- What is asked of the function that an act is handed. -/
def StepOK (O : Nat → Prop) (w : World) (N0 : Nor) (f : FuncId) (cs : Array Value) (s p n : Nat) (upd : Nat → Nat → Nat → Nat) : Prop :=
  ∀ (W : World) (N : Nor) (l : List Nat) (i m : Nat), DevR O W N → N.bk = N0.bk → N.Z = N0.Z → Out O w W → N.data[s]? = some l → i < n → m < 256 →
    Calls Tryz.prog f (#[i64 i, .int .u8 m] ++ cs) W fun e W' => e = .returned (.tuple #[]) ∧ DevR O W' { N with data := N.data.set s (l.set (p + i) (upd i m (l.getD (p + i) 0))) } ∧ Out O W W'

set_option maxHeartbeats 4000000 in
set_option maxRecDepth 100000 in
theorem act_any {O : Nat → Prop} {w : World} {N : Nor} (h : DevR O w N) (hon : N.off = false) (h1 : N.acts ≤ 1000000) (h2 : N.offs ≤ 1000000) (s p n : Nat) (hs : s < N.S) (hn : n ≤ 100000) (f : FuncId) (cs : Array Value) (hf : Enters f) (upd : Nat → Nat → Nat → Nat) (hst : StepOK O w N f cs s p n upd) (hcm : ∀ c, N.cut = some c → c.1 ≤ 9223372036854775807) :
    Calls Tryz.prog 255 #[ptrD N, i64 n, .func (.func f) #[] cs] w fun e w' => e = .returned (i64 (N.act s p n upd).1) ∧ DevR O w' (N.act s p n upd).2 ∧ Out O w w' := by
  have c7 : w.cell? ⟨N.D, 7, none⟩ = some (i64 N.acts) := h.at 7
  have hlt := h.ltD
  have hfz := fun o => frozen_blk h.hD o
  have hA : DevR O (w.setCell ⟨N.D, 7, none⟩ (.int .i64 ((N.acts : Int) + 1))) { N with acts := N.acts + 1 } := h.setD (N' := { N with acts := N.acts + 1 }) 7 (i64 (N.acts + 1 : Nat)) rfl (.inr rfl) rfl
  have oA : Out O w (w.setCell ⟨N.D, 7, none⟩ (.int .i64 ((N.acts : Int) + 1))) := (Out.refl O w).set h.ownD _ _
  have hsd : s < N.data.length := by rw [h.dl]; exact hs
  obtain ⟨l, hl⟩ : ∃ l, N.data[s]? = some l := ⟨_, List.getElem?_eq_getElem hsd⟩
  have hgd : N.data.getD s [] = l := by rw [List.getD_eq_getElem?_getD, hl]; rfl
  have hset0 : N.data = N.data.set s l := by
    obtain ⟨h3, rfl⟩ := List.getElem?_eq_some_iff.1 hl
    rw [List.set_getElem_self]
  -- a round, whatever the device's other fields
  have round : ∀ (W : World) (M : Nor) (j m : Nat), M.bk = N.bk → M.Z = N.Z → DevR O W { M with data := N.data.set s (stepRow upd p l j) } → Out O w W → j < n → m < 256 →
      Calls Tryz.prog f (#[i64 j, .int .u8 m] ++ cs) W fun e W' => e = .returned (.tuple #[]) ∧ DevR O W' { M with data := N.data.set s ((stepRow upd p l j).set (p + j) (upd j m ((stepRow upd p l j).getD (p + j) 0))) } ∧ Out O w W' := by
    intro W M j m e1 e2 hd ho hj hm
    refine (hst W _ (stepRow upd p l j) j m hd e1 e2 ho (by simp [hsd]) hj hm).mono ?_
    rintro e W' ⟨rfl, h3, h4⟩
    refine ⟨rfl, ?_, ho.trans h4⟩
    rw [List.set_set] at h3
    exact h3
  have ROUND := Lib.hid round
  clear round hst
  have HA := Lib.hid hA
  clear hA
  cases hc : N.cut with
  | none =>
    have c8 : w.cell? ⟨N.D, 8, none⟩ = some (.pointer none) := by have := h.at 8; rw [this]; unfold Nor.cells Nor.cutv; rw [hc]; rfl
    have hv : N.act s p n upd = (0, { N with acts := N.acts + 1, data := N.data.set s (stepRow upd p l n) }) := by unfold Nor.act; rw [hc, hgd]
    have HV := Lib.hid hv
    have HA2 : DevR O (w.setCell ⟨N.D, 7, none⟩ (.int .i64 ((N.acts : Int) + 1))) { N with acts := N.acts + 1, data := N.data.set s (stepRow upd p l 0) } := by
      have := HA.out
      unfold stepRow
      rw [← hset0]
      exact this
    have HB := Lib.hid HA2
    clear HA2 hv hset0
    go_enter Tryz.func255, Tryz.ntmps255
    go_wp2_with fail
    generalize w.setCell ⟨N.D, 7, none⟩ (.int .i64 ((N.acts : Int) + 1)) = w1 at *
    clear HA
    go_loopw [8, 41] (fun _ i wr => ∃ j : Nat, j ≤ n ∧ i = .int .i64 j ∧ Hid (DevR O wr { N with acts := N.acts + 1, data := N.data.set s (stepRow upd p l j) }) ∧ Out O w wr) (fun _ i _ => n - (intOf i).toNat)
    case atStart => exact ⟨0, Nat.zero_le _, rfl, HB, oA⟩
    case round =>
      obtain ⟨j, hj, rfl, hd, ho⟩ := hrel
      by_cases hlt2 : j < n
      · have hR := Lib.hid (ROUND.out wr { N with acts := N.acts + 1 } j 255 rfl rfl hd.out ho hlt2 (by decide))
        go_wp2_with fail
        refine hR.out.mono ?_; rintro e w2 ⟨rfl, hd2, ho2⟩
        have HD2 := Lib.hid hd2
        clear hd2
        go_wp2_with fail
        exact ⟨⟨j + 1, by omega, by go_num, HD2, ho2⟩, by simp [intOf]; omega⟩
      · obtain rfl : j = n := by omega
        go_wp2_with fail
        go_ret
        rw [HV.out]
        exact ⟨rfl, hd.out, ho⟩
  | some c =>
    obtain ⟨c, b, m⟩ := c
    have hmk : m < 256 := h.mask _ hc
    have c8 : w.cell? ⟨N.D, 8, none⟩ = some (.pointer (some ⟨N.CB, 0, none⟩)) := by have := h.at 8; rw [this]; unfold Nor.cells Nor.cutv; rw [hc]; rfl
    have e0 : w.cell? ⟨N.CB, 0, none⟩ = some (i64 c) := cell_blk (h.hC _ hc) 0
    have e1 : w.cell? ⟨N.CB, 1, none⟩ = some (i64 b) := cell_blk (h.hC _ hc) 1
    have e2 : w.cell? ⟨N.CB, 2, none⟩ = some (.int .u8 m) := cell_blk (h.hC _ hc) 2
    have hcz := fun o => frozen_blk (h.hC _ hc) o
    have hne : N.CB ≠ N.D := by have := h.apartC _ hc; simp only [List.mem_cons, not_or] at this; exact this.1
    by_cases hpos : 0 < c
    · have hv : N.act s p n upd = (0, { N with acts := N.acts + 1, cut := some (c - 1, b, m), data := N.data.set s (stepRow upd p l n) }) := by
        unfold Nor.act
        rw [hc, hgd]
        simp only []
        rw [if_pos hpos]
      have HV := Lib.hid hv
      have hcl : c ≤ 9223372036854775807 := hcm _ hc
      have hw : wrap64 ((c : Int) - 1) = ((c - 1 : Nat) : Int) := by unfold wrap64; omega
      clear hcl
      have HA2 : DevR O ((w.setCell ⟨N.D, 7, none⟩ (.int .i64 ((N.acts : Int) + 1))).setCell ⟨N.CB, 0, none⟩ (.int .i64 ((c - 1 : Nat) : Int))) { N with acts := N.acts + 1, cut := some (c - 1, b, m), data := N.data.set s (stepRow upd p l 0) } := by
        have := HA.out.setC (a := c) (b := b) (m := m) hc (c - 1)
        unfold stepRow
        rw [← hset0]
        exact this
      have HB := Lib.hid HA2
      have oB := oA.set (h.ownC _ hc) 0 (.int .i64 ((c - 1 : Nat) : Int))
      clear HA2 hv hset0 HA oA
      go_enter Tryz.func255, Tryz.ntmps255
      go_wp2_with fail
      simp only [hw]
      clear hw
      generalize (w.setCell ⟨N.D, 7, none⟩ (.int .i64 ((N.acts : Int) + 1))).setCell ⟨N.CB, 0, none⟩ (.int .i64 ((c - 1 : Nat) : Int)) = w1 at *
      go_loopw [8, 41] (fun _ i wr => ∃ j : Nat, j ≤ n ∧ i = .int .i64 j ∧ Hid (DevR O wr { N with acts := N.acts + 1, cut := some (c - 1, b, m), data := N.data.set s (stepRow upd p l j) }) ∧ Out O w wr) (fun _ i _ => n - (intOf i).toNat)
      case atStart => exact ⟨0, Nat.zero_le _, rfl, HB, oB⟩
      case round =>
        obtain ⟨j, hj, rfl, hd, ho⟩ := hrel
        by_cases hlt2 : j < n
        · have hR := Lib.hid (ROUND.out wr { N with acts := N.acts + 1, cut := some (c - 1, b, m) } j 255 rfl rfl hd.out ho hlt2 (by decide))
          go_wp2_with fail
          refine hR.out.mono ?_; rintro e w2 ⟨rfl, hd2, ho2⟩
          have HD2 := Lib.hid hd2
          clear hd2
          go_wp2_with fail
          exact ⟨⟨j + 1, by omega, by go_num, HD2, ho2⟩, by simp [intOf]; omega⟩
        · obtain rfl : j = n := by omega
          go_wp2_with fail
          go_ret
          rw [HV.out]
          exact ⟨rfl, hd.out, ho⟩
    · obtain rfl : c = 0 := by omega
      have hv : N.act s p n upd = (7, { N with acts := N.acts + 1, off := true, cut := none, offs := N.offs + 1, data := N.data.set s (cutRow upd p l n b m) }) := by
        unfold Nor.act
        rw [hc, hgd]
        simp only []
        rw [if_neg hpos]
      have HV := Lib.hid hv
      have HA2 : DevR O (w.setCell ⟨N.D, 7, none⟩ (.int .i64 ((N.acts : Int) + 1))) { N with acts := N.acts + 1, data := N.data.set s (stepRow upd p l 0) } := by
        have := HA.out
        unfold stepRow
        rw [← hset0]
        exact this
      have HB := Lib.hid HA2
      have OFF : ∀ (W : World) (d : List (List Nat)), DevR O W { N with acts := N.acts + 1, data := d } → Out O w W → Hid (Calls Tryz.prog 9 #[ptrD N] W fun e w' => e = .returned (.tuple #[]) ∧ DevR O w' { N with acts := N.acts + 1, off := true, cut := none, offs := N.offs + 1, data := d } ∧ Out O w w') := by
        intro W d hd ho
        refine Lib.hid ((off_any hd h2).mono ?_)
        rintro e w' ⟨rfl, h3, h4⟩
        refine ⟨rfl, ?_, ho.trans h4⟩
        unfold Nor.turn at h3
        rw [if_neg (by simp [hon])] at h3
        exact h3
      clear HA2 hv hset0 HA hpos
      by_cases hbn : b < n
      · have hcr : cutRow upd p l n b m = (stepRow upd p l b).set (p + b) (upd b m ((stepRow upd p l b).getD (p + b) 0)) := by unfold cutRow; rw [if_pos hbn]
        rw [hcr] at HV
        clear hcr
        go_enter Tryz.func255, Tryz.ntmps255
        go_wp2_with fail
        generalize w.setCell ⟨N.D, 7, none⟩ (.int .i64 ((N.acts : Int) + 1)) = w1 at *
        go_loopw [10, 55] (fun _ i wr => ∃ j : Nat, j ≤ b ∧ i = .int .i64 j ∧ Hid (DevR O wr { N with acts := N.acts + 1, data := N.data.set s (stepRow upd p l j) }) ∧ Out O w wr) (fun _ i _ => b - (intOf i).toNat)
        case atStart => exact ⟨0, Nat.zero_le _, rfl, HB, oA⟩
        case round =>
          obtain ⟨j, hj, rfl, hd, ho⟩ := hrel
          by_cases hlt2 : j < b
          · have hR := Lib.hid (ROUND.out wr { N with acts := N.acts + 1 } j 255 rfl rfl hd.out ho (by omega) (by decide))
            go_wp2_with fail
            refine hR.out.mono ?_; rintro e w2 ⟨rfl, hd2, ho2⟩
            have HD2 := Lib.hid hd2
            clear hd2
            go_wp2_with fail
            exact ⟨⟨j + 1, by omega, by go_num, HD2, ho2⟩, by simp [intOf]; omega⟩
          · obtain rfl : j = b := by omega
            have hR := Lib.hid (ROUND.out wr { N with acts := N.acts + 1 } j m rfl rfl hd.out ho hbn hmk)
            have g2 : wr.cell? ⟨N.CB, 2, none⟩ = some (.int .u8 m) := cell_blk (hd.out.hC _ hc) 2
            have hlt3 : (j : Int) < (n : Int) := by omega
            go_wp2_with fail
            refine hR.out.mono ?_; rintro e w2 ⟨rfl, hd2, ho2⟩
            have HO := OFF w2 _ hd2 ho2
            clear hd2
            go_wp2_with fail
            refine HO.out.mono ?_; rintro e w3 ⟨rfl, hd3, ho3⟩
            go_wp2_with fail
            go_ret
            rw [HV.out]
            exact ⟨rfl, hd3, ho3⟩
      · have hcr : cutRow upd p l n b m = stepRow upd p l n := by unfold cutRow; rw [if_neg hbn]
        rw [hcr] at HV
        clear hcr
        go_enter Tryz.func255, Tryz.ntmps255
        go_wp2_with fail
        generalize w.setCell ⟨N.D, 7, none⟩ (.int .i64 ((N.acts : Int) + 1)) = w1 at *
        go_loopw [10, 55] (fun _ i wr => ∃ j : Nat, j ≤ n ∧ i = .int .i64 j ∧ Hid (DevR O wr { N with acts := N.acts + 1, data := N.data.set s (stepRow upd p l j) }) ∧ Out O w wr) (fun _ i _ => n - (intOf i).toNat)
        case atStart => exact ⟨0, Nat.zero_le _, rfl, HB, oA⟩
        case round =>
          obtain ⟨j, hj, rfl, hd, ho⟩ := hrel
          by_cases hlt2 : j < n
          · have hR := Lib.hid (ROUND.out wr { N with acts := N.acts + 1 } j 255 rfl rfl hd.out ho (by omega) (by decide))
            go_wp2_with fail
            refine hR.out.mono ?_; rintro e w2 ⟨rfl, hd2, ho2⟩
            have HD2 := Lib.hid hd2
            clear hd2
            go_wp2_with fail
            exact ⟨⟨j + 1, by omega, by go_num, HD2, ho2⟩, by simp [intOf]; omega⟩
          · obtain rfl : j = n := by omega
            have HO := OFF wr _ hd.out ho
            go_wp2_with fail
            refine HO.out.mono ?_; rintro e w3 ⟨rfl, hd3, ho3⟩
            go_wp2_with fail
            go_ret
            rw [HV.out]
            exact ⟨rfl, hd3, ho3⟩
end Go.Proofs.YthiimpleljaimaaGreatDoor

