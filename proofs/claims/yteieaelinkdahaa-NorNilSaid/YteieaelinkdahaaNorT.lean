/- The device's wear, spoilt sectors, and its cut. -/
import Derived.Test.YteieaelinkdahaaNorS
namespace Go.Proofs.Yteieaelinkdahaa
open Go.RowKit Flo

theorem wear_nil (s : Int) (w : World) : Gives 18 #[nilD, i64 s] w (i64 0) := by
  go_enter Try.func18, Try.ntmps18
  go_wp2_with fail
  go_ret
  exact ⟨rfl, rfl⟩
def Nor.wearAt (N : Nor) (s : Int) : Nat := if 0 ≤ s ∧ s < N.S then N.wear.getD s.toNat 0 else 0
set_option maxHeartbeats 2000000 in
theorem wear_any {O : Nat → Prop} {w : World} {N : Nor} (h : DevR O w N) (s : Int) : Gives 18 #[ptrD N, i64 s] w (i64 (N.wearAt s)) := by
  have c0 : w.cell? ⟨N.D, 0, none⟩ = some (i64 N.S) := h.at 0
  have c3 : w.cell? ⟨N.D, 3, none⟩ = some (.slice (some ⟨N.WB, 0, none⟩) N.S N.S) := h.at 3
  by_cases hin : 0 ≤ s ∧ s < N.S
  · obtain ⟨k, rfl⟩ : ∃ k : Nat, s = k := ⟨s.toNat, by omega⟩
    have hk : k < N.S := by omega
    have hv : N.wearAt k = N.wear.getD k 0 := by unfold Nor.wearAt; rw [if_pos hin]; rfl
    have hkw : k < N.wear.length := by rw [h.wl]; exact hk
    have hc : w.cell? ⟨N.WB, k, none⟩ = some (i64 (N.wear.getD k 0 : Nat)) := by
      rw [cell_blk h.hW]
      simp [hkw]
    rw [hv]
    clear hv hin
    obtain ⟨x, hx⟩ : ∃ x, N.wear.getD k 0 = x := ⟨_, rfl⟩
    rw [hx] at hc ⊢
    clear hx
    go_enter Try.func18, Try.ntmps18
    go_wp2_with fail
    go_ret
    exact ⟨rfl, rfl⟩
  · have hv : N.wearAt s = 0 := by unfold Nor.wearAt; rw [if_neg hin]
    rw [hv]
    clear hv
    go_enter Try.func18, Try.ntmps18
    go_wp2_with fail
    all_goals first
      | (exfalso; omega)
      | (go_ret; exact ⟨rfl, rfl⟩)

theorem spoil_nil (s : Int) (w : World) : Gives 11 #[nilD, i64 s] w (.tuple #[]) := by
  go_enter Try.func11, Try.ntmps11
  go_wp2_with fail
  first | go_end0 | refine bodyPost_ret (results_none rfl _ _ _) rfl ?_
  exact ⟨rfl, rfl⟩
theorem DevR.setM {O : Nat → Prop} {w w' : World} {N : Nor} (h : DevR O w N) {l : List (Int × Value)} (hm : MapR (Value.int .i64) w' N.MB l) (hg : w.grownBy w' (some N.MB)) (hl : ∀ p ∈ l, p.2 = .bool true) : DevR O w' { N with bad := l } := by
  obtain ⟨arr, ha1, ha2⟩ := h.hA
  have ob : ∀ {g : Nat} {cs : Array Value} {t : TypeId} {f : Nat × Nat}, w.heap[g]? = some (.cells cs t f) → w'.heap[g]? = some (.cells cs t f) := by
    intro g cs t f hx
    rw [hg.block g (Array.getElem?_eq_some_iff.1 hx).1 (by intro e; injection e with e; exact mapR_ne h.hM hx e.symm)]
    exact hx
  exact { lim := fun k hk => Nat.lt_of_lt_of_le (h.lim k hk) hg.size, hD := ob h.hD, hA := ⟨arr, ob ha1, ha2⟩, hW := ob h.hW, hM := hm, hR := fun i l hl => by { obtain ⟨b, j, h1, h2⟩ := h.hR i l hl; exact ⟨b, j, h1, ob h2⟩ }, hC := fun c hc => ob (h.hC c hc), bkl := h.bkl, dl := h.dl, wl := h.wl, row := h.row, geo := h.geo, badt := hl, cdl := h.cdl, mask := h.mask, ownD := h.ownD, ownA := h.ownA, ownW := h.ownW, ownM := h.ownM, ownC := h.ownC, ownR := h.ownR, apart := h.apart, apartC := h.apartC }
theorem mput_bad {l : List (Int × Value)} (h : ∀ p ∈ l, p.2 = .bool true) (x : Int) : ∀ p ∈ mput l x (.bool true), p.2 = .bool true := by
  intro p hp
  unfold mput at hp
  split at hp
  · obtain ⟨q, hq, rfl⟩ := List.mem_map.1 hp
    split
    · rfl
    · exact h q hq
  · rcases List.mem_append.1 hp with hp | hp
    · exact h p hp
    · rw [List.mem_singleton] at hp; subst hp; rfl
def Nor.spoil (N : Nor) (s : Int) : Nor := { N with bad := mput N.bad s (.bool true) }
set_option maxHeartbeats 2000000 in
theorem spoil_any {O : Nat → Prop} {w : World} {N : Nor} (h : DevR O w N) (s : Int) : Calls Try.prog 11 #[ptrD N, i64 s] w fun e w' => e = .returned (.tuple #[]) ∧ DevR O w' (N.spoil s) ∧ Out O w w' := by
  have c4 : w.cell? ⟨N.D, 4, none⟩ = some (.map (some N.MB)) := h.at 4
  have K := keys_int (P := Try.prog) (k := 3) (q := .i64) Try.underlying3
  have hm := h.hM
  go_enter Try.func11, Try.ntmps11
  go_wp2_with (refine wpList_update_R rfl 78 _ _ _ rfl 3 4 K Try.underlying78 rfl s rfl (.bool true) rfl hm ?_; intro w3 hm5 hg5 hs5)
  first | go_end0 | refine bodyPost_ret (results_none rfl _ _ _) rfl ?_
  exact ⟨rfl, h.setM hm5 hg5 (mput_bad h.badt s), (Out.refl O w).grown h.ownM hg5⟩

theorem cut_nil (a b : Int) (m : Nat) (w : World) : Gives 12 #[nilD, i64 a, i64 b, .int .u8 m] w (.tuple #[]) := by
  go_enter Try.func12, Try.ntmps12
  go_wp2_with fail
  first | go_end0 | refine bodyPost_ret (results_none rfl _ _ _) rfl ?_
  exact ⟨rfl, rfl⟩
theorem DevR.newC {O : Nat → Prop} {w : World} {N : Nor} (h : DevR O w N) (a b m : Nat) (hm : m < 256) :
    DevR (fun k => O k ∨ k = w.heap.size) ((w.setCell ⟨N.D, 8, none⟩ (.pointer (some ⟨w.heap.size, 0, none⟩))).alloc (.cells #[i64 a, i64 b, .int .u8 m] 83)) { N with cut := some (a, b, m), CB := w.heap.size } := by
  obtain ⟨hap1, hap2⟩ := List.nodup_cons.1 h.apart
  simp only [List.mem_cons, not_or] at hap1
  obtain ⟨arr, ha1, ha2⟩ := h.hA
  have hm0 := mapR_ne h.hM h.hD
  have hsz : (w.setCell ⟨N.D, 8, none⟩ (.pointer (some ⟨w.heap.size, 0, none⟩))).heap.size = w.heap.size := by simp [World.setCell]
  have hnew := blk_new (w.setCell ⟨N.D, 8, none⟩ (.pointer (some ⟨w.heap.size, 0, none⟩))) (.cells #[i64 a, i64 b, .int .u8 m] 83)
  rw [hsz] at hnew
  refine { lim := ?_, hD := blk_old ?_, hA := ⟨arr, blk_old (blk_set ha1 _ _ (Ne.symm hap1.1)), ha2⟩, hW := blk_old (blk_set h.hW _ _ (Ne.symm hap1.2.1)), hM := (mapR_set h.hM _ _ hm0).alloc _, hR := ?_, hC := ?_, bkl := h.bkl, dl := h.dl, wl := h.wl, row := h.row, geo := h.geo, badt := h.badt, cdl := h.cdl, mask := ?_, ownD := .inl h.ownD, ownA := .inl h.ownA, ownW := .inl h.ownW, ownM := .inl h.ownM, ownC := fun _ _ => .inr rfl, ownR := fun b hb => .inl (h.ownR b hb), apart := h.apart, apartC := ?_ }
  · intro k hk
    have : ((w.setCell ⟨N.D, 8, none⟩ (.pointer (some ⟨w.heap.size, 0, none⟩))).alloc (.cells #[i64 a, i64 b, .int .u8 m] 83)).heap.size = w.heap.size + 1 := by simp [World.setCell]
    rw [this]
    rcases hk with hk | hk
    · have := h.lim k hk; omega
    · omega
  · exact heap_setCell h.hD 8 _
  · intro i l hl
    obtain ⟨b, j, h1, h2⟩ := h.hR i l hl
    exact ⟨b, j, h1, blk_old (blk_set h2 _ _ (fun e => hap1.2.2 (by rw [← e]; exact List.mem_of_getElem? h1)))⟩
  · intro c hc
    injection hc with hc
    subst hc
    exact hnew
  · intro c hc
    injection hc with hc
    subst hc
    exact hm
  · intro c hc hmem
    have : O w.heap.size := by
      simp only [List.mem_cons] at hmem
      rcases hmem with h1 | h1 | h1 | h1
      · rw [h1]; exact h.ownD
      · rw [h1]; exact h.ownA
      · rw [h1]; exact h.ownW
      · exact h.ownR _ h1
    exact Nat.lt_irrefl _ (h.lim _ this)
def Nor.cutAt (N : Nor) (a b : Int) (m : Nat) (g : Nat) : Nor := { N with cut := some (a.toNat, b.toNat, m), CB := g }
set_option maxHeartbeats 4000000 in
theorem cut_any {O : Nat → Prop} {w : World} {N : Nor} (h : DevR O w N) (a b : Int) (m : Nat) (hm : m < 256) : Calls Try.prog 12 #[ptrD N, i64 a, i64 b, .int .u8 m] w fun e w' => e = .returned (.tuple #[]) ∧ DevR (fun k => O k ∨ k = w.heap.size) w' (N.cutAt a b m w.heap.size) ∧ Out O w w' := by
  have c8 : w.cell? ⟨N.D, 8, none⟩ = some N.cutv := h.at 8
  have hf := frozen_blk h.hD 8
  have hlt := h.ltD
  have hnw := fun x y => h.newC x y m hm
  have hown := h.ownD
  go_enter Try.func12, Try.ntmps12
  go_wp2_with fail
  all_goals
    first | go_end0 | refine bodyPost_ret (results_none rfl _ _ _) rfl ?_
    have hn := hnw a.toNat b.toNat
    refine ⟨rfl, ?_, Out.then ((Out.refl O w).set hown _ _) (Base.al (Below.refl _ _) _)⟩
    first
      | rw [show ((a.toNat : Nat) : Int) = a by omega, show ((b.toNat : Nat) : Int) = b by omega] at hn
      | rw [show ((a.toNat : Nat) : Int) = a by omega, show ((b.toNat : Nat) : Int) = 0 by omega] at hn
      | rw [show ((a.toNat : Nat) : Int) = 0 by omega, show ((b.toNat : Nat) : Int) = b by omega] at hn
      | rw [show ((a.toNat : Nat) : Int) = 0 by omega, show ((b.toNat : Nat) : Int) = 0 by omega] at hn
    exact hn
end Go.Proofs.Yteieaelinkdahaa
