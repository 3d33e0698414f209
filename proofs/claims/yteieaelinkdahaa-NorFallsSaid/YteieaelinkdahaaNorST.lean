/- The device's small operations: is it on, on, off, its counts; and of none. -/
import Derived.Test.YteieaelinkdahaaNor
namespace Go.Proofs.Yteieaelinkdahaa
open Go.RowKit Flo

abbrev ptrD (N : Nor) : Value := .pointer (some ⟨N.D, 0, none⟩)
abbrev nilD : Value := .pointer none
/-- What a head's cells are. -/
theorem DevR.at {O : Nat → Prop} {w : World} {N : Nor} (h : DevR O w N) (i : Nat) : w.cell? ⟨N.D, i, none⟩ = N.cells[i]? := cell_blk h.hD i

theorem DevR.ltD {O : Nat → Prop} {w : World} {N : Nor} (h : DevR O w N) : N.D < w.heap.size := (Array.getElem?_eq_some_iff.1 h.hD).1

theorem isOn_nil (w : World) : Gives 20 #[nilD] w (.bool false) := by
  go_enter Try.func20, Try.ntmps20
  go_wp2_with fail
  go_ret
  exact ⟨rfl, rfl⟩
theorem isOn_any {O : Nat → Prop} {w : World} {N : Nor} (h : DevR O w N) : Gives 20 #[ptrD N] w (.bool (!N.off)) := by
  have c5 : w.cell? ⟨N.D, 5, none⟩ = some (.bool N.off) := h.at 5
  go_enter Try.func20, Try.ntmps20
  go_wp2_with fail
  go_ret
  exact ⟨rfl, rfl⟩
theorem acts_nil (w : World) : Gives 19 #[nilD] w (i64 0) := by
  go_enter Try.func19, Try.ntmps19
  go_wp2_with fail
  go_ret
  exact ⟨rfl, rfl⟩
theorem acts_any {O : Nat → Prop} {w : World} {N : Nor} (h : DevR O w N) : Gives 19 #[ptrD N] w (i64 N.acts) := by
  have c7 : w.cell? ⟨N.D, 7, none⟩ = some (i64 N.acts) := h.at 7
  go_enter Try.func19, Try.ntmps19
  go_wp2_with fail
  go_ret
  exact ⟨rfl, rfl⟩
theorem offs_nil (w : World) : Gives 21 #[nilD] w (i64 0) := by
  go_enter Try.func21, Try.ntmps21
  go_wp2_with fail
  go_ret
  exact ⟨rfl, rfl⟩
theorem offs_any {O : Nat → Prop} {w : World} {N : Nor} (h : DevR O w N) : Gives 21 #[ptrD N] w (i64 N.offs) := by
  have c6 : w.cell? ⟨N.D, 6, none⟩ = some (i64 N.offs) := h.at 6
  go_enter Try.func21, Try.ntmps21
  go_wp2_with fail
  go_ret
  exact ⟨rfl, rfl⟩
theorem geom_nil (w : World) : Makes 22 #[nilD] w (geo 0 0) := by
  go_enter Try.func22, Try.ntmps22
  go_wp2_with fail
  exact bodyPost_ret (v := geo 0 0) (by simp [results, Try.results22, go_sem]) rfl ⟨rfl, Base.al (Below.refl _ _) _⟩
theorem geom_any {O : Nat → Prop} {w : World} {N : Nor} (h : DevR O w N) : Makes 22 #[ptrD N] w (geo N.S N.Z) := by
  have c0 : w.cell? ⟨N.D, 0, none⟩ = some (i64 N.S) := h.at 0
  have c1 : w.cell? ⟨N.D, 1, none⟩ = some (i64 N.Z) := h.at 1
  have hlt := h.ltD
  go_enter Try.func22, Try.ntmps22
  go_wp2_with fail
  exact bodyPost_ret (v := geo N.S N.Z) (by simp [results, Try.results22, go_sem]) rfl ⟨rfl, Base.al (Below.refl _ _) _⟩
theorem on_nil (w : World) : Gives 14 #[nilD] w (.tuple #[]) := by
  go_enter Try.func14, Try.ntmps14
  go_wp2_with fail
  first | go_end0 | refine bodyPost_ret (results_none rfl _ _ _) rfl ?_
  exact ⟨rfl, rfl⟩
theorem on_any {O : Nat → Prop} {w : World} {N : Nor} (h : DevR O w N) : Calls Try.prog 14 #[ptrD N] w fun e w' => e = .returned (.tuple #[]) ∧ w' = w.setCell ⟨N.D, 5, none⟩ (.bool false) := by
  have c5 : w.cell? ⟨N.D, 5, none⟩ = some (.bool N.off) := h.at 5
  have hf := frozen_blk h.hD 5
  go_enter Try.func14, Try.ntmps14
  go_wp2_with fail
  first | go_end0 | refine bodyPost_ret (results_none rfl _ _ _) rfl ?_
  exact ⟨rfl, rfl⟩
theorem DevR.on {O : Nat → Prop} {w : World} {N : Nor} (h : DevR O w N) : DevR O (w.setCell ⟨N.D, 5, none⟩ (.bool false)) { N with off := false } :=
  h.setD 5 _ rfl (.inr rfl) rfl
theorem off_nil (w : World) : Gives 13 #[nilD] w (.tuple #[]) := by
  have g0 := fun W => Lib.hid (isOn_nil W)
  go_enter Try.func13, Try.ntmps13
  go_wp2_with fail
  refine (g0 _).out.mono ?_; rintro e x1 ⟨rfl, rfl⟩
  go_wp2_with fail
  first | go_end0 | refine bodyPost_ret (results_none rfl _ _ _) rfl ?_
  exact ⟨rfl, rfl⟩
/-- Off: what is left. -/
def Nor.turn (N : Nor) : Nor := if N.off then N else { N with off := true, cut := none, offs := N.offs + 1 }
set_option maxHeartbeats 2000000 in
theorem off_any {O : Nat → Prop} {w : World} {N : Nor} (h : DevR O w N) (hlim : N.offs ≤ 1000000) : Calls Try.prog 13 #[ptrD N] w fun e w' => e = .returned (.tuple #[]) ∧ DevR O w' N.turn ∧ Out O w w' := by
  have g0 := fun W (hW : DevR O W N) => Lib.hid (isOn_any hW)
  cases hoff : N.off
  · rw [hoff] at g0
    have c5 : w.cell? ⟨N.D, 5, none⟩ = some (.bool false) := by rw [← hoff]; exact h.at 5
    have c6 : w.cell? ⟨N.D, 6, none⟩ = some (i64 N.offs) := h.at 6
    have c8 : w.cell? ⟨N.D, 8, none⟩ = some N.cutv := h.at 8
    have hf := fun o => frozen_blk h.hD o
    have ht : N.turn = { N with off := true, cut := none, offs := N.offs + 1 } := by unfold Nor.turn; rw [hoff]; rfl
    go_enter Try.func13, Try.ntmps13
    go_wp2_with fail
    refine (g0 _ h).out.mono ?_; rintro e x1 ⟨rfl, rfl⟩
    go_wp2_with fail
    first | go_end0 | refine bodyPost_ret (results_none rfl _ _ _) rfl ?_
    refine ⟨rfl, ?_, ?_⟩
    · rw [ht]
      have h1 := h.setD (N' := { N with off := true }) 5 (.bool true) rfl (.inr rfl) rfl
      have h2 := h1.setD (N' := { N with off := true, cut := none }) 8 (.pointer none) rfl (.inl rfl) rfl
      exact h2.setD (N' := { N with off := true, cut := none, offs := N.offs + 1 }) 6 (i64 (N.offs + 1 : Nat)) rfl (.inl rfl) rfl
    · exact ((((Out.refl O _).set h.ownD _ _).set h.ownD _ _).set h.ownD _ _)
  · rw [hoff] at g0
    have ht : N.turn = N := by unfold Nor.turn; rw [hoff]; rfl
    go_enter Try.func13, Try.ntmps13
    go_wp2_with fail
    refine (g0 _ h).out.mono ?_; rintro e x1 ⟨rfl, rfl⟩
    go_wp2_with fail
    first | go_end0 | refine bodyPost_ret (results_none rfl _ _ _) rfl ?_
    exact ⟨rfl, by rw [ht]; exact h, Out.refl _ _⟩
end Go.Proofs.Yteieaelinkdahaa

/- The device's wear, spoilt sectors, and its cut. -/
namespace Go.Proofs.Yteieaelinkdahaa
open Go.RowKit Flo

theorem wear_nil (s : Int) (w : World) : Gives 18 #[nilD, i64 s] w (i64 0) := by
  go_enter Try.func18, Try.ntmps18
  go_wp2_with fail
  go_ret
  exact ⟨rfl, rfl⟩
def Nor.wearAt (N : Nor) (s : Int) : Nat := if 0 ≤ s ∧ s < N.S then N.wear.getD s.toNat 0 else 0
set_option maxHeartbeats 2000000 in
theorem wear_any {O : Nat → Prop} {w : World} {N : Nor} (h : DevR O w N) (s : Int) : Gives 18 #[ptrD N, i64 s] w (i64 (N.wearAt s)) := by
  have c0 : w.cell? ⟨N.D, 0, none⟩ = some (i64 N.S) := h.at 0
  have c3 : w.cell? ⟨N.D, 3, none⟩ = some (.slice (some ⟨N.WB, 0, none⟩) N.S N.S) := h.at 3
  by_cases hin : 0 ≤ s ∧ s < N.S
  · obtain ⟨k, rfl⟩ : ∃ k : Nat, s = k := ⟨s.toNat, by omega⟩
    have hk : k < N.S := by omega
    have hv : N.wearAt k = N.wear.getD k 0 := by unfold Nor.wearAt; rw [if_pos hin]; rfl
    have hkw : k < N.wear.length := by rw [h.wl]; exact hk
    have hc : w.cell? ⟨N.WB, k, none⟩ = some (i64 (N.wear.getD k 0 : Nat)) := by
      rw [cell_blk h.hW]
      simp [hkw]
    rw [hv]
    clear hv hin
    obtain ⟨x, hx⟩ : ∃ x, N.wear.getD k 0 = x := ⟨_, rfl⟩
    rw [hx] at hc ⊢
    clear hx
    go_enter Try.func18, Try.ntmps18
    go_wp2_with fail
    go_ret
    exact ⟨rfl, rfl⟩
  · have hv : N.wearAt s = 0 := by unfold Nor.wearAt; rw [if_neg hin]
    rw [hv]
    clear hv
    go_enter Try.func18, Try.ntmps18
    go_wp2_with fail
    all_goals first
      | (exfalso; omega)
      | (go_ret; exact ⟨rfl, rfl⟩)

theorem spoil_nil (s : Int) (w : World) : Gives 11 #[nilD, i64 s] w (.tuple #[]) := by
  go_enter Try.func11, Try.ntmps11
  go_wp2_with fail
  first | go_end0 | refine bodyPost_ret (results_none rfl _ _ _) rfl ?_
  exact ⟨rfl, rfl⟩
theorem DevR.setM {O : Nat → Prop} {w w' : World} {N : Nor} (h : DevR O w N) {l : List (Int × Value)} (hm : MapR (Value.int .i64) w' N.MB l) (hg : w.grownBy w' (some N.MB)) (hl : ∀ p ∈ l, p.2 = .bool true) : DevR O w' { N with bad := l } := by
  obtain ⟨arr, ha1, ha2⟩ := h.hA
  have ob : ∀ {g : Nat} {cs : Array Value} {t : TypeId} {f : Nat × Nat}, w.heap[g]? = some (.cells cs t f) → w'.heap[g]? = some (.cells cs t f) := by
    intro g cs t f hx
    rw [hg.block g (Array.getElem?_eq_some_iff.1 hx).1 (by intro e; injection e with e; exact mapR_ne h.hM hx e.symm)]
    exact hx
  exact { lim := fun k hk => Nat.lt_of_lt_of_le (h.lim k hk) hg.size, hD := ob h.hD, hA := ⟨arr, ob ha1, ha2⟩, hW := ob h.hW, hM := hm, hR := fun i l hl => by { obtain ⟨b, j, h1, h2⟩ := h.hR i l hl; exact ⟨b, j, h1, ob h2⟩ }, hC := fun c hc => ob (h.hC c hc), bkl := h.bkl, dl := h.dl, wl := h.wl, row := h.row, geo := h.geo, badt := hl, cdl := h.cdl, mask := h.mask, ownD := h.ownD, ownA := h.ownA, ownW := h.ownW, ownM := h.ownM, ownC := h.ownC, ownR := h.ownR, apart := h.apart, apartC := h.apartC }
theorem mput_bad {l : List (Int × Value)} (h : ∀ p ∈ l, p.2 = .bool true) (x : Int) : ∀ p ∈ mput l x (.bool true), p.2 = .bool true := by
  intro p hp
  unfold mput at hp
  split at hp
  · obtain ⟨q, hq, rfl⟩ := List.mem_map.1 hp
    split
    · rfl
    · exact h q hq
  · rcases List.mem_append.1 hp with hp | hp
    · exact h p hp
    · rw [List.mem_singleton] at hp; subst hp; rfl
def Nor.spoil (N : Nor) (s : Int) : Nor := { N with bad := mput N.bad s (.bool true) }
set_option maxHeartbeats 2000000 in
theorem spoil_any {O : Nat → Prop} {w : World} {N : Nor} (h : DevR O w N) (s : Int) : Calls Try.prog 11 #[ptrD N, i64 s] w fun e w' => e = .returned (.tuple #[]) ∧ DevR O w' (N.spoil s) ∧ Out O w w' := by
  have c4 : w.cell? ⟨N.D, 4, none⟩ = some (.map (some N.MB)) := h.at 4
  have K := keys_int (P := Try.prog) (k := 3) (q := .i64) Try.underlying3
  have hm := h.hM
  go_enter Try.func11, Try.ntmps11
  go_wp2_with (refine wpList_update_R rfl 78 _ _ _ rfl 3 4 K Try.underlying78 rfl s rfl (.bool true) rfl hm ?_; intro w3 hm5 hg5 hs5)
  first | go_end0 | refine bodyPost_ret (results_none rfl _ _ _) rfl ?_
  exact ⟨rfl, h.setM hm5 hg5 (mput_bad h.badt s), (Out.refl O w).grown h.ownM hg5⟩

theorem cut_nil (a b : Int) (m : Nat) (w : World) : Gives 12 #[nilD, i64 a, i64 b, .int .u8 m] w (.tuple #[]) := by
  go_enter Try.func12, Try.ntmps12
  go_wp2_with fail
  first | go_end0 | refine bodyPost_ret (results_none rfl _ _ _) rfl ?_
  exact ⟨rfl, rfl⟩
theorem DevR.newC {O : Nat → Prop} {w : World} {N : Nor} (h : DevR O w N) (a b m : Nat) (hm : m < 256) :
    DevR (fun k => O k ∨ k = w.heap.size) ((w.setCell ⟨N.D, 8, none⟩ (.pointer (some ⟨w.heap.size, 0, none⟩))).alloc (.cells #[i64 a, i64 b, .int .u8 m] 83)) { N with cut := some (a, b, m), CB := w.heap.size } := by
  obtain ⟨hap1, hap2⟩ := List.nodup_cons.1 h.apart
  simp only [List.mem_cons, not_or] at hap1
  obtain ⟨arr, ha1, ha2⟩ := h.hA
  have hm0 := mapR_ne h.hM h.hD
  have hsz : (w.setCell ⟨N.D, 8, none⟩ (.pointer (some ⟨w.heap.size, 0, none⟩))).heap.size = w.heap.size := by simp [World.setCell]
  have hnew := blk_new (w.setCell ⟨N.D, 8, none⟩ (.pointer (some ⟨w.heap.size, 0, none⟩))) (.cells #[i64 a, i64 b, .int .u8 m] 83)
  rw [hsz] at hnew
  refine { lim := ?_, hD := blk_old ?_, hA := ⟨arr, blk_old (blk_set ha1 _ _ (Ne.symm hap1.1)), ha2⟩, hW := blk_old (blk_set h.hW _ _ (Ne.symm hap1.2.1)), hM := (mapR_set h.hM _ _ hm0).alloc _, hR := ?_, hC := ?_, bkl := h.bkl, dl := h.dl, wl := h.wl, row := h.row, geo := h.geo, badt := h.badt, cdl := h.cdl, mask := ?_, ownD := .inl h.ownD, ownA := .inl h.ownA, ownW := .inl h.ownW, ownM := .inl h.ownM, ownC := fun _ _ => .inr rfl, ownR := fun b hb => .inl (h.ownR b hb), apart := h.apart, apartC := ?_ }
  · intro k hk
    have : ((w.setCell ⟨N.D, 8, none⟩ (.pointer (some ⟨w.heap.size, 0, none⟩))).alloc (.cells #[i64 a, i64 b, .int .u8 m] 83)).heap.size = w.heap.size + 1 := by simp [World.setCell]
    rw [this]
    rcases hk with hk | hk
    · have := h.lim k hk; omega
    · omega
  · exact heap_setCell h.hD 8 _
  · intro i l hl
    obtain ⟨b, j, h1, h2⟩ := h.hR i l hl
    exact ⟨b, j, h1, blk_old (blk_set h2 _ _ (fun e => hap1.2.2 (by rw [← e]; exact List.mem_of_getElem? h1)))⟩
  · intro c hc
    injection hc with hc
    subst hc
    exact hnew
  · intro c hc
    injection hc with hc
    subst hc
    exact hm
  · intro c hc hmem
    have : O w.heap.size := by
      simp only [List.mem_cons] at hmem
      rcases hmem with h1 | h1 | h1 | h1
      · rw [h1]; exact h.ownD
      · rw [h1]; exact h.ownA
      · rw [h1]; exact h.ownW
      · exact h.ownR _ h1
    exact Nat.lt_irrefl _ (h.lim _ this)
def Nor.cutAt (N : Nor) (a b : Int) (m : Nat) (g : Nat) : Nor := { N with cut := some (a.toNat, b.toNat, m), CB := g }
set_option maxHeartbeats 4000000 in
theorem cut_any {O : Nat → Prop} {w : World} {N : Nor} (h : DevR O w N) (a b : Int) (m : Nat) (hm : m < 256) : Calls Try.prog 12 #[ptrD N, i64 a, i64 b, .int .u8 m] w fun e w' => e = .returned (.tuple #[]) ∧ DevR (fun k => O k ∨ k = w.heap.size) w' (N.cutAt a b m w.heap.size) ∧ Out O w w' := by
  have c8 : w.cell? ⟨N.D, 8, none⟩ = some N.cutv := h.at 8
  have hf := frozen_blk h.hD 8
  have hlt := h.ltD
  have hnw := fun x y => h.newC x y m hm
  have hown := h.ownD
  go_enter Try.func12, Try.ntmps12
  go_wp2_with fail
  all_goals
    first | go_end0 | refine bodyPost_ret (results_none rfl _ _ _) rfl ?_
    have hn := hnw a.toNat b.toNat
    refine ⟨rfl, ?_, Out.then ((Out.refl O w).set hown _ _) (Base.al (Below.refl _ _) _)⟩
    first
      | rw [show ((a.toNat : Nat) : Int) = a by omega, show ((b.toNat : Nat) : Int) = b by omega] at hn
      | rw [show ((a.toNat : Nat) : Int) = a by omega, show ((b.toNat : Nat) : Int) = 0 by omega] at hn
      | rw [show ((a.toNat : Nat) : Int) = 0 by omega, show ((b.toNat : Nat) : Int) = b by omega] at hn
      | rw [show ((a.toNat : Nat) : Int) = 0 by omega, show ((b.toNat : Nat) : Int) = 0 by omega] at hn
    exact hn
end Go.Proofs.Yteieaelinkdahaa

