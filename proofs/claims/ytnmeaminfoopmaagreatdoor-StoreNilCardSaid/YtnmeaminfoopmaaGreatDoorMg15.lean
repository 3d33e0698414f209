/- The device's wear, spoilt sectors, and its cut. -/
import Derived.Test.YtnmeaminfoopmaaGreatDoorMg6
import Derived.Test.YtnmeaminfoopmaaGreatDoorMg10
namespace Go.Proofs.YtnmeaminfoopmaaGreatDoor
open Go.RowKit Flo

theorem wear_nil (s : Int) (w : World) : Gives 30 #[nilD, i64 s] w (i64 0) := by
  go_enter Tryz.func30, Tryz.ntmps30
  go_wp2_with fail
  go_ret
  exact ⟨rfl, rfl⟩
def Nor.wearAt (N : Nor) (s : Int) : Nat := if 0 ≤ s ∧ s < N.S then N.wear.getD s.toNat 0 else 0
set_option maxHeartbeats 2000000 in
theorem wear_any {O : Nat → Prop} {w : World} {N : Nor} (h : DevR O w N) (s : Int) : Gives 30 #[ptrD N, i64 s] w (i64 (N.wearAt s)) := by
  have c0 : w.cell? ⟨N.D, 0, none⟩ = some (i64 N.S) := h.at 0
  have c3 : w.cell? ⟨N.D, 3, none⟩ = some (.slice (some ⟨N.WB, 0, none⟩) N.S N.S) := h.at 3
  by_cases hin : 0 ≤ s ∧ s < N.S
  · obtain ⟨k, rfl⟩ : ∃ k : Nat, s = k := ⟨s.toNat, by omega⟩
    have hk : k < N.S := by omega
    have hv : N.wearAt k = N.wear.getD k 0 := by unfold Nor.wearAt; rw [if_pos hin]; rfl
    have hkw : k < N.wear.length := by rw [h.wl]; exact hk
    have hc : w.cell? ⟨N.WB, k, none⟩ = some (i64 (N.wear.getD k 0 : Nat)) := by
      rw [cell_blk h.hW]
      simp [hkw]
    rw [hv]
    clear hv hin
    obtain ⟨x, hx⟩ : ∃ x, N.wear.getD k 0 = x := ⟨_, rfl⟩
    rw [hx] at hc ⊢
    clear hx
    go_enter Tryz.func30, Tryz.ntmps30
    go_wp2_with fail
    go_ret
    exact ⟨rfl, rfl⟩
  · have hv : N.wearAt s = 0 := by unfold Nor.wearAt; rw [if_neg hin]
    rw [hv]
    clear hv
    go_enter Tryz.func30, Tryz.ntmps30
    go_wp2_with fail
    all_goals first
      | (exfalso; omega)
      | (go_ret; exact ⟨rfl, rfl⟩)

theorem spoil_nil (s : Int) (w : World) : Gives 54 #[nilD, i64 s] w (.tuple #[]) := by
  go_enter Tryz.func54, Tryz.ntmps54
  go_wp2_with fail
  first | go_end0 | refine bodyPost_ret (results_none rfl _ _ _) rfl ?_
  exact ⟨rfl, rfl⟩
theorem DevR.setM {O : Nat → Prop} {w w' : World} {N : Nor} (h : DevR O w N) {l : List (Int × Value)} (hm : MapR (Value.int .i64) w' N.MB l) (hg : w.grownBy w' (some N.MB)) (hl : ∀ p ∈ l, p.2 = .bool true) : DevR O w' { N with bad := l } := by
  obtain ⟨arr, ha1, ha2⟩ := h.hA
  have ob : ∀ {g : Nat} {cs : Array Value} {t : TypeId} {f : Nat × Nat}, w.heap[g]? = some (.cells cs t f) → w'.heap[g]? = some (.cells cs t f) := by
    intro g cs t f hx
    rw [hg.block g (Array.getElem?_eq_some_iff.1 hx).1 (by intro e; injection e with e; exact mapR_ne h.hM hx e.symm)]
    exact hx
  exact { lim := fun k hk => Nat.lt_of_lt_of_le (h.lim k hk) hg.size, hD := ob h.hD, hA := ⟨arr, ob ha1, ha2⟩, hW := ob h.hW, hM := hm, hR := fun i l hl => by { obtain ⟨b, j, h1, h2⟩ := h.hR i l hl; exact ⟨b, j, h1, ob h2⟩ }, hC := fun c hc => ob (h.hC c hc), bkl := h.bkl, dl := h.dl, wl := h.wl, row := h.row, geo := h.geo, badt := hl, cdl := h.cdl, mask := h.mask, ownD := h.ownD, ownA := h.ownA, ownW := h.ownW, ownM := h.ownM, ownC := h.ownC, ownR := h.ownR, apart := h.apart, apartC := h.apartC }
theorem mput_bad {l : List (Int × Value)} (h : ∀ p ∈ l, p.2 = .bool true) (x : Int) : ∀ p ∈ mput l x (.bool true), p.2 = .bool true := by
  intro p hp
  unfold mput at hp
  split at hp
  · obtain ⟨q, hq, rfl⟩ := List.mem_map.1 hp
    split
    · rfl
    · exact h q hq
  · rcases List.mem_append.1 hp with hp | hp
    · exact h p hp
    · rw [List.mem_singleton] at hp; subst hp; rfl
def Nor.spoil (N : Nor) (s : Int) : Nor := { N with bad := mput N.bad s (.bool true) }
set_option maxHeartbeats 2000000 in
theorem spoil_any {O : Nat → Prop} {w : World} {N : Nor} (h : DevR O w N) (s : Int) : Calls Tryz.prog 54 #[ptrD N, i64 s] w fun e w' => e = .returned (.tuple #[]) ∧ DevR O w' (N.spoil s) ∧ Out O w w' := by
  have c4 : w.cell? ⟨N.D, 4, none⟩ = some (.map (some N.MB)) := h.at 4
  have K := keys_int (P := Tryz.prog) (k := 3) (q := .i64) Tryz.underlying3
  have hm := h.hM
  go_enter Tryz.func54, Tryz.ntmps54
  go_wp2_with (refine wpList_update_R rfl 108 _ _ _ rfl 3 4 K Tryz.underlying108 rfl s rfl (.bool true) rfl hm ?_; intro w3 hm5 hg5 hs5)
  first | go_end0 | refine bodyPost_ret (results_none rfl _ _ _) rfl ?_
  exact ⟨rfl, h.setM hm5 hg5 (mput_bad h.badt s), (Out.refl O w).grown h.ownM hg5⟩

theorem cut_nil (a b : Int) (m : Nat) (w : World) : Gives 52 #[nilD, i64 a, i64 b, .int .u8 m] w (.tuple #[]) := by
  go_enter Tryz.func52, Tryz.ntmps52
  go_wp2_with fail
  first | go_end0 | refine bodyPost_ret (results_none rfl _ _ _) rfl ?_
  exact ⟨rfl, rfl⟩
theorem DevR.newC {O : Nat → Prop} {w : World} {N : Nor} (h : DevR O w N) (a b m : Nat) (hm : m < 256) :
    DevR (fun k => O k ∨ k = w.heap.size) ((w.setCell ⟨N.D, 8, none⟩ (.pointer (some ⟨w.heap.size, 0, none⟩))).alloc (.cells #[i64 a, i64 b, .int .u8 m] 161)) { N with cut := some (a, b, m), CB := w.heap.size } := by
  obtain ⟨hap1, hap2⟩ := List.nodup_cons.1 h.apart
  simp only [List.mem_cons, not_or] at hap1
  obtain ⟨arr, ha1, ha2⟩ := h.hA
  have hm0 := mapR_ne h.hM h.hD
  have hsz : (w.setCell ⟨N.D, 8, none⟩ (.pointer (some ⟨w.heap.size, 0, none⟩))).heap.size = w.heap.size := by simp [World.setCell]
  have hnew := blk_new (w.setCell ⟨N.D, 8, none⟩ (.pointer (some ⟨w.heap.size, 0, none⟩))) (.cells #[i64 a, i64 b, .int .u8 m] 161)
  rw [hsz] at hnew
  refine { lim := ?_, hD := blk_old ?_, hA := ⟨arr, blk_old (blk_set ha1 _ _ (Ne.symm hap1.1)), ha2⟩, hW := blk_old (blk_set h.hW _ _ (Ne.symm hap1.2.1)), hM := (mapR_set h.hM _ _ hm0).alloc _, hR := ?_, hC := ?_, bkl := h.bkl, dl := h.dl, wl := h.wl, row := h.row, geo := h.geo, badt := h.badt, cdl := h.cdl, mask := ?_, ownD := .inl h.ownD, ownA := .inl h.ownA, ownW := .inl h.ownW, ownM := .inl h.ownM, ownC := fun _ _ => .inr rfl, ownR := fun b hb => .inl (h.ownR b hb), apart := h.apart, apartC := ?_ }
  · intro k hk
    have : ((w.setCell ⟨N.D, 8, none⟩ (.pointer (some ⟨w.heap.size, 0, none⟩))).alloc (.cells #[i64 a, i64 b, .int .u8 m] 161)).heap.size = w.heap.size + 1 := by simp [World.setCell]
    rw [this]
    rcases hk with hk | hk
    · have := h.lim k hk; omega
    · omega
  · exact heap_setCell h.hD 8 _
  · intro i l hl
    obtain ⟨b, j, h1, h2⟩ := h.hR i l hl
    exact ⟨b, j, h1, blk_old (blk_set h2 _ _ (fun e => hap1.2.2 (by rw [← e]; exact List.mem_of_getElem? h1)))⟩
  · intro c hc
    injection hc with hc
    subst hc
    exact hnew
  · intro c hc
    injection hc with hc
    subst hc
    exact hm
  · intro c hc hmem
    have : O w.heap.size := by
      simp only [List.mem_cons] at hmem
      rcases hmem with h1 | h1 | h1 | h1
      · rw [h1]; exact h.ownD
      · rw [h1]; exact h.ownA
      · rw [h1]; exact h.ownW
      · exact h.ownR _ h1
    exact Nat.lt_irrefl _ (h.lim _ this)
def Nor.cutAt (N : Nor) (a b : Int) (m : Nat) (g : Nat) : Nor := { N with cut := some (a.toNat, b.toNat, m), CB := g }
set_option maxHeartbeats 4000000 in
theorem cut_any {O : Nat → Prop} {w : World} {N : Nor} (h : DevR O w N) (a b : Int) (m : Nat) (hm : m < 256) : Calls Tryz.prog 52 #[ptrD N, i64 a, i64 b, .int .u8 m] w fun e w' => e = .returned (.tuple #[]) ∧ DevR (fun k => O k ∨ k = w.heap.size) w' (N.cutAt a b m w.heap.size) ∧ Out O w w' := by
  have c8 : w.cell? ⟨N.D, 8, none⟩ = some N.cutv := h.at 8
  have hf := frozen_blk h.hD 8
  have hlt := h.ltD
  have hnw := fun x y => h.newC x y m hm
  have hown := h.ownD
  go_enter Tryz.func52, Tryz.ntmps52
  go_wp2_with fail
  all_goals
    first | go_end0 | refine bodyPost_ret (results_none rfl _ _ _) rfl ?_
    have hn := hnw a.toNat b.toNat
    refine ⟨rfl, ?_, Out.then ((Out.refl O w).set hown _ _) (Base.al (Below.refl _ _) _)⟩
    first
      | rw [show ((a.toNat : Nat) : Int) = a by omega, show ((b.toNat : Nat) : Int) = b by omega] at hn
      | rw [show ((a.toNat : Nat) : Int) = a by omega, show ((b.toNat : Nat) : Int) = 0 by omega] at hn
      | rw [show ((a.toNat : Nat) : Int) = 0 by omega, show ((b.toNat : Nat) : Int) = b by omega] at hn
      | rw [show ((a.toNat : Nat) : Int) = 0 by omega, show ((b.toNat : Nat) : Int) = 0 by omega] at hn
    exact hn
end Go.Proofs.YtnmeaminfoopmaaGreatDoor

/- The device read. -/
namespace Go.Proofs.YtnmeaminfoopmaaGreatDoor
open Go.RowKit Flo

theorem DevR.geoI {O : Nat → Prop} {w : World} {N : Nor} (h : DevR O w N) : 6 ≤ N.S ∧ N.S ≤ 64 ∧ 512 ≤ N.Z ∧ N.Z ≤ 4096 := by have := geoB_yes h.geo; omega

set_option maxHeartbeats 4000000 in
set_option maxRecDepth 100000 in
theorem read_nil (a b : Nat) (n : Int) (w : World) : Gives 55 #[nilD, cx a b, i64 n] w (.tuple #[.slice none 0 0, i64 7]) := by
  have g0 := fun W => Lib.hid (isOn_nil W)
  go_enter Tryz.func55, Tryz.ntmps55
  go_wp2_with fail
  refine (g0 _).out.mono ?_; rintro e x1 ⟨rfl, rfl⟩
  go_wp2_with fail
  go_ret2
  exact ⟨rfl, rfl⟩

/-- A piece of a sector. -/
theorem DevR.row_at {O : Nat → Prop} {w : World} {N : Nor} (h : DevR O w N) {s : Nat} (hs : s < N.S) :
    ∃ (l : List Nat) (b : Nat), N.data[s]? = some l ∧ N.bk[s]? = some b ∧ w.cell? ⟨N.DA, s, none⟩ = some (.slice (some ⟨b, 0, none⟩) N.Z N.Z) ∧ l.length = N.Z ∧ (∀ x ∈ l, x < 256) ∧ O b ∧ b < w.heap.size ∧
      (∀ j u, (l.map bv)[j]? = some u → w.cell? ⟨b, j, none⟩ = some u) ∧ ∀ j, w.frozen? ⟨b, j, none⟩ = false := by
  have hsd : s < N.data.length := by rw [h.dl]; exact hs
  have hl : N.data[s]? = some N.data[s] := List.getElem?_eq_getElem hsd
  obtain ⟨b, junk, h1, h2⟩ := h.hR s _ hl
  obtain ⟨arr, ha1, ha2⟩ := h.hA
  refine ⟨_, b, hl, h1, ?_, (h.row _ (List.mem_of_getElem? hl)).1, (h.row _ (List.mem_of_getElem? hl)).2, h.ownR b (List.mem_of_getElem? h1), (Array.getElem?_eq_some_iff.1 h2).1, ?_, fun j => frozen_blk h2 j⟩
  · rw [cell_blk ha1]
    simpa using ha2 s b h1
  · intro j u hj
    rw [cell_blk h2]
    have hjl := (List.getElem?_eq_some_iff.1 hj).1
    simp only [List.getElem?_toArray]
    rw [List.getElem?_append_left hjl]
    exact hj
theorem piece_Byt {w : World} {b cap : Nat} {l : List Nat} (hb : b < w.heap.size) (hx : ∀ j u, (l.map bv)[j]? = some u → w.cell? ⟨b, j, none⟩ = some u) (a n : Nat) (hn : a + n ≤ l.length) (hc : n ≤ cap) (hcm : cap ≤ maxLen) :
    Byt w (.slice (some ⟨b, a, none⟩) n cap) ((l.drop a).take n) := by
  have hlen : (((l.drop a).take n).map fun x => [bv x]).length = n := by rw [List.length_map, List.length_take, List.length_drop]; omega
  refine ⟨some ⟨b, a, none⟩, cap, by rw [hlen], by rw [hlen]; exact hc, hcm, (fun h => by cases h), fun _ => ⟨b, a, rfl, hb, ?_⟩⟩
  intro i x hi
  rw [List.getElem?_map] at hi
  obtain ⟨y, hy, rfl⟩ := Option.map_eq_some_iff.1 hi
  refine ⟨rfl, fun j u hj => ?_⟩
  cases j with
  | succ j => cases hj
  | zero =>
    have hil : i < n := by have := (List.getElem?_eq_some_iff.1 hy).1; rw [List.length_take] at this; omega
    rw [List.getElem?_take_of_lt hil, List.getElem?_drop] at hy
    have : u = bv y := by simpa using hj.symm
    subst this
    have := hx (a + i) (bv y) (by rw [List.getElem?_map, hy]; rfl)
    rw [show a + i * 1 + 0 = a + i by omega]
    exact this

/-- What is read. -/
noncomputable def Nor.got (N : Nor) (a b : Nat) (n : Int) : List Nat × Nat :=
  if N.off then ([], 7) else if withinB N.S N.Z a b n then (((N.data.getD ((part? a).getD 0) []).drop ((part? b).getD 0)).take n.toNat, 0) else ([], 1)
/-- What a reading call gives. -/
abbrev ReadPost (w : World) (l : List Nat) (e : Nat) (en : Ending) (w' : World) : Prop :=
  ∃ v, en = .returned (.tuple #[v, i64 e]) ∧ w'.ownsRow w.heap.size 5 1 v l.length (l.map bv) ∧ Below w.heap.size w w'
theorem own_none (w : World) (base : Nat) (e : TypeId) : w.ownsRow base e 1 (.slice none 0 0) 0 [] := ⟨rfl, .inl ⟨rfl, rfl⟩⟩

set_option maxHeartbeats 4000000 in
set_option maxRecDepth 100000 in
theorem read_any {O : Nat → Prop} {w : World} {N : Nor} (h : DevR O w N) (a b : Nat) (n : Int) :
    Calls Tryz.prog 55 #[ptrD N, cx a b, i64 n] w (ReadPost w (N.got a b n).1 (N.got a b n).2) := by
  have g0 := fun W (hW : DevR O W N) => Lib.hid (isOn_any hW)
  obtain ⟨q1, q2, q3, q4⟩ := h.geoI
  cases hoff : N.off
  case true =>
    have hv : N.got a b n = ([], 7) := by unfold Nor.got; rw [hoff]; rfl
    rw [hv]
    rw [hoff] at g0
    clear hv
    go_enter Tryz.func55, Tryz.ntmps55
    go_wp2_with fail
    refine (g0 _ h).out.mono ?_; rintro e x1 ⟨rfl, rfl⟩
    go_wp2_with fail
    go_ret2
    exact ⟨_, rfl, own_none _ _ _, Below.refl _ _⟩
  case false =>
    rw [hoff] at g0
    have c0 : w.cell? ⟨N.D, 0, none⟩ = some (i64 N.S) := h.at 0
    have c1 : w.cell? ⟨N.D, 1, none⟩ = some (i64 N.Z) := h.at 1
    have hlt := h.ltD
    have g1 := fun W => Lib.hid (within_any (N.S : Int) N.Z a b n W (by omega) (by omega))
    cases hwi : withinB N.S N.Z a b n
    · have hv : N.got a b n = ([], 1) := by unfold Nor.got; rw [hoff, hwi]; rfl
      rw [hv]
      rw [hwi] at g1
      clear hv
      go_enter Tryz.func55, Tryz.ntmps55
      go_wp2_with fail
      refine (g0 _ h).out.mono ?_; rintro e x1 ⟨rfl, rfl⟩
      go_wp2_with fail
      refine (g1 _).out.mono ?_; rintro e x2 ⟨rfl, hb2⟩
      go_wp2_with fail
      go_ret2
      exact ⟨_, rfl, own_none _ _ _, hb2⟩
    · obtain ⟨k, o, ha, hb⟩ : ∃ k o, part? a = some k ∧ part? b = some o := by
        cases h1 : part? a <;> cases h2 : part? b <;> first | exact ⟨_, _, rfl, rfl⟩ | (rw [within_no (by simp [h1, h2])] at hwi; cases hwi)
      have hin := hwi
      rw [within_yes ha hb] at hin
      simp only [Bool.and_eq_true, decide_eq_true_eq] at hin
      obtain ⟨⟨⟨i1, i2⟩, i3⟩, i4⟩ := hin
      obtain ⟨m, rfl⟩ : ∃ m : Nat, n = m := ⟨n.toNat, by omega⟩
      obtain ⟨l, bb, hl, hbk, -, hll, hlt8, hO, -, -, -⟩ := h.row_at (s := k) (by omega)
      have hv : N.got a b m = ((l.drop o).take m, 0) := by
        unfold Nor.got
        rw [hoff, hwi, ha, hb]
        simp [List.getD_eq_getElem?_getD, hl]
      rw [hv]
      rw [hwi] at g1
      have g2 := fun W => Lib.hid (parts_yes W ha hb)
      clear hv hwi ha hb
      go_enter Tryz.func55, Tryz.ntmps55
      go_wp2_with fail
      refine (g0 _ h).out.mono ?_; rintro e x1 ⟨rfl, rfl⟩
      go_wp2_with fail
      refine (g1 _).out.mono ?_; rintro e x2 ⟨rfl, hb2⟩
      go_wp2_with fail
      refine (g2 _).out.mono ?_; rintro e x3 ⟨rfl, rfl⟩
      have h3 := h.below hb2
      have d2 : x3.cell? ⟨N.D, 2, none⟩ = some (.slice (some ⟨N.DA, 0, none⟩) N.S N.cd) := h3.at 2
      obtain ⟨l', bb', hl', hbk', hda, -, -, -, hblt, hcells, -⟩ := h3.row_at (s := k) (by omega)
      obtain rfl : l' = l := by rw [hl] at hl'; injection hl' with e; exact e.symm
      obtain rfl : bb' = bb := by rw [hbk] at hbk'; injection hbk' with e; exact e.symm
      have k1 : (0 : Int) ≤ (o : Int) + (m : Int) ∧ (o : Int) + (m : Int) ≤ (N.Z : Int) := by omega
      have k3 : (o : Int) ≤ (o : Int) + (m : Int) := by omega
      have k4 : ((o : Int) + (m : Int)).toNat = o + m := by omega
      have k5 : o + m - o = m := by omega
      have k6 : k < N.S := by omega
      clear g0 g1 g2 hl' hbk' hl hbk c0 c1 h h3
      by_cases ho : N.Z = o
      · obtain rfl : m = 0 := by omega
        have hcl := clone_any ⟨bb', 0, none⟩ 0 0 [] x3 ⟨some ⟨bb', 0, none⟩, 0, rfl, Nat.zero_le _, by unfold maxLen; omega, (fun h => by cases h), fun h => absurd h (by decide)⟩ (by simp)
        have HCL := Lib.hid hcl
        clear hcl hcells
        go_wp2_with fail
        refine HCL.out.mono ?_; rintro e x4 ⟨v, rfl, hown, -, hb4⟩
        go_wp2_with fail
        go_ret2
        exact ⟨_, rfl, by simpa using own_base hown hb2.size, Base.tr hb2 hb4⟩
      · have hby := piece_Byt (cap := N.Z - o) hblt hcells o m (by omega) (by omega) (by unfold maxLen; omega)
        have hcl := clone_any ⟨bb', o, none⟩ m (N.Z - o) _ x3 hby (by rw [List.length_take, List.length_drop]; omega)
        have HCL := Lib.hid hcl
        clear hcl hcells hby
        go_wp2_with fail
        refine HCL.out.mono ?_; rintro e x4 ⟨v, rfl, hown, -, hb4⟩
        go_wp2_with fail
        go_ret2
        exact ⟨_, rfl, own_base hown hb2.size, Base.tr hb2 hb4⟩
end Go.Proofs.YtnmeaminfoopmaaGreatDoor

