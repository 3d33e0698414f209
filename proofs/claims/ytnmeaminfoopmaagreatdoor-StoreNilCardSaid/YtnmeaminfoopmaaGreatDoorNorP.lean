/- The device programmed. -/
import Derived.Test.YtnmeaminfoopmaaGreatDoorMg15
import Derived.Test.YtnmeaminfoopmaaGreatDoorMg9
import Derived.Laws.BitsAllLaws
namespace Go.Proofs.YtnmeaminfoopmaaGreatDoor
open Go.RowKit Flo

theorem blt {w : World} {a : Addr} {v : Value} (h : w.cell? a = some v) : a.block < w.heap.size := by
  unfold World.cell? at h
  cases hb : w.heap[a.block]? with
  | none => rw [hb] at h; simp at h
  | some o => exact (Array.getElem?_eq_some_iff.1 hb).1

/-- Programmed; erased: a byte. -/
def pUp (x m old : Nat) : Nat := old &&& (x ||| (255 - m))
def eUp (m old : Nat) : Nat := old ||| m
theorem xor255 (m : Nat) (h : m < 256) : 255 ^^^ m = 255 - m := by
  have h1 : m < 2 ^ 8 := h
  apply Nat.eq_of_testBit_eq
  intro i
  rw [show 255 - m = 2 ^ 8 - (m + 1) by omega, Nat.testBit_two_pow_sub_succ h1, Nat.testBit_xor, show (255 : Nat) = 2 ^ 8 - 1 by decide, Nat.testBit_two_pow_sub_one]
  by_cases hi : i < 8
  · simp [hi]
  · have : m.testBit i = false := Nat.testBit_lt_two_pow (Nat.lt_of_lt_of_le h1 (Nat.pow_le_pow_right (by decide) (by omega)))
    simp [hi, this]
theorem pUp_lt {x m old : Nat} (h : old < 256) : pUp x m old < 256 := Nat.lt_of_le_of_lt Nat.and_le_left h
theorem eUp_lt {m old : Nat} (h : old < 256) (hm : m < 256) : eUp m old < 256 := Nat.or_lt_two_pow (n := 8) h hm

set_option maxHeartbeats 4000000 in
set_option maxRecDepth 100000 in
theorem progStep (w : World) (i m x old : Nat) (lv sv b o n c s so n' c' : Nat) (hm : m < 256) (hx : x < 256) (hold : old < 256) (hl : w.cell? ⟨lv, 0, none⟩ = some (.slice (some ⟨b, o, none⟩) n c)) (hs : w.cell? ⟨sv, 0, none⟩ = some (.slice (some ⟨s, so, none⟩) n' c'))
    (hi : i < n) (hi' : i < n') (h0 : w.cell? ⟨b, o + i, none⟩ = some (bv old)) (h1 : w.cell? ⟨s, so + i, none⟩ = some (bv x)) (hf : w.frozen? ⟨b, o + i, none⟩ = false) :
    Calls Tryz.prog 164 #[i64 i, .int .u8 m, .pointer (some ⟨lv, 0, none⟩), .pointer (some ⟨sv, 0, none⟩)] w fun e w' => e = .returned (.tuple #[]) ∧ w' = (w.setCell ⟨b, o + i, none⟩ (bv (pUp x m old))).drew := by
  have b1 := blt hl
  have b2 := blt hs
  have b3 := blt h0
  have b4 := blt h1
  simp only [] at b1 b2 b3 b4
  go_enter Tryz.func164, Tryz.ntmps164
  go_wp2_with fail
  have k1 := fun p => on_cell (w := w) b1 hl p
  have k2 := fun p => on_cell (w := w) b2 hs p
  have k3 := fun p => on_cell (w := w) b3 h0 p
  have k4 := fun p => on_cell (w := w) b4 h1 p
  refine wp_region_ph (D := fun w' => ∃ p : OnOf _, w' = p.v) 13 [] (by kernel_rfl) (by kernel_rfl) ⟨⟨_, Base.dr (Below.refl _ _)⟩, rfl⟩ ?_
  simp only [List.take_succ_cons, List.take_zero, List.drop_succ_cons, List.drop_zero]
  have on0 := @on_rd0; have on1 := @on_rd1; have on2 := @on_rd2; have on3 := @on_new1; have on4 := @on_new2
  repeat (first | ((with_reducible refine head_quiet ?_ ?_); (focus rfl); (intro K hK); go_simp; first | ((with_reducible refine hK _ ?_); clear hK K) | (rw [if_neg (by intro h; cases h)]; (with_reducible refine hK _ ?_); clear hK K) | (apply Exists.intro; refine ⟨fun _ => ?_, hK _ ?_⟩; (fail); clear hK K)))
  clear on0 on1 on2 on3 on4
  with_reducible refine head_nil ?_
  rintro _ rfl
  clear k1 k2 k3 k4
  have hv : bits .and .u8 (old : Int) (bits .or .u8 (x : Int) (bits .xor .u8 IntKind.u8.max (m : Int))) = ((pUp x m old : Nat) : Int) := by
    have h255 : IntKind.u8.max = ((255 : Nat) : Int) := by decide
    rw [h255, u8_xor_nat 255 m (by omega) hm, xor255 m hm, u8_or_nat x (255 - m) hx (by omega), u8_and_nat old _ hold (Nat.or_lt_two_pow (n := 8) (by omega) (by omega))]
    rfl
  have HV := Lib.hid hv
  clear hv
  go_wp2_with fail
  first | go_end0 | refine bodyPost_ret (results_none rfl _ _ _) rfl ?_
  exact ⟨rfl, by rw [HV.out]⟩
set_option maxHeartbeats 4000000 in
set_option maxRecDepth 100000 in
theorem eraseStep (w : World) (i m old : Nat) (lv b o n c : Nat) (hm : m < 256) (hold : old < 256) (hl : w.cell? ⟨lv, 0, none⟩ = some (.slice (some ⟨b, o, none⟩) n c)) (hi : i < n) (h0 : w.cell? ⟨b, o + i, none⟩ = some (bv old)) (hf : w.frozen? ⟨b, o + i, none⟩ = false) :
    Calls Tryz.prog 168 #[i64 i, .int .u8 m, .pointer (some ⟨lv, 0, none⟩)] w fun e w' => e = .returned (.tuple #[]) ∧ w' = w.setCell ⟨b, o + i, none⟩ (bv (eUp m old)) := by
  have hb := u8_or_nat old m hold hm
  unfold eUp
  go_enter Tryz.func168, Tryz.ntmps168
  go_wp2_with fail
  first | go_end0 | refine bodyPost_ret (results_none rfl _ _ _) rfl ?_
  exact ⟨rfl, rfl⟩

/-- A row of bytes that an act has gone over, so far. -/
def stepRow (upd : Nat → Nat → Nat → Nat) (p : Nat) (l : List Nat) : Nat → List Nat
  | 0 => l
  | j + 1 => (stepRow upd p l j).set (p + j) (upd j 255 ((stepRow upd p l j).getD (p + j) 0))
theorem stepRow_len (upd : Nat → Nat → Nat → Nat) (p : Nat) (l : List Nat) : ∀ j, (stepRow upd p l j).length = l.length
  | 0 => rfl
  | j + 1 => by rw [stepRow, List.length_set]; exact stepRow_len upd p l j
/-- .. cut off behind so many bytes, and some bits of one. -/
def cutRow (upd : Nat → Nat → Nat → Nat) (p : Nat) (l : List Nat) (n b m : Nat) : List Nat :=
  if b < n then (stepRow upd p l b).set (p + b) (upd b m ((stepRow upd p l b).getD (p + b) 0)) else stepRow upd p l n
/-- An act: its error, and the device behind it. -/
def Nor.act (N : Nor) (s p n : Nat) (upd : Nat → Nat → Nat → Nat) : Nat × Nor :=
  match N.cut with
  | none => (0, { N with acts := N.acts + 1, data := N.data.set s (stepRow upd p (N.data.getD s []) n) })
  | some (c, b, m) =>
    if 0 < c then (0, { N with acts := N.acts + 1, cut := some (c - 1, b, m), data := N.data.set s (stepRow upd p (N.data.getD s []) n) })
    else (7, { N with acts := N.acts + 1, off := true, cut := none, offs := N.offs + 1, data := N.data.set s (cutRow upd p (N.data.getD s []) n b m) })
/-- What is asked of the function that an act is handed. -/
def StepOK (O : Nat → Prop) (w : World) (N0 : Nor) (f : FuncId) (cs : Array Value) (s p n : Nat) (upd : Nat → Nat → Nat → Nat) : Prop :=
  ∀ (W : World) (N : Nor) (l : List Nat) (i m : Nat), DevR O W N → N.bk = N0.bk → N.Z = N0.Z → Out O w W → N.data[s]? = some l → i < n → m < 256 →
    Calls Tryz.prog f (#[i64 i, .int .u8 m] ++ cs) W fun e W' => e = .returned (.tuple #[]) ∧ DevR O W' { N with data := N.data.set s (l.set (p + i) (upd i m (l.getD (p + i) 0))) } ∧ Out O W W'

set_option maxHeartbeats 4000000 in
set_option maxRecDepth 100000 in
theorem act_any {O : Nat → Prop} {w : World} {N : Nor} (h : DevR O w N) (hon : N.off = false) (h1 : N.acts ≤ 1000000) (h2 : N.offs ≤ 1000000) (s p n : Nat) (hs : s < N.S) (hn : n ≤ 100000) (f : FuncId) (cs : Array Value) (hf : Enters f) (upd : Nat → Nat → Nat → Nat) (hst : StepOK O w N f cs s p n upd) (hcm : ∀ c, N.cut = some c → c.1 ≤ 9223372036854775807) :
    Calls Tryz.prog 163 #[ptrD N, i64 n, .func (.func f) #[] cs] w fun e w' => e = .returned (i64 (N.act s p n upd).1) ∧ DevR O w' (N.act s p n upd).2 ∧ Out O w w' := by
  have c7 : w.cell? ⟨N.D, 7, none⟩ = some (i64 N.acts) := h.at 7
  have hlt := h.ltD
  have hfz := fun o => frozen_blk h.hD o
  have hA : DevR O (w.setCell ⟨N.D, 7, none⟩ (.int .i64 ((N.acts : Int) + 1))) { N with acts := N.acts + 1 } := h.setD (N' := { N with acts := N.acts + 1 }) 7 (i64 (N.acts + 1 : Nat)) rfl (.inr rfl) rfl
  have oA : Out O w (w.setCell ⟨N.D, 7, none⟩ (.int .i64 ((N.acts : Int) + 1))) := (Out.refl O w).set h.ownD _ _
  have hsd : s < N.data.length := by rw [h.dl]; exact hs
  obtain ⟨l, hl⟩ : ∃ l, N.data[s]? = some l := ⟨_, List.getElem?_eq_getElem hsd⟩
  have hgd : N.data.getD s [] = l := by rw [List.getD_eq_getElem?_getD, hl]; rfl
  have hset0 : N.data = N.data.set s l := by
    obtain ⟨h3, rfl⟩ := List.getElem?_eq_some_iff.1 hl
    rw [List.set_getElem_self]
  -- a round, whatever the device's other fields
  have round : ∀ (W : World) (M : Nor) (j m : Nat), M.bk = N.bk → M.Z = N.Z → DevR O W { M with data := N.data.set s (stepRow upd p l j) } → Out O w W → j < n → m < 256 →
      Calls Tryz.prog f (#[i64 j, .int .u8 m] ++ cs) W fun e W' => e = .returned (.tuple #[]) ∧ DevR O W' { M with data := N.data.set s ((stepRow upd p l j).set (p + j) (upd j m ((stepRow upd p l j).getD (p + j) 0))) } ∧ Out O w W' := by
    intro W M j m e1 e2 hd ho hj hm
    refine (hst W _ (stepRow upd p l j) j m hd e1 e2 ho (by simp [hsd]) hj hm).mono ?_
    rintro e W' ⟨rfl, h3, h4⟩
    refine ⟨rfl, ?_, ho.trans h4⟩
    rw [List.set_set] at h3
    exact h3
  have ROUND := Lib.hid round
  clear round hst
  have HA := Lib.hid hA
  clear hA
  cases hc : N.cut with
  | none =>
    have c8 : w.cell? ⟨N.D, 8, none⟩ = some (.pointer none) := by have := h.at 8; rw [this]; unfold Nor.cells Nor.cutv; rw [hc]; rfl
    have hv : N.act s p n upd = (0, { N with acts := N.acts + 1, data := N.data.set s (stepRow upd p l n) }) := by unfold Nor.act; rw [hc, hgd]
    have HV := Lib.hid hv
    have HA2 : DevR O (w.setCell ⟨N.D, 7, none⟩ (.int .i64 ((N.acts : Int) + 1))) { N with acts := N.acts + 1, data := N.data.set s (stepRow upd p l 0) } := by
      have := HA.out
      unfold stepRow
      rw [← hset0]
      exact this
    have HB := Lib.hid HA2
    clear HA2 hv hset0
    go_enter Tryz.func163, Tryz.ntmps163
    go_wp2_with fail
    generalize w.setCell ⟨N.D, 7, none⟩ (.int .i64 ((N.acts : Int) + 1)) = w1 at *
    clear HA
    go_loopw [8, 41] (fun _ i wr => ∃ j : Nat, j ≤ n ∧ i = .int .i64 j ∧ Hid (DevR O wr { N with acts := N.acts + 1, data := N.data.set s (stepRow upd p l j) }) ∧ Out O w wr) (fun _ i _ => n - (intOf i).toNat)
    case atStart => exact ⟨0, Nat.zero_le _, rfl, HB, oA⟩
    case round =>
      obtain ⟨j, hj, rfl, hd, ho⟩ := hrel
      by_cases hlt2 : j < n
      · have hR := Lib.hid (ROUND.out wr { N with acts := N.acts + 1 } j 255 rfl rfl hd.out ho hlt2 (by decide))
        go_wp2_with fail
        refine hR.out.mono ?_; rintro e w2 ⟨rfl, hd2, ho2⟩
        have HD2 := Lib.hid hd2
        clear hd2
        go_wp2_with fail
        exact ⟨⟨j + 1, by omega, by go_num, HD2, ho2⟩, by simp [intOf]; omega⟩
      · obtain rfl : j = n := by omega
        go_wp2_with fail
        go_ret
        rw [HV.out]
        exact ⟨rfl, hd.out, ho⟩
  | some c =>
    obtain ⟨c, b, m⟩ := c
    have hmk : m < 256 := h.mask _ hc
    have c8 : w.cell? ⟨N.D, 8, none⟩ = some (.pointer (some ⟨N.CB, 0, none⟩)) := by have := h.at 8; rw [this]; unfold Nor.cells Nor.cutv; rw [hc]; rfl
    have e0 : w.cell? ⟨N.CB, 0, none⟩ = some (i64 c) := cell_blk (h.hC _ hc) 0
    have e1 : w.cell? ⟨N.CB, 1, none⟩ = some (i64 b) := cell_blk (h.hC _ hc) 1
    have e2 : w.cell? ⟨N.CB, 2, none⟩ = some (.int .u8 m) := cell_blk (h.hC _ hc) 2
    have hcz := fun o => frozen_blk (h.hC _ hc) o
    have hne : N.CB ≠ N.D := by have := h.apartC _ hc; simp only [List.mem_cons, not_or] at this; exact this.1
    by_cases hpos : 0 < c
    · have hv : N.act s p n upd = (0, { N with acts := N.acts + 1, cut := some (c - 1, b, m), data := N.data.set s (stepRow upd p l n) }) := by
        unfold Nor.act
        rw [hc, hgd]
        simp only []
        rw [if_pos hpos]
      have HV := Lib.hid hv
      have hcl : c ≤ 9223372036854775807 := hcm _ hc
      have hw : wrap64 ((c : Int) - 1) = ((c - 1 : Nat) : Int) := by unfold wrap64; omega
      clear hcl
      have HA2 : DevR O ((w.setCell ⟨N.D, 7, none⟩ (.int .i64 ((N.acts : Int) + 1))).setCell ⟨N.CB, 0, none⟩ (.int .i64 ((c - 1 : Nat) : Int))) { N with acts := N.acts + 1, cut := some (c - 1, b, m), data := N.data.set s (stepRow upd p l 0) } := by
        have := HA.out.setC (a := c) (b := b) (m := m) hc (c - 1)
        unfold stepRow
        rw [← hset0]
        exact this
      have HB := Lib.hid HA2
      have oB := oA.set (h.ownC _ hc) 0 (.int .i64 ((c - 1 : Nat) : Int))
      clear HA2 hv hset0 HA oA
      go_enter Tryz.func163, Tryz.ntmps163
      go_wp2_with fail
      simp only [hw]
      clear hw
      generalize (w.setCell ⟨N.D, 7, none⟩ (.int .i64 ((N.acts : Int) + 1))).setCell ⟨N.CB, 0, none⟩ (.int .i64 ((c - 1 : Nat) : Int)) = w1 at *
      go_loopw [8, 41] (fun _ i wr => ∃ j : Nat, j ≤ n ∧ i = .int .i64 j ∧ Hid (DevR O wr { N with acts := N.acts + 1, cut := some (c - 1, b, m), data := N.data.set s (stepRow upd p l j) }) ∧ Out O w wr) (fun _ i _ => n - (intOf i).toNat)
      case atStart => exact ⟨0, Nat.zero_le _, rfl, HB, oB⟩
      case round =>
        obtain ⟨j, hj, rfl, hd, ho⟩ := hrel
        by_cases hlt2 : j < n
        · have hR := Lib.hid (ROUND.out wr { N with acts := N.acts + 1, cut := some (c - 1, b, m) } j 255 rfl rfl hd.out ho hlt2 (by decide))
          go_wp2_with fail
          refine hR.out.mono ?_; rintro e w2 ⟨rfl, hd2, ho2⟩
          have HD2 := Lib.hid hd2
          clear hd2
          go_wp2_with fail
          exact ⟨⟨j + 1, by omega, by go_num, HD2, ho2⟩, by simp [intOf]; omega⟩
        · obtain rfl : j = n := by omega
          go_wp2_with fail
          go_ret
          rw [HV.out]
          exact ⟨rfl, hd.out, ho⟩
    · obtain rfl : c = 0 := by omega
      have hv : N.act s p n upd = (7, { N with acts := N.acts + 1, off := true, cut := none, offs := N.offs + 1, data := N.data.set s (cutRow upd p l n b m) }) := by
        unfold Nor.act
        rw [hc, hgd]
        simp only []
        rw [if_neg hpos]
      have HV := Lib.hid hv
      have HA2 : DevR O (w.setCell ⟨N.D, 7, none⟩ (.int .i64 ((N.acts : Int) + 1))) { N with acts := N.acts + 1, data := N.data.set s (stepRow upd p l 0) } := by
        have := HA.out
        unfold stepRow
        rw [← hset0]
        exact this
      have HB := Lib.hid HA2
      have OFF : ∀ (W : World) (d : List (List Nat)), DevR O W { N with acts := N.acts + 1, data := d } → Out O w W → Hid (Calls Tryz.prog 32 #[ptrD N] W fun e w' => e = .returned (.tuple #[]) ∧ DevR O w' { N with acts := N.acts + 1, off := true, cut := none, offs := N.offs + 1, data := d } ∧ Out O w w') := by
        intro W d hd ho
        refine Lib.hid ((off_any hd h2).mono ?_)
        rintro e w' ⟨rfl, h3, h4⟩
        refine ⟨rfl, ?_, ho.trans h4⟩
        unfold Nor.turn at h3
        rw [if_neg (by simp [hon])] at h3
        exact h3
      clear HA2 hv hset0 HA hpos
      by_cases hbn : b < n
      · have hcr : cutRow upd p l n b m = (stepRow upd p l b).set (p + b) (upd b m ((stepRow upd p l b).getD (p + b) 0)) := by unfold cutRow; rw [if_pos hbn]
        rw [hcr] at HV
        clear hcr
        go_enter Tryz.func163, Tryz.ntmps163
        go_wp2_with fail
        generalize w.setCell ⟨N.D, 7, none⟩ (.int .i64 ((N.acts : Int) + 1)) = w1 at *
        go_loopw [10, 55] (fun _ i wr => ∃ j : Nat, j ≤ b ∧ i = .int .i64 j ∧ Hid (DevR O wr { N with acts := N.acts + 1, data := N.data.set s (stepRow upd p l j) }) ∧ Out O w wr) (fun _ i _ => b - (intOf i).toNat)
        case atStart => exact ⟨0, Nat.zero_le _, rfl, HB, oA⟩
        case round =>
          obtain ⟨j, hj, rfl, hd, ho⟩ := hrel
          by_cases hlt2 : j < b
          · have hR := Lib.hid (ROUND.out wr { N with acts := N.acts + 1 } j 255 rfl rfl hd.out ho (by omega) (by decide))
            go_wp2_with fail
            refine hR.out.mono ?_; rintro e w2 ⟨rfl, hd2, ho2⟩
            have HD2 := Lib.hid hd2
            clear hd2
            go_wp2_with fail
            exact ⟨⟨j + 1, by omega, by go_num, HD2, ho2⟩, by simp [intOf]; omega⟩
          · obtain rfl : j = b := by omega
            have hR := Lib.hid (ROUND.out wr { N with acts := N.acts + 1 } j m rfl rfl hd.out ho hbn hmk)
            have g2 : wr.cell? ⟨N.CB, 2, none⟩ = some (.int .u8 m) := cell_blk (hd.out.hC _ hc) 2
            have hlt3 : (j : Int) < (n : Int) := by omega
            go_wp2_with fail
            refine hR.out.mono ?_; rintro e w2 ⟨rfl, hd2, ho2⟩
            have HO := OFF w2 _ hd2 ho2
            clear hd2
            go_wp2_with fail
            refine HO.out.mono ?_; rintro e w3 ⟨rfl, hd3, ho3⟩
            go_wp2_with fail
            go_ret
            rw [HV.out]
            exact ⟨rfl, hd3, ho3⟩
      · have hcr : cutRow upd p l n b m = stepRow upd p l n := by unfold cutRow; rw [if_neg hbn]
        rw [hcr] at HV
        clear hcr
        go_enter Tryz.func163, Tryz.ntmps163
        go_wp2_with fail
        generalize w.setCell ⟨N.D, 7, none⟩ (.int .i64 ((N.acts : Int) + 1)) = w1 at *
        go_loopw [10, 55] (fun _ i wr => ∃ j : Nat, j ≤ n ∧ i = .int .i64 j ∧ Hid (DevR O wr { N with acts := N.acts + 1, data := N.data.set s (stepRow upd p l j) }) ∧ Out O w wr) (fun _ i _ => n - (intOf i).toNat)
        case atStart => exact ⟨0, Nat.zero_le _, rfl, HB, oA⟩
        case round =>
          obtain ⟨j, hj, rfl, hd, ho⟩ := hrel
          by_cases hlt2 : j < n
          · have hR := Lib.hid (ROUND.out wr { N with acts := N.acts + 1 } j 255 rfl rfl hd.out ho (by omega) (by decide))
            go_wp2_with fail
            refine hR.out.mono ?_; rintro e w2 ⟨rfl, hd2, ho2⟩
            have HD2 := Lib.hid hd2
            clear hd2
            go_wp2_with fail
            exact ⟨⟨j + 1, by omega, by go_num, HD2, ho2⟩, by simp [intOf]; omega⟩
          · obtain rfl : j = n := by omega
            have HO := OFF wr _ hd.out ho
            go_wp2_with fail
            refine HO.out.mono ?_; rintro e w3 ⟨rfl, hd3, ho3⟩
            go_wp2_with fail
            go_ret
            rw [HV.out]
            exact ⟨rfl, hd3, ho3⟩
end Go.Proofs.YtnmeaminfoopmaaGreatDoor
