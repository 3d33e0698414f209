/- Package text: a quoted text. -/
import Derived.Test.YtbjjpplhnibjdaaDoorText12
import Derived.Test.YtbjjpplhnibjdaaDoorOwn2
namespace Go.Proofs.YtbjjpplhnibjdaaDoor
open Go Go.RowKit

/-- What a quoted text's bytes are, from a place on. -/
def quotedGo (l : List Nat) : Nat → Nat → List Nat → Except Nat (List Nat × Nat)
  | 0, _, _ => .error 3
  | k + 1, a, acc =>
    if a < l.length then
      if l.getD a 0 = 34 then .ok (acc, a + 1)
      else if l.getD a 0 = 37 then
        match tDigit l (a + 1) with
        | .error e => .error e
        | .ok (h, b) =>
          match tDigit l b with
          | .error e => .error e
          | .ok (d, b2) => if plainB (16 * h + d) then .error 2 else quotedGo l k b2 (acc ++ [16 * h + d])
      else if plainB (l.getD a 0) then quotedGo l k (a + 1) (acc ++ [l.getD a 0]) else .error 2
    else .error 3
def tQuoted (l : List Nat) (a : Nat) : Except Nat (List Nat × Nat) :=
  match tNeed l a 34 with
  | .error e => .error e
  | .ok b => quotedGo l (l.length + 1) b []
theorem tDigit_ok {l : List Nat} {a d b : Nat} (h : tDigit l a = .ok (d, b)) : b = a + 1 ∧ a < l.length ∧ d < 16 := by
  unfold tDigit at h
  split at h
  · rename_i hl
    cases hx : hexV (l.getD a 0) with
    | some q =>
      rw [hx] at h
      injection h with h
      injection h with h1 h2
      have := (hexI_some hx).2
      exact ⟨h2.symm, hl, by omega⟩
    | none => rw [hx] at h; cases h
  · cases h

theorem grown_own {w v u : World} {row row2 : Option Nat} (h : w.grownBy v row) (g : v.grownBy u row2) (hr : ∀ k, row2 = some k → w.heap.size ≤ k) : w.grownBy u row :=
  ⟨g.os.trans h.os, g.tape.trans h.tape, g.output.trans h.output, Nat.le_trans h.size g.size, fun k hk hn => (g.block k (Nat.lt_of_lt_of_le hk h.size) (fun e => by have := hr k e.symm; omega)).trans (h.block k hk hn)⟩
theorem own_keepG {W W' : World} {base : Nat} {e : TypeId} {size : Nat} {v : Value} {n : Nat} {xs : List Value} (h : W.ownsRow base e size v n xs) (hk : ∀ (g : Nat) (x : Obj), base ≤ g → W.heap[g]? = some x → W'.heap[g]? = some x) : W'.ownsRow base e size v n xs := by
  refine ⟨h.1, ?_⟩
  rcases h.2 with hn | ⟨g, cap, cur, rfl, hbg, hgg, rest⟩
  · exact .inl hn
  · exact .inr ⟨g, cap, cur, rfl, hbg, hk _ _ hbg hgg, rest⟩
theorem own_grownR {w W W' : World} {r : Nat} {e : TypeId} {size : Nat} {v : Value} {n : Nat} {xs : List Value} (hr : r < w.heap.size) (h : W.ownsRow w.heap.size e size v n xs) (hg : W.grownBy W' (some r)) : W'.ownsRow w.heap.size e size v n xs :=
  own_keepG h fun g x hb hx => (hg.block g (Array.getElem?_eq_some_iff.1 hx).1 (fun e => by injection e with e; omega)).trans hx

/-- A text that was read: bytes of its own. -/
def TxPost (w : World) (r : Nat) (s : ByteArray) (x : Except Nat (List Nat × Nat)) (e : Ending) (w' : World) : Prop :=
  match x with
  | .ok y => ∃ v, e = .returned v ∧ w'.ownsRow w.heap.size 5 1 v y.1.length (y.1.map bv) ∧ RdT w' r s y.2 ∧ w.grownBy w' (some r)
  | .error k => e = .panicked (thrown k) ∧ w.grownBy w' (some r)

theorem join_u8 (h d : Nat) (hh : h < 16) (hd : d < 16) : bits .or .u8 (h * 16 : Int) d = (16 * h + d : Nat) := by
  have : ∀ h : Nat, h < 16 → ∀ d : Nat, d < 16 → bits .or .u8 (h * 16 : Int) d = (16 * h + d : Nat) := by decide +kernel
  exact this h hh d hd

set_option maxHeartbeats 4000000 in
set_option maxRecDepth 100000 in
theorem quoted_any (r : Nat) (s : ByteArray) (a : Nat) (w : World) (h : RdT w r s a) (ha : a ≤ s.size) (hm : s.size ≤ 60000) :
    Calls Tryd.prog 30 #[.pointer (some ⟨r, 0, none⟩)] w (TxPost w r s (tQuoted (sb s) a)) := by
  have hm1 : s.size ≤ 100000 := by omega
  have hr := (Array.getElem?_eq_some_iff.1 h).1
  have GN := Lib.hid (need_any r s a 34 w h ha hm1)
  unfold tQuoted
  cases hq : tNeed (sb s) a 34 with
  | error k =>
    rw [hq] at GN
    clear hq h
    go_enter Tryd.func30, Tryd.ntmps30
    go_wp2_with fail
    refine GN.out.mono ?_; rintro e w1 ⟨rfl, hg1⟩
    go_wp2_with fail
    exact ⟨rfl, rfl, hg1⟩
  | ok b =>
    have hb : b = a + 1 ∧ a < s.size := by
      unfold tNeed at hq
      split at hq
      · rename_i hl
        rw [sb_len] at hl
        split at hq
        · injection hq with hq; exact ⟨hq.symm, hl⟩
        · cases hq
      · cases hq
    rw [hq] at GN
    clear hq h
    obtain ⟨hb1, hb2⟩ := hb
    obtain ⟨R, hR⟩ : ∃ R, quotedGo (sb s) ((sb s).length + 1) b [] = R := ⟨_, rfl⟩
    simp only
    rw [hR]
    have HR0 : Hid ((sb s).length < b + ((sb s).length + 1) ∧ quotedGo (sb s) ((sb s).length + 1) b [] = R) := Lib.hid ⟨by omega, hR⟩
    clear hR
    obtain ⟨i0, hi, hz0, hz1, hz2⟩ := info_parts info_u8
    have HX := fun W a' h' ha' => Lib.hid (next_any r s a' W h' ha' hm1)
    have HD := fun W a' h' ha' => Lib.hid (digit_any r s a' W h' ha' hm1)
    have HP := fun c W => Lib.hid (plain_any c W)
    go_enter Tryd.func30, Tryd.ntmps30
    go_wp2_with fail
    refine GN.out.mono ?_; rintro e w1 ⟨rfl, h1, hg1⟩
    go_wp2_with fail
    go_loopw [3] (fun v wr => ∃ (c kk : Nat) (acc : List Nat), c ≤ s.size ∧ acc.length ≤ c ∧ RdT wr r s c ∧ w.grownBy wr (some r) ∧ wr.ownsRow w.heap.size 5 1 v acc.length (acc.map bv) ∧ Hid ((sb s).length < c + kk ∧ quotedGo (sb s) kk c acc = R)) (fun _ wr => s.size - (intOf ((wr.cell? ⟨r, 1, none⟩).getD undef)).toNat)
    case atStart => exact ⟨b, (sb s).length + 1, [], by omega, Nat.zero_le _, h1, hg1, World.ownsRow_nil _ _ _ _, HR0⟩
    case round =>
      obtain ⟨c, kk, acc, hc, hac, hRd, hg, hown, hgo⟩ := hrel
      clear HR0 h1 hg1 GN
      have hgo1 := hgo.out
      obtain ⟨k, rfl⟩ : ∃ k, kk = k + 1 := ⟨kk - 1, by rw [sb_len] at hgo1; omega⟩
      obtain ⟨hlt, hgo2⟩ := hgo1
      rw [quotedGo] at hgo2
      have G1 := HX wr c hRd hc
      have hat : (intOf ((wr.cell? ⟨r, 1, none⟩).getD undef)).toNat = c := by rw [cell_blk hRd]; simp [intOf]
      by_cases hl : c < (sb s).length
      · rw [if_pos hl] at hgo2
        have hx : tNext (sb s) c = .ok ((sb s).getD c 0, c + 1) := by unfold tNext; rw [if_pos hl]
        have hx256 : (sb s).getD c 0 < 256 := by
          rw [List.getD_eq_getElem?_getD, List.getElem?_eq_getElem hl]
          exact sb_lt s _ (List.getElem_mem hl)
        rw [hx] at G1
        have hl2 : c < s.size := by rw [sb_len] at hl; exact hl
        have hat := Lib.hid hat
        clear hx hgo
        generalize (sb s).getD c 0 = x at *
        by_cases h34 : x = 34
        · subst h34
          rw [if_pos rfl] at hgo2
          subst hgo2
          clear hl
          go_wp2_with fail
          refine G1.out.mono ?_; rintro e w2 ⟨rfl, hR2, hg2⟩
          go_wp2_with fail
          go_ret
          exact ⟨_, rfl, own_grownR hr hown hg2, hR2, grown_trans hg hg2⟩
        rw [if_neg h34] at hgo2
        have t34 : ((x : Int) == 34) = false := by rw [beq_eq_false_iff_ne]; omega
        by_cases h37 : x = 37
        · subst h37
          rw [if_pos rfl] at hgo2
          clear t34 h34 hl
          have G2 := fun W h' => HD W (c + 1) h' (by omega)
          cases hd1 : tDigit (sb s) (c + 1) with
          | error k1 =>
            rw [hd1] at hgo2 G2
            have hgo2 : Except.error k1 = R := hgo2
            subst hgo2
            clear hd1
            go_wp2_with fail
            refine G1.out.mono ?_; rintro e w2 ⟨rfl, hR2, hg2⟩
            go_wp2_with fail
            refine (G2 _ hR2).out.mono ?_; rintro e w3 ⟨rfl, hg3⟩
            go_wp2_with fail
            exact ⟨rfl, rfl, grown_trans hg (grown_trans hg2 hg3)⟩
          | ok q =>
            obtain ⟨hv, b1⟩ := q
            obtain ⟨rfl, hb1, hv16⟩ := tDigit_ok hd1
            rw [hd1] at hgo2 G2
            rw [sb_len] at hb1
            have G3 := fun W h' => HD W (c + 1 + 1) h' (by omega)
            simp only at hgo2
            clear hd1
            cases hd2 : tDigit (sb s) (c + 1 + 1) with
            | error k1 =>
              rw [hd2] at hgo2 G3
              have hgo2 : Except.error k1 = R := hgo2
              subst hgo2
              clear hd2
              go_wp2_with fail
              refine G1.out.mono ?_; rintro e w2 ⟨rfl, hR2, hg2⟩
              go_wp2_with fail
              refine (G2 _ hR2).out.mono ?_; rintro e w3 ⟨rfl, hR3, hg3⟩
              go_wp2_with fail
              refine (G3 _ hR3).out.mono ?_; rintro e w4 ⟨rfl, hg4⟩
              go_wp2_with fail
              exact ⟨rfl, rfl, grown_trans hg (grown_trans hg2 (grown_trans hg3 hg4))⟩
            | ok q =>
              obtain ⟨dv, b2⟩ := q
              obtain ⟨rfl, hb2', dv16⟩ := tDigit_ok hd2
              rw [hd2] at hgo2 G3
              rw [sb_len] at hb2'
              simp only at hgo2
              clear hd2
              have hjoin := join_u8 hv dv hv16 dv16
              rw [show ((16 * hv + dv : Nat)) = 16 * hv + dv from rfl] at hjoin
              obtain ⟨y, hy⟩ : ∃ y, 16 * hv + dv = y := ⟨_, rfl⟩
              rw [hy] at hjoin hgo2
              have GP := fun W => HP y W
              clear hy
              go_wp2_with fail
              refine G1.out.mono ?_; rintro e w2 ⟨rfl, hR2, hg2⟩
              go_wp2_with fail
              refine (G2 _ hR2).out.mono ?_; rintro e w3 ⟨rfl, hR3, hg3⟩
              go_wp2_with fail
              refine (G3 _ hR3).out.mono ?_; rintro e w4 ⟨rfl, hR4, hg4⟩
              have hgg0 := grown_trans hg2 (grown_trans hg3 hg4)
              have hgg := grown_trans hg hgg0
              have hown2 := own_grownR hr hown hgg0
              go_wp2_with fail
              refine (GP _).out.mono ?_; rintro e w9 ⟨rfl, rfl⟩
              cases hpl : plainB y
              · rw [hpl] at hgo2
                rw [if_neg (by decide)] at hgo2
                have HQ := Lib.hid hgo2
                clear hpl hgo2
                go_wp2_with (at_builtin; refine wpList_append_own _ rfl _ _ 23 rfl w.heap.size 5 i0 _ 1 1 Tryd.underlying23 hi hz0 hz1 hz2 rfl (by decide) _ _ _ rfl (hown2.alloc _) ⟨w9.heap.size, 0, none⟩ 1 1 [bv y] rfl rfl ?c1 ?c2 ?c3 ?c4 ?c5 ?_)
                case c1 => exact news_of _ _ _
                case c2 => simp [Value.oneCell']
                case c3 => unfold maxLen; omega
                case c4 => omega
                case c5 => have := hgg.size; simp; omega
                intro v' w5 hown5 hgrow _
                have hg5 : w.grownBy w5 (some r) := grown_own (grown_al hgg _) hgrow (fun k hk => (hown2.lt k hk).1)
                have hR5 : RdT w5 r s (c + 1 + 1 + 1) := (hgrow.block r (by simp; have := (Array.getElem?_eq_some_iff.1 hR4).1; omega) (fun e => by have := (hown2.lt r e.symm).1; omega)).trans (blk_old hR4)
                clear hgrow
                go_wp2_with fail
                refine ⟨⟨c + 1 + 1 + 1, k, acc ++ [y], by omega, by simp; omega, hR5, hg5, ?_, Lib.hid ⟨by omega, HQ.out⟩⟩, ?_⟩
                · rw [List.length_append, List.map_append]; exact hown5
                · rw [cell_blk hR5, hat.out]; simp [intOf]; omega
              · rw [hpl] at hgo2
                rw [if_pos rfl] at hgo2
                subst hgo2
                clear hpl
                go_wp2_with fail
                exact ⟨rfl, rfl, hgg⟩
        rw [if_neg h37] at hgo2
        have t37 : ((x : Int) == 37) = false := by rw [beq_eq_false_iff_ne]; omega
        have GP := fun W => HP x W
        cases hpl : plainB x
        · rw [hpl] at hgo2 GP
          rw [if_neg (by decide)] at hgo2
          subst hgo2
          clear hpl hl
          go_wp2_with fail
          refine G1.out.mono ?_; rintro e w2 ⟨rfl, hR2, hg2⟩
          go_wp2_with fail
          refine (GP _).out.mono ?_; rintro e w3 ⟨rfl, rfl⟩
          go_wp2_with fail
          exact ⟨rfl, rfl, grown_trans hg hg2⟩
        · rw [hpl] at hgo2 GP
          rw [if_pos rfl] at hgo2
          have HQ := Lib.hid hgo2
          clear hpl hl hgo2
          go_wp2_with fail
          refine G1.out.mono ?_; rintro e w2 ⟨rfl, hR2, hg2⟩
          go_wp2_with fail
          refine (GP _).out.mono ?_; rintro e w3 ⟨rfl, rfl⟩
          have hown2 := own_grownR hr hown hg2
          have hgg := grown_trans hg hg2
          go_wp2_with (at_builtin; refine wpList_append_own _ rfl _ _ 23 rfl w.heap.size 5 i0 _ 1 1 Tryd.underlying23 hi hz0 hz1 hz2 rfl (by decide) _ _ _ rfl (hown2.alloc _) ⟨w3.heap.size, 0, none⟩ 1 1 [.int .u8 x] rfl rfl ?c1 ?c2 ?c3 ?c4 ?c5 ?_)
          case c1 => exact news_of _ _ _
          case c2 => simp [Value.oneCell']
          case c3 => unfold maxLen; omega
          case c4 => omega
          case c5 => have := hgg.size; simp; omega
          intro v' w5 hown5 hgrow _
          have hg5 : w.grownBy w5 (some r) := grown_own (grown_al hgg _) hgrow (fun k hk => (hown2.lt k hk).1)
          have hR5 : RdT w5 r s (c + 1) := (hgrow.block r (by simp; have := (Array.getElem?_eq_some_iff.1 hR2).1; omega) (fun e => by have := (hown2.lt r e.symm).1; omega)).trans (blk_old hR2)
          clear hgrow
          go_wp2_with fail
          refine ⟨⟨c + 1, k, acc ++ [x], by omega, by simp; omega, hR5, hg5, ?_, Lib.hid ⟨by omega, HQ.out⟩⟩, ?_⟩
          · rw [List.length_append, List.map_append]; exact hown5
          · rw [cell_blk hR5, hat.out]; simp [intOf]; omega
      · rw [if_neg hl] at hgo2
        subst hgo2
        have hx : tNext (sb s) c = .error 3 := by unfold tNext; rw [if_neg hl]
        rw [hx] at G1
        clear hx hgo hl hat
        go_wp2_with fail
        refine G1.out.mono ?_; rintro e w2 ⟨rfl, hg2⟩
        go_wp2_with fail
        exact ⟨rfl, rfl, grown_trans hg hg2⟩
end Go.Proofs.YtbjjpplhnibjdaaDoor
