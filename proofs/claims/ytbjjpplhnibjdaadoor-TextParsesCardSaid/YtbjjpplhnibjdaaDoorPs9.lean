/- The document's reading: an operation. -/
import Derived.Test.YtbjjpplhnibjdaaDoorPsC
import Derived.Deep.DeepCutAuto
namespace Go.Proofs.YtbjjpplhnibjdaaDoor
open Go Go.RowKit

/-- Which of the first words is it? -/
def kindTo (x : List Nat) (k : Nat) : Nat := match wordIdx x with | some i => if i + 1 < k then i + 1 else 0 | none => 0
theorem kindTo_yes {x : List Nat} {k : Nat} (h1 : 1 ≤ k) (h2 : k ≤ 16) (h : wordOf k = x) : kindTo x (k + 1) = k := by
  unfold kindTo
  rw [← h, word_fin k h2 (by omega)]
  simp only
  rw [if_pos (by omega)]
  omega
theorem kindTo_no {x : List Nat} {k : Nat} (h : wordOf k ≠ x) : kindTo x (k + 1) = kindTo x k := by
  unfold kindTo
  cases hi : wordIdx x with
  | none => rfl
  | some i =>
    have := (wordIdx_some hi).2
    simp only
    by_cases hk : i + 1 < k
    · rw [if_pos (by omega), if_pos hk]
    · rw [if_neg hk, if_neg]
      intro h2
      exact h (by rw [this, show i + 1 = k by omega])
theorem kindTo_one (x : List Nat) : kindTo x 1 = 0 := by
  unfold kindTo
  split
  · rw [if_neg (by omega)]
  · rfl

abbrev zeroA (k : Nat) : Array Value := #[bv k, .string ByteArray.empty, .string ByteArray.empty, .int .i64 0, .int .i64 0, .int .i64 0, .slice none 0 0]
/-- The state of the document's reading: the result's block, the empty operation's, the operation's. -/
structure DpSt (w : World) (cs : Array Value) (W : World) : Prop where
  res : W.heap[w.heap.size]? = some (.cells noOp.toArray 25 (0, 0))
  non : W.heap[w.heap.size + 1]? = some (.cells noOp.toArray 25 (0, 0))
  op : W.heap[w.heap.size + 1 + 1]? = some (.cells cs 25 (0, 0))
  below : Below w.heap.size w W
theorem DpSt.on {w W W' : World} {cs : Array Value} (h : DpSt w cs W) (hb : Below W.heap.size W W') : DpSt w cs W' :=
  ⟨blk_below h.res hb, blk_below h.non hb, blk_below h.op hb, Base.tr h.below hb⟩
theorem DpSt.set {w W : World} {cs : Array Value} (h : DpSt w cs W) (k : Nat) (x : Value) : DpSt w (cs.setIfInBounds k x) (W.setCell ⟨w.heap.size + 1 + 1, k, none⟩ x) :=
  ⟨blk_set h.res _ _ (by omega), blk_set h.non _ _ (by omega), heap_setCell h.op k x, Base.st h.below (by omega) _ _⟩

/-- What a line is, for the document. -/
def RParsePost (w : World) (x : Except Nat OpT) (e : Ending) (w' : World) : Prop :=
  match x with
  | .ok o => ∃ v, e = .returned (.tuple #[.agg (o.cells v), i64 0]) ∧ (∃ A n c, v = .slice A n c) ∧ Byt w' v o.data ∧ Below w.heap.size w w'
  | .error k => e = .returned (.tuple #[.agg ((zeroT 0).cells (.slice none 0 0)), i64 k]) ∧ Below w.heap.size w w'

set_option maxHeartbeats 32000000 in
set_option maxRecDepth 100000 in
theorem rparse_any (s : ByteArray) (w : World) (hm : s.size ≤ 3000) : Calls Tryd.prog 16 #[.string s] w (RParsePost w (tParse (sb s))) := by
  have HLS := Lib.hid (sb_len s)
  have GW := fun k hk W => Lib.hid (rword_any k hk W)
  have GH := fun k W => Lib.hid (has_any k W)
  have hrn := runN_le 97 122 (sb s)
  rw [sb_len] at hrn
  have hmem := runL_mem 97 122 (sb s) 0
  have htp : tParse (sb s) = tOp (sb s) := by unfold tParse; rw [sb_len, if_neg (by omega)]
  rw [htp]
  obtain ⟨X, hX⟩ : ∃ X, tOp (sb s) = X := ⟨_, rfl⟩
  rw [hX]
  have HX := Lib.hid hX
  obtain ⟨x, hx⟩ : ∃ x, runL 97 122 (sb s) 0 = x := ⟨_, rfl⟩
  obtain ⟨N, hN⟩ : ∃ N, runN 97 122 (sb s) = N := ⟨_, rfl⟩
  have hxl : x = (sb s).take N := by rw [← hx, runL, List.drop_zero, hN]
  rw [hx] at hmem
  rw [hN] at hrn
  have hexN : s.extract 0 N = toB x := by rw [ext_sb, List.drop_zero, Nat.sub_zero, ← hxl]
  have HN : Hid (0 + runN 97 122 ((sb s).drop 0) = N) := Lib.hid (by rw [List.drop_zero, Nat.zero_add]; exact hN)
  have HMEM := Lib.hid hmem
  have HEX := Lib.hid hexN
  have HXN := Lib.hid hrn
  have HXW := Lib.hid (And.intro hx hN)
  have t0 : decide ((8192 : Int) < (s.size : Int)) = false := decide_eq_false (by omega)
  clear hX htp hx hN hxl hmem hrn hexN
  go_enter Tryd.func16, Tryd.ntmps16
  go_wp2_with fail
  go_loopw [5] (fun ev wr => ∃ b : Nat, ev = .int .i64 b ∧ b ≤ s.size ∧ Hid (b + runN 97 122 ((sb s).drop b) = N) ∧ wr.heap[w.heap.size]? = some (.cells noOp.toArray 25 (0, 0)) ∧ wr.heap[w.heap.size + 1]? = some (.cells noOp.toArray 25 (0, 0)) ∧ wr.heap.size = w.heap.size + 1 + 1 ∧ Below w.heap.size w wr) (fun ev _ => s.size - (intOf ev).toNat)
  case atStart =>
    refine ⟨0, rfl, Nat.zero_le _, HN, blk_below (blk_new w _) (Base.al (Below.refl _ _) _), ?_, ?_, Base.al (Base.al (Below.refl _ w) _) _⟩
    · have h1 := blk_new (w.alloc (.cells noOp.toArray 25)) (.cells noOp.toArray 25)
      have h2 : (w.alloc (.cells noOp.toArray 25)).heap.size = w.heap.size + 1 := Array.size_push _
      rw [h2] at h1
      exact h1
    · exact (Array.size_push _).trans (congrArg (· + 1) (Array.size_push _))
  case round =>
    obtain ⟨b, rfl, hb2, hn, k1, k2, hz, hb⟩ := hrel
    have kb1 : IntKind.i64.wrap ((b : Int) + 1) = (b : Int) + 1 := by rw [IntKind.wrap_i64]; omega
    have hcase : (b < s.size ∧ 97 ≤ (sb s).getD b 0 ∧ (sb s).getD b 0 ≤ 122 ∧ Hid (b + 1 + runN 97 122 ((sb s).drop (b + 1)) = N)) ∨ (b = N ∧ (¬ b < s.size ∨ (b < s.size ∧ ((sb s).getD b 0 < 97 ∨ 122 < (sb s).getD b 0)))) := by
      by_cases hlt : b < s.size
      · rcases run_step hn.out (by rw [HLS.out]; exact hlt) with ⟨h1, h2, h3⟩ | ⟨h1, h2⟩
        · exact .inl ⟨hlt, h1, h2, Lib.hid h3⟩
        · exact .inr ⟨h1, .inr ⟨hlt, h2⟩⟩
      · have := hn.out
        rw [List.drop_eq_nil_of_le (by rw [HLS.out]; omega)] at this
        exact .inr ⟨this, .inl hlt⟩
    clear hn HN
    rcases hcase with ⟨hlt, h1, h2, h3⟩ | ⟨hbN, hout⟩
    · have hbi : (b : Int) < (s.size : Int) := by omega
      have tb : decide ((b : Int) < (s.size : Int)) = true := decide_eq_true hbi
      have hgb : ((s[b].toNat : Nat) : Int) = (((sb s).getD b 0 : Nat) : Int) := congrArg Nat.cast (sb_get hlt)
      have u1 : decide ((97 : Int) ≤ (((sb s).getD b 0 : Nat) : Int)) = true := decide_eq_true (by omega)
      have u2 : decide ((((sb s).getD b 0 : Nat) : Int) ≤ 122) = true := decide_eq_true (by omega)
      generalize (sb s).getD b 0 = c at *
      have KK := Lib.hid (And.intro k1 (And.intro k2 (And.intro hz hb)))
      clear k1 k2 hz hb h1 h2
      go_wp2_with fail
      exact ⟨⟨b + 1, by go_num, hlt, h3, KK.out⟩, by simp [intOf]; omega⟩
    · subst hbN
      go_upto_region 5 with fail
      go_cut [52] (fun t wc => t = .bool false ∧ wc = wr)
      case first =>
        rcases hout with hlt | ⟨hlt, h1⟩
        · have tb : decide ((b : Int) < (s.size : Int)) = false := decide_eq_false (by omega)
          go_wp2_with fail
          go_meet
          exact ⟨rfl, rfl⟩
        · have hbi : (b : Int) < (s.size : Int) := by omega
          have tb : decide ((b : Int) < (s.size : Int)) = true := decide_eq_true hbi
          have hgb : ((s[b].toNat : Nat) : Int) = (((sb s).getD b 0 : Nat) : Int) := congrArg Nat.cast (sb_get hlt)
          generalize (sb s).getD b 0 = c at *
          rcases h1 with h1 | h1
          · have u1 : decide ((97 : Int) ≤ (c : Int)) = false := decide_eq_false (by omega)
            clear h1
            go_wp2_with fail
            go_meet
            exact ⟨rfl, rfl⟩
          · have u1 : decide ((97 : Int) ≤ (c : Int)) = true := decide_eq_true (by omega)
            have u2 : decide ((c : Int) ≤ 122) = false := decide_eq_false (by omega)
            clear h1
            go_wp2_with fail
            go_meet
            exact ⟨rfl, rfl⟩
      case rest =>
        obtain ⟨rfl, rfl⟩ := hcut
        go_wp2_with fail
        have HW : Hid (DpSt w (zeroA (kindTo x 1)) (wc.alloc (.cells #[.int .u8 0, .string { data := #[] }, .string { data := #[] }, .int .i64 0, .int .i64 0, .int .i64 0, .slice none 0 0] 25))) := Lib.hid (by
          rw [kindTo_one]
          have hn := blk_new wc (.cells #[.int .u8 0, .string { data := #[] }, .string { data := #[] }, .int .i64 0, .int .i64 0, .int .i64 0, .slice none 0 0] 25)
          rw [hz] at hn
          exact ⟨blk_below k1 (Base.al (Below.refl _ _) _), blk_below k2 (Base.al (Below.refl _ _) _), hn, Base.al hb _⟩)
        clear k1 k2 hz hb hout
        generalize (wc.alloc (.cells #[.int .u8 0, .string { data := #[] }, .string { data := #[] }, .int .i64 0, .int .i64 0, .int .i64 0, .slice none 0 0] 25)) = wd at *
        go_loopw [7] (fun kv wr => ∃ k : Nat, kv = .int .i64 k ∧ 1 ≤ k ∧ k ≤ 17 ∧ Hid (DpSt w (zeroA (kindTo x k)) wr)) (fun kv _ => 17 - (intOf kv).toNat)
        case atStart => exact ⟨1, rfl, Nat.le_refl _, by omega, HW⟩
        case round =>
          obtain ⟨k, rfl, hk1, hk2, HH⟩ := hrel
          clear HW
          by_cases hk : k ≤ 16
          · have t1 : decide ((k : Int) ≤ 16) = true := decide_eq_true (by omega)
            have kwk : IntKind.i64.wrap ((k : Int) + 1) = (k : Int) + 1 := by rw [IntKind.wrap_i64]; omega
            have kwu : IntKind.u8.wrap (k : Int) = (k : Int) := by rw [IntKind.wrap_u8]; omega
            have kwb : IntKind.i64.wrap (b : Int) = (b : Int) := by rw [IntKind.wrap_i64]; omega
            have hbI : (b : Int) ≤ (s.size : Int) := by omega
            have hex := HEX.out
            have GWk := fun W => Lib.hid (rword_any k (by omega) W)
            have hq : ((toB (wordOf k)).toList == (toB x).toList) = decide (wordOf k = x) := by
              rw [Bool.eq_iff_iff, beq_iff_eq, decide_eq_true_iff]
              refine ⟨fun e => ?_, fun e => by rw [e]⟩
              rw [ByteArray.toList_eq, ByteArray.toList_eq] at e
              have := congrArg sb (ByteArray.ext (Array.toList_inj.1 e))
              rw [sb_toB _ (fun y hy => by have := word_low k hk y hy; omega), sb_toB _ (fun y hy => by have := HMEM.out y hy; omega)] at this
              exact this
            by_cases he : wordOf k = x
            · rw [decide_eq_true he] at hq
              have hkt := kindTo_yes hk1 hk he
              have HKT := Lib.hid hkt
              have HK := Lib.hid hk
              clear he hkt hk
              generalize wordOf k = wk at *
              go_wp2_with fail
              refine wp_region_quiet_on (by kernel_rfl) (by kernel_rfl) ?_
              repeat ((with_reducible refine wpQuiet_step (fun K hK => ?_)); go_simp; first | ((with_reducible refine hK _ ?_); clear hK K) | (rw [if_neg (by intro h; cases h)]; (with_reducible refine hK _ ?_); clear hK K) | (apply Exists.intro; refine ⟨fun _ => ?_, hK _ ?_⟩; (with_reducible exact on_of (GWk _).out); clear hK K))
              with_reducible refine wpQuiet_nil ?_
              intro _ hw'
              obtain ⟨pq, hw''⟩ := hw'
              subst hw''
              have H2 := HH.out.on pq.h
              generalize pq.v = w2 at *
              have fd := fun o => frozen_blk H2.op o
              have d0 := cell_blk H2.op 0
              have H3 := Lib.hid (H2.set 0 (.int .u8 k))
              clear H2 HH
              go_wp2_with fail
              refine ⟨⟨k + 1, by go_num, by omega, by have := HK.out; omega, Lib.hid ?_⟩, by have := HK.out; simp [intOf]; omega⟩
              rw [HKT.out]
              exact H3.out
            · rw [decide_eq_false he] at hq
              have hkt := kindTo_no (k := k) he
              have HKT := Lib.hid hkt
              have HK := Lib.hid hk
              clear he hkt hk
              generalize wordOf k = wk at *
              go_wp2_with fail
              refine wp_region_quiet_on (by kernel_rfl) (by kernel_rfl) ?_
              repeat ((with_reducible refine wpQuiet_step (fun K hK => ?_)); go_simp; first | ((with_reducible refine hK _ ?_); clear hK K) | (rw [if_neg (by intro h; cases h)]; (with_reducible refine hK _ ?_); clear hK K) | (apply Exists.intro; refine ⟨fun _ => ?_, hK _ ?_⟩; (with_reducible exact on_of (GWk _).out); clear hK K))
              with_reducible refine wpQuiet_nil ?_
              intro _ hw'
              obtain ⟨pq, hw''⟩ := hw'
              subst hw''
              have H2 := HH.out.on pq.h
              generalize pq.v = w2 at *
              have H3 := Lib.hid H2
              clear H2 HH
              go_wp2_with fail
              refine ⟨⟨k + 1, by go_num, by omega, by have := HK.out; omega, Lib.hid ?_⟩, by have := HK.out; simp [intOf]; omega⟩
              rw [HKT.out]
              exact H3.out
          · have hk17 : k = 17 := by omega
            subst hk17
            clear hk hk1 hk2
            cases hi : wordIdx x with
            | none =>
              have hx : X = .error 28 := by rw [← HX.out]; unfold tOp; rw [HXW.out.1, hi]
              subst hx
              have hkz : kindTo x 17 = 0 := by unfold kindTo; rw [hi]
              rw [hkz] at HH
              clear hkz hi
              have c0 := cell_blk HH.out.op 0
              have c1 := cell_blk HH.out.op 1
              have c2 := cell_blk HH.out.op 2
              have c3 := cell_blk HH.out.op 3
              have c4 := cell_blk HH.out.op 4
              have c5 := cell_blk HH.out.op 5
              have c6 := cell_blk HH.out.op 6
              have z0 := cell_blk HH.out.non 0
              have z1 := cell_blk HH.out.non 1
              have z2 := cell_blk HH.out.non 2
              have z3 := cell_blk HH.out.non 3
              have z4 := cell_blk HH.out.non 4
              have z5 := cell_blk HH.out.non 5
              have z6 := cell_blk HH.out.non 6
              have r0 := cell_blk HH.out.res 0
              have r1 := cell_blk HH.out.res 1
              have r2 := cell_blk HH.out.res 2
              have r3 := cell_blk HH.out.res 3
              have r4 := cell_blk HH.out.res 4
              have r5 := cell_blk HH.out.res 5
              have r6 := cell_blk HH.out.res 6
              have fd := fun o => frozen_blk HH.out.op o
              have fr := fun o => frozen_blk HH.out.res o
              go_wp2_with fail
              change bodyPost _ _ _ _ _ (sets wr w.heap.size 0 noOp)
              have hS := HH.out
              have eR := sets_at hS.res noOp rfl
              have b9 := sets_below (a := w) (Nat.le_refl _) noOp _ 0 hS.below
              generalize sets wr w.heap.size 0 noOp = y at *
              have c0 := cell_blk eR 0
              have c1 := cell_blk eR 1
              have c2 := cell_blk eR 2
              have c3 := cell_blk eR 3
              have c4 := cell_blk eR 4
              have c5 := cell_blk eR 5
              have c6 := cell_blk eR 6
              exact bodyPost_ret (v := _) (by simp [results, Tryd.results16, go_sem, c0, c1, c2, c3, c4, c5, c6] <;> rfl) rfl ⟨rfl, b9⟩
            | some i =>
              obtain ⟨hi16, -⟩ := wordIdx_some hi
              have hT : X = dEnd (sb s) (dParts (sb s) (partsL (i + 1)) (zeroT (i + 1), b, 0)) := by
                rw [← HX.out]
                unfold tOp
                rw [HXW.out.1, HXW.out.2, hi]
                exact (dEnd_is _ _ _ (partsL_is (i + 1) (by omega)).2).symm
              have hkz : kindTo x 17 = i + 1 := by unfold kindTo; rw [hi]; simp only; rw [if_pos (by omega)]
              rw [hkz] at HH
              have hk1 : i + 1 ≠ 0 := by omega
              have hk16 : i + 1 ≤ 16 := by omega
              clear hkz hi hi16 HX HXW HEX HMEM
              generalize i + 1 = k at *
              have hc := class_fin k hk16 hk1
              have tk : ((k : Int) == 0) = false := by rw [beq_eq_false_iff_ne]; omega
              have HT := Lib.hid hT
              clear hT
              rcases hc with hc | hc | hc | hc | hc | hc | hc
              · obtain ⟨ee1, ee2⟩ := Prod.mk.inj hc
                have GHK : ∀ W, Hid (Gives 22 #[bv k] W (.tuple #[i64 1, .bool false, .bool false, .bool false, .bool false])) := fun W => Lib.hid (by have := has_any k W; rw [ee1] at this; exact this)
                clear hc ee1
                obtain ⟨x0, a0, e0, g0⟩ : ∃ x a e, dText (sb s) b 0 = (x, a, e) := ⟨_, _, _, rfl⟩
                have b0 := dText_le (l := sb s) (a := b) (e := 0) (by rw [sb_len]; omega) (by omega)
                rw [g0, sb_len] at b0
                have b0 : a0 ≤ s.size ∧ e0 ≤ 5 := b0
                have G0 : ∀ W, Hid (Makes 25 #[.string s, i64 b, i64 0] W (.tuple #[.string (toB x0), i64 a0, i64 e0])) := fun W => Lib.hid (by have := dText_any s b 0 W hm (by omega) (by omega); rw [g0] at this; exact this)
                have hX : X = dEnd (sb s) ({ zeroT k with path := x0 }, a0, e0) := by
                  rw [HT.out, ee2]
                  simp [dParts, dPart, g0]
                have HE : Hid (X = dEnd (sb s) ({ zeroT k with path := x0 }, a0, e0)) := Lib.hid hX
                clear hX HT g0
                have c0 := cell_blk HH.out.op 0
                have c1 := cell_blk HH.out.op 1
                have c2 := cell_blk HH.out.op 2
                have c3 := cell_blk HH.out.op 3
                have c4 := cell_blk HH.out.op 4
                have c5 := cell_blk HH.out.op 5
                have c6 := cell_blk HH.out.op 6
                have z0 := cell_blk HH.out.non 0
                have z1 := cell_blk HH.out.non 1
                have z2 := cell_blk HH.out.non 2
                have z3 := cell_blk HH.out.non 3
                have z4 := cell_blk HH.out.non 4
                have z5 := cell_blk HH.out.non 5
                have z6 := cell_blk HH.out.non 6
                have r0 := cell_blk HH.out.res 0
                have r1 := cell_blk HH.out.res 1
                have r2 := cell_blk HH.out.res 2
                have r3 := cell_blk HH.out.res 3
                have r4 := cell_blk HH.out.res 4
                have r5 := cell_blk HH.out.res 5
                have r6 := cell_blk HH.out.res 6
                have fd := fun o => frozen_blk HH.out.op o
                have fr := fun o => frozen_blk HH.out.res o
                go_wp2_with fail
                refine (GHK _).out.mono ?_; rintro q9 w9 ⟨rfl, hw9⟩
                have H9 := HH.out
                rw [← hw9] at H9
                clear HH hw9 c0 c1 c2 c3 c4 c5 c6 z0 z1 z2 z3 z4 z5 z6 r0 r1 r2 r3 r4 r5 r6 fd fr
                have c0 := cell_blk H9.op 0
                have c1 := cell_blk H9.op 1
                have c2 := cell_blk H9.op 2
                have c3 := cell_blk H9.op 3
                have c4 := cell_blk H9.op 4
                have c5 := cell_blk H9.op 5
                have c6 := cell_blk H9.op 6
                have z0 := cell_blk H9.non 0
                have z1 := cell_blk H9.non 1
                have z2 := cell_blk H9.non 2
                have z3 := cell_blk H9.non 3
                have z4 := cell_blk H9.non 4
                have z5 := cell_blk H9.non 5
                have z6 := cell_blk H9.non 6
                have r0 := cell_blk H9.res 0
                have r1 := cell_blk H9.res 1
                have r2 := cell_blk H9.res 2
                have r3 := cell_blk H9.res 3
                have r4 := cell_blk H9.res 4
                have r5 := cell_blk H9.res 5
                have r6 := cell_blk H9.res 6
                have fd := fun o => frozen_blk H9.op o
                have fr := fun o => frozen_blk H9.res o
                have HH := Lib.hid H9
                clear H9
                go_wp2_with fail
                refine (G0 _).out.mono ?_; rintro q0 w1 ⟨rfl, hb1⟩
                clear c0 c1 c2 c3 c4 c5 c6 z0 z1 z2 z3 z4 z5 z6 r0 r1 r2 r3 r4 r5 r6 fd fr
                have H1 : DpSt w #[bv k, .string ByteArray.empty, .string ByteArray.empty, .int .i64 0, .int .i64 0, .int .i64 0, .slice none 0 0] w1 := (HH.out).on hb1
                clear HH hb1
                by_cases hat : a0 < s.size
                · have u1 : decide ((a0 : Int) < (s.size : Int)) = true := decide_eq_true (by omega)
                  by_cases he : e0 = 0
                  · subst he
                    have hx : X = .error 2 := by rw [HE.out]; unfold dEnd; rw [if_pos rfl, if_pos (by show a0 < (sb s).length; rw [sb_len]; exact hat)]
                    subst hx
                    have c0 := cell_blk H1.op 0
                    have c1 := cell_blk H1.op 1
                    have c2 := cell_blk H1.op 2
                    have c3 := cell_blk H1.op 3
                    have c4 := cell_blk H1.op 4
                    have c5 := cell_blk H1.op 5
                    have c6 := cell_blk H1.op 6
                    have z0 := cell_blk H1.non 0
                    have z1 := cell_blk H1.non 1
                    have z2 := cell_blk H1.non 2
                    have z3 := cell_blk H1.non 3
                    have z4 := cell_blk H1.non 4
                    have z5 := cell_blk H1.non 5
                    have z6 := cell_blk H1.non 6
                    have r0 := cell_blk H1.res 0
                    have r1 := cell_blk H1.res 1
                    have r2 := cell_blk H1.res 2
                    have r3 := cell_blk H1.res 3
                    have r4 := cell_blk H1.res 4
                    have r5 := cell_blk H1.res 5
                    have r6 := cell_blk H1.res 6
                    have fd := fun o => frozen_blk H1.op o
                    have fr := fun o => frozen_blk H1.res o
                    have HH := Lib.hid H1
                    clear H1
                    go_wp2_with fail
                    change bodyPost _ _ _ _ _ (sets (w1.setCell ⟨w.heap.size + 1 + 1, 1, none⟩ (.string (toB x0))) w.heap.size 0 noOp)
                    have hS := (HH.out.set 1 (.string (toB x0)))
                    have eR := sets_at hS.res noOp rfl
                    have b9 := sets_below (a := w) (Nat.le_refl _) noOp _ 0 hS.below
                    generalize sets (w1.setCell ⟨w.heap.size + 1 + 1, 1, none⟩ (.string (toB x0))) w.heap.size 0 noOp = y at *
                    have c0 := cell_blk eR 0
                    have c1 := cell_blk eR 1
                    have c2 := cell_blk eR 2
                    have c3 := cell_blk eR 3
                    have c4 := cell_blk eR 4
                    have c5 := cell_blk eR 5
                    have c6 := cell_blk eR 6
                    exact bodyPost_ret (v := _) (by simp [results, Tryd.results16, go_sem, c0, c1, c2, c3, c4, c5, c6] <;> rfl) rfl ⟨rfl, b9⟩
                  · have u2 : ((e0 : Int) == 0) = false := by rw [beq_eq_false_iff_ne]; omega
                    have hx : X = .error e0 := by rw [HE.out]; unfold dEnd; rw [if_neg he]
                    subst hx
                    have c0 := cell_blk H1.op 0
                    have c1 := cell_blk H1.op 1
                    have c2 := cell_blk H1.op 2
                    have c3 := cell_blk H1.op 3
                    have c4 := cell_blk H1.op 4
                    have c5 := cell_blk H1.op 5
                    have c6 := cell_blk H1.op 6
                    have z0 := cell_blk H1.non 0
                    have z1 := cell_blk H1.non 1
                    have z2 := cell_blk H1.non 2
                    have z3 := cell_blk H1.non 3
                    have z4 := cell_blk H1.non 4
                    have z5 := cell_blk H1.non 5
                    have z6 := cell_blk H1.non 6
                    have r0 := cell_blk H1.res 0
                    have r1 := cell_blk H1.res 1
                    have r2 := cell_blk H1.res 2
                    have r3 := cell_blk H1.res 3
                    have r4 := cell_blk H1.res 4
                    have r5 := cell_blk H1.res 5
                    have r6 := cell_blk H1.res 6
                    have fd := fun o => frozen_blk H1.op o
                    have fr := fun o => frozen_blk H1.res o
                    have HH := Lib.hid H1
                    clear H1
                    go_wp2_with fail
                    change bodyPost _ _ _ _ _ (sets (w1.setCell ⟨w.heap.size + 1 + 1, 1, none⟩ (.string (toB x0))) w.heap.size 0 noOp)
                    have hS := (HH.out.set 1 (.string (toB x0)))
                    have eR := sets_at hS.res noOp rfl
                    have b9 := sets_below (a := w) (Nat.le_refl _) noOp _ 0 hS.below
                    generalize sets (w1.setCell ⟨w.heap.size + 1 + 1, 1, none⟩ (.string (toB x0))) w.heap.size 0 noOp = y at *
                    have c0 := cell_blk eR 0
                    have c1 := cell_blk eR 1
                    have c2 := cell_blk eR 2
                    have c3 := cell_blk eR 3
                    have c4 := cell_blk eR 4
                    have c5 := cell_blk eR 5
                    have c6 := cell_blk eR 6
                    exact bodyPost_ret (v := _) (by simp [results, Tryd.results16, go_sem, c0, c1, c2, c3, c4, c5, c6] <;> rfl) rfl ⟨rfl, b9⟩
                · have u1 : decide ((a0 : Int) < (s.size : Int)) = false := decide_eq_false (by omega)
                  by_cases he : e0 = 0
                  · subst he
                    have hx : X = .ok ({ zeroT k with path := x0 }) := by rw [HE.out]; unfold dEnd; rw [if_pos rfl, if_neg (by show ¬ a0 < (sb s).length; rw [sb_len]; exact hat)]
                    subst hx
                    have c0 := cell_blk H1.op 0
                    have c1 := cell_blk H1.op 1
                    have c2 := cell_blk H1.op 2
                    have c3 := cell_blk H1.op 3
                    have c4 := cell_blk H1.op 4
                    have c5 := cell_blk H1.op 5
                    have c6 := cell_blk H1.op 6
                    have z0 := cell_blk H1.non 0
                    have z1 := cell_blk H1.non 1
                    have z2 := cell_blk H1.non 2
                    have z3 := cell_blk H1.non 3
                    have z4 := cell_blk H1.non 4
                    have z5 := cell_blk H1.non 5
                    have z6 := cell_blk H1.non 6
                    have r0 := cell_blk H1.res 0
                    have r1 := cell_blk H1.res 1
                    have r2 := cell_blk H1.res 2
                    have r3 := cell_blk H1.res 3
                    have r4 := cell_blk H1.res 4
                    have r5 := cell_blk H1.res 5
                    have r6 := cell_blk H1.res 6
                    have fd := fun o => frozen_blk H1.op o
                    have fr := fun o => frozen_blk H1.res o
                    have HH := Lib.hid H1
                    clear H1
                    go_wp2_with fail
                    change bodyPost _ _ _ _ _ (sets (w1.setCell ⟨w.heap.size + 1 + 1, 1, none⟩ (.string (toB x0))) w.heap.size 0 [bv k, .string (toB x0), .string ByteArray.empty, .int .i64 0, .int .i64 0, .int .i64 0, .slice none 0 0])
                    have hS := (HH.out.set 1 (.string (toB x0)))
                    have eR := sets_at hS.res [bv k, .string (toB x0), .string ByteArray.empty, .int .i64 0, .int .i64 0, .int .i64 0, .slice none 0 0] rfl
                    have b9 := sets_below (a := w) (Nat.le_refl _) [bv k, .string (toB x0), .string ByteArray.empty, .int .i64 0, .int .i64 0, .int .i64 0, .slice none 0 0] _ 0 hS.below
                    generalize sets (w1.setCell ⟨w.heap.size + 1 + 1, 1, none⟩ (.string (toB x0))) w.heap.size 0 [bv k, .string (toB x0), .string ByteArray.empty, .int .i64 0, .int .i64 0, .int .i64 0, .slice none 0 0] = y at *
                    have c0 := cell_blk eR 0
                    have c1 := cell_blk eR 1
                    have c2 := cell_blk eR 2
                    have c3 := cell_blk eR 3
                    have c4 := cell_blk eR 4
                    have c5 := cell_blk eR 5
                    have c6 := cell_blk eR 6
                    exact bodyPost_ret (v := _) (by simp [results, Tryd.results16, go_sem, c0, c1, c2, c3, c4, c5, c6] <;> rfl) rfl ⟨_, rfl, ⟨_, _, _, rfl⟩, Sl.nil _ _, b9⟩
                  · have u2 : ((e0 : Int) == 0) = false := by rw [beq_eq_false_iff_ne]; omega
                    have hx : X = .error e0 := by rw [HE.out]; unfold dEnd; rw [if_neg he]
                    subst hx
                    have c0 := cell_blk H1.op 0
                    have c1 := cell_blk H1.op 1
                    have c2 := cell_blk H1.op 2
                    have c3 := cell_blk H1.op 3
                    have c4 := cell_blk H1.op 4
                    have c5 := cell_blk H1.op 5
                    have c6 := cell_blk H1.op 6
                    have z0 := cell_blk H1.non 0
                    have z1 := cell_blk H1.non 1
                    have z2 := cell_blk H1.non 2
                    have z3 := cell_blk H1.non 3
                    have z4 := cell_blk H1.non 4
                    have z5 := cell_blk H1.non 5
                    have z6 := cell_blk H1.non 6
                    have r0 := cell_blk H1.res 0
                    have r1 := cell_blk H1.res 1
                    have r2 := cell_blk H1.res 2
                    have r3 := cell_blk H1.res 3
                    have r4 := cell_blk H1.res 4
                    have r5 := cell_blk H1.res 5
                    have r6 := cell_blk H1.res 6
                    have fd := fun o => frozen_blk H1.op o
                    have fr := fun o => frozen_blk H1.res o
                    have HH := Lib.hid H1
                    clear H1
                    go_wp2_with fail
                    change bodyPost _ _ _ _ _ (sets (w1.setCell ⟨w.heap.size + 1 + 1, 1, none⟩ (.string (toB x0))) w.heap.size 0 noOp)
                    have hS := (HH.out.set 1 (.string (toB x0)))
                    have eR := sets_at hS.res noOp rfl
                    have b9 := sets_below (a := w) (Nat.le_refl _) noOp _ 0 hS.below
                    generalize sets (w1.setCell ⟨w.heap.size + 1 + 1, 1, none⟩ (.string (toB x0))) w.heap.size 0 noOp = y at *
                    have c0 := cell_blk eR 0
                    have c1 := cell_blk eR 1
                    have c2 := cell_blk eR 2
                    have c3 := cell_blk eR 3
                    have c4 := cell_blk eR 4
                    have c5 := cell_blk eR 5
                    have c6 := cell_blk eR 6
                    exact bodyPost_ret (v := _) (by simp [results, Tryd.results16, go_sem, c0, c1, c2, c3, c4, c5, c6] <;> rfl) rfl ⟨rfl, b9⟩
              · obtain ⟨ee1, ee2⟩ := Prod.mk.inj hc
                have GHK : ∀ W, Hid (Gives 22 #[bv k] W (.tuple #[i64 2, .bool false, .bool false, .bool false, .bool false])) := fun W => Lib.hid (by have := has_any k W; rw [ee1] at this; exact this)
                clear hc ee1
                obtain ⟨x0, a0, e0, g0⟩ : ∃ x a e, dText (sb s) b 0 = (x, a, e) := ⟨_, _, _, rfl⟩
                have b0 := dText_le (l := sb s) (a := b) (e := 0) (by rw [sb_len]; omega) (by omega)
                rw [g0, sb_len] at b0
                have b0 : a0 ≤ s.size ∧ e0 ≤ 5 := b0
                have G0 : ∀ W, Hid (Makes 25 #[.string s, i64 b, i64 0] W (.tuple #[.string (toB x0), i64 a0, i64 e0])) := fun W => Lib.hid (by have := dText_any s b 0 W hm (by omega) (by omega); rw [g0] at this; exact this)
                obtain ⟨x1, a1, e1, g1⟩ : ∃ x a e, dText (sb s) a0 e0 = (x, a, e) := ⟨_, _, _, rfl⟩
                have b1 := dText_le (l := sb s) (a := a0) (e := e0) (by rw [sb_len]; omega) (by omega)
                rw [g1, sb_len] at b1
                have b1 : a1 ≤ s.size ∧ e1 ≤ 5 := b1
                have G1 : ∀ W, Hid (Makes 25 #[.string s, i64 a0, i64 e0] W (.tuple #[.string (toB x1), i64 a1, i64 e1])) := fun W => Lib.hid (by have := dText_any s a0 e0 W hm (by omega) (by omega); rw [g1] at this; exact this)
                have hX : X = dEnd (sb s) ({ zeroT k with path := x0, other := x1 }, a1, e1) := by
                  rw [HT.out, ee2]
                  simp [dParts, dPart, g0, g1]
                have HE : Hid (X = dEnd (sb s) ({ zeroT k with path := x0, other := x1 }, a1, e1)) := Lib.hid hX
                clear hX HT g0 g1
                have c0 := cell_blk HH.out.op 0
                have c1 := cell_blk HH.out.op 1
                have c2 := cell_blk HH.out.op 2
                have c3 := cell_blk HH.out.op 3
                have c4 := cell_blk HH.out.op 4
                have c5 := cell_blk HH.out.op 5
                have c6 := cell_blk HH.out.op 6
                have z0 := cell_blk HH.out.non 0
                have z1 := cell_blk HH.out.non 1
                have z2 := cell_blk HH.out.non 2
                have z3 := cell_blk HH.out.non 3
                have z4 := cell_blk HH.out.non 4
                have z5 := cell_blk HH.out.non 5
                have z6 := cell_blk HH.out.non 6
                have r0 := cell_blk HH.out.res 0
                have r1 := cell_blk HH.out.res 1
                have r2 := cell_blk HH.out.res 2
                have r3 := cell_blk HH.out.res 3
                have r4 := cell_blk HH.out.res 4
                have r5 := cell_blk HH.out.res 5
                have r6 := cell_blk HH.out.res 6
                have fd := fun o => frozen_blk HH.out.op o
                have fr := fun o => frozen_blk HH.out.res o
                go_wp2_with fail
                refine (GHK _).out.mono ?_; rintro q9 w9 ⟨rfl, hw9⟩
                have H9 := HH.out
                rw [← hw9] at H9
                clear HH hw9 c0 c1 c2 c3 c4 c5 c6 z0 z1 z2 z3 z4 z5 z6 r0 r1 r2 r3 r4 r5 r6 fd fr
                have c0 := cell_blk H9.op 0
                have c1 := cell_blk H9.op 1
                have c2 := cell_blk H9.op 2
                have c3 := cell_blk H9.op 3
                have c4 := cell_blk H9.op 4
                have c5 := cell_blk H9.op 5
                have c6 := cell_blk H9.op 6
                have z0 := cell_blk H9.non 0
                have z1 := cell_blk H9.non 1
                have z2 := cell_blk H9.non 2
                have z3 := cell_blk H9.non 3
                have z4 := cell_blk H9.non 4
                have z5 := cell_blk H9.non 5
                have z6 := cell_blk H9.non 6
                have r0 := cell_blk H9.res 0
                have r1 := cell_blk H9.res 1
                have r2 := cell_blk H9.res 2
                have r3 := cell_blk H9.res 3
                have r4 := cell_blk H9.res 4
                have r5 := cell_blk H9.res 5
                have r6 := cell_blk H9.res 6
                have fd := fun o => frozen_blk H9.op o
                have fr := fun o => frozen_blk H9.res o
                have HH := Lib.hid H9
                clear H9
                go_wp2_with fail
                refine (G0 _).out.mono ?_; rintro q0 w1 ⟨rfl, hb1⟩
                clear c0 c1 c2 c3 c4 c5 c6 z0 z1 z2 z3 z4 z5 z6 r0 r1 r2 r3 r4 r5 r6 fd fr
                have H1 : DpSt w #[bv k, .string ByteArray.empty, .string ByteArray.empty, .int .i64 0, .int .i64 0, .int .i64 0, .slice none 0 0] w1 := (HH.out).on hb1
                clear HH hb1
                have c0 := cell_blk H1.op 0
                have c1 := cell_blk H1.op 1
                have c2 := cell_blk H1.op 2
                have c3 := cell_blk H1.op 3
                have c4 := cell_blk H1.op 4
                have c5 := cell_blk H1.op 5
                have c6 := cell_blk H1.op 6
                have z0 := cell_blk H1.non 0
                have z1 := cell_blk H1.non 1
                have z2 := cell_blk H1.non 2
                have z3 := cell_blk H1.non 3
                have z4 := cell_blk H1.non 4
                have z5 := cell_blk H1.non 5
                have z6 := cell_blk H1.non 6
                have r0 := cell_blk H1.res 0
                have r1 := cell_blk H1.res 1
                have r2 := cell_blk H1.res 2
                have r3 := cell_blk H1.res 3
                have r4 := cell_blk H1.res 4
                have r5 := cell_blk H1.res 5
                have r6 := cell_blk H1.res 6
                have fd := fun o => frozen_blk H1.op o
                have fr := fun o => frozen_blk H1.res o
                have HH := Lib.hid H1
                clear H1
                go_wp2_with fail
                refine (G1 _).out.mono ?_; rintro q1 w2 ⟨rfl, hb2⟩
                clear c0 c1 c2 c3 c4 c5 c6 z0 z1 z2 z3 z4 z5 z6 r0 r1 r2 r3 r4 r5 r6 fd fr
                have H2 : DpSt w #[bv k, .string (toB x0), .string ByteArray.empty, .int .i64 0, .int .i64 0, .int .i64 0, .slice none 0 0] w2 := (HH.out.set 1 (.string (toB x0))).on hb2
                clear HH hb2
                by_cases hat : a1 < s.size
                · have u1 : decide ((a1 : Int) < (s.size : Int)) = true := decide_eq_true (by omega)
                  by_cases he : e1 = 0
                  · subst he
                    have hx : X = .error 2 := by rw [HE.out]; unfold dEnd; rw [if_pos rfl, if_pos (by show a1 < (sb s).length; rw [sb_len]; exact hat)]
                    subst hx
                    have c0 := cell_blk H2.op 0
                    have c1 := cell_blk H2.op 1
                    have c2 := cell_blk H2.op 2
                    have c3 := cell_blk H2.op 3
                    have c4 := cell_blk H2.op 4
                    have c5 := cell_blk H2.op 5
                    have c6 := cell_blk H2.op 6
                    have z0 := cell_blk H2.non 0
                    have z1 := cell_blk H2.non 1
                    have z2 := cell_blk H2.non 2
                    have z3 := cell_blk H2.non 3
                    have z4 := cell_blk H2.non 4
                    have z5 := cell_blk H2.non 5
                    have z6 := cell_blk H2.non 6
                    have r0 := cell_blk H2.res 0
                    have r1 := cell_blk H2.res 1
                    have r2 := cell_blk H2.res 2
                    have r3 := cell_blk H2.res 3
                    have r4 := cell_blk H2.res 4
                    have r5 := cell_blk H2.res 5
                    have r6 := cell_blk H2.res 6
                    have fd := fun o => frozen_blk H2.op o
                    have fr := fun o => frozen_blk H2.res o
                    have HH := Lib.hid H2
                    clear H2
                    go_wp2_with fail
                    change bodyPost _ _ _ _ _ (sets (w2.setCell ⟨w.heap.size + 1 + 1, 2, none⟩ (.string (toB x1))) w.heap.size 0 noOp)
                    have hS := (HH.out.set 2 (.string (toB x1)))
                    have eR := sets_at hS.res noOp rfl
                    have b9 := sets_below (a := w) (Nat.le_refl _) noOp _ 0 hS.below
                    generalize sets (w2.setCell ⟨w.heap.size + 1 + 1, 2, none⟩ (.string (toB x1))) w.heap.size 0 noOp = y at *
                    have c0 := cell_blk eR 0
                    have c1 := cell_blk eR 1
                    have c2 := cell_blk eR 2
                    have c3 := cell_blk eR 3
                    have c4 := cell_blk eR 4
                    have c5 := cell_blk eR 5
                    have c6 := cell_blk eR 6
                    exact bodyPost_ret (v := _) (by simp [results, Tryd.results16, go_sem, c0, c1, c2, c3, c4, c5, c6] <;> rfl) rfl ⟨rfl, b9⟩
                  · have u2 : ((e1 : Int) == 0) = false := by rw [beq_eq_false_iff_ne]; omega
                    have hx : X = .error e1 := by rw [HE.out]; unfold dEnd; rw [if_neg he]
                    subst hx
                    have c0 := cell_blk H2.op 0
                    have c1 := cell_blk H2.op 1
                    have c2 := cell_blk H2.op 2
                    have c3 := cell_blk H2.op 3
                    have c4 := cell_blk H2.op 4
                    have c5 := cell_blk H2.op 5
                    have c6 := cell_blk H2.op 6
                    have z0 := cell_blk H2.non 0
                    have z1 := cell_blk H2.non 1
                    have z2 := cell_blk H2.non 2
                    have z3 := cell_blk H2.non 3
                    have z4 := cell_blk H2.non 4
                    have z5 := cell_blk H2.non 5
                    have z6 := cell_blk H2.non 6
                    have r0 := cell_blk H2.res 0
                    have r1 := cell_blk H2.res 1
                    have r2 := cell_blk H2.res 2
                    have r3 := cell_blk H2.res 3
                    have r4 := cell_blk H2.res 4
                    have r5 := cell_blk H2.res 5
                    have r6 := cell_blk H2.res 6
                    have fd := fun o => frozen_blk H2.op o
                    have fr := fun o => frozen_blk H2.res o
                    have HH := Lib.hid H2
                    clear H2
                    go_wp2_with fail
                    change bodyPost _ _ _ _ _ (sets (w2.setCell ⟨w.heap.size + 1 + 1, 2, none⟩ (.string (toB x1))) w.heap.size 0 noOp)
                    have hS := (HH.out.set 2 (.string (toB x1)))
                    have eR := sets_at hS.res noOp rfl
                    have b9 := sets_below (a := w) (Nat.le_refl _) noOp _ 0 hS.below
                    generalize sets (w2.setCell ⟨w.heap.size + 1 + 1, 2, none⟩ (.string (toB x1))) w.heap.size 0 noOp = y at *
                    have c0 := cell_blk eR 0
                    have c1 := cell_blk eR 1
                    have c2 := cell_blk eR 2
                    have c3 := cell_blk eR 3
                    have c4 := cell_blk eR 4
                    have c5 := cell_blk eR 5
                    have c6 := cell_blk eR 6
                    exact bodyPost_ret (v := _) (by simp [results, Tryd.results16, go_sem, c0, c1, c2, c3, c4, c5, c6] <;> rfl) rfl ⟨rfl, b9⟩
                · have u1 : decide ((a1 : Int) < (s.size : Int)) = false := decide_eq_false (by omega)
                  by_cases he : e1 = 0
                  · subst he
                    have hx : X = .ok ({ zeroT k with path := x0, other := x1 }) := by rw [HE.out]; unfold dEnd; rw [if_pos rfl, if_neg (by show ¬ a1 < (sb s).length; rw [sb_len]; exact hat)]
                    subst hx
                    have c0 := cell_blk H2.op 0
                    have c1 := cell_blk H2.op 1
                    have c2 := cell_blk H2.op 2
                    have c3 := cell_blk H2.op 3
                    have c4 := cell_blk H2.op 4
                    have c5 := cell_blk H2.op 5
                    have c6 := cell_blk H2.op 6
                    have z0 := cell_blk H2.non 0
                    have z1 := cell_blk H2.non 1
                    have z2 := cell_blk H2.non 2
                    have z3 := cell_blk H2.non 3
                    have z4 := cell_blk H2.non 4
                    have z5 := cell_blk H2.non 5
                    have z6 := cell_blk H2.non 6
                    have r0 := cell_blk H2.res 0
                    have r1 := cell_blk H2.res 1
                    have r2 := cell_blk H2.res 2
                    have r3 := cell_blk H2.res 3
                    have r4 := cell_blk H2.res 4
                    have r5 := cell_blk H2.res 5
                    have r6 := cell_blk H2.res 6
                    have fd := fun o => frozen_blk H2.op o
                    have fr := fun o => frozen_blk H2.res o
                    have HH := Lib.hid H2
                    clear H2
                    go_wp2_with fail
                    change bodyPost _ _ _ _ _ (sets (w2.setCell ⟨w.heap.size + 1 + 1, 2, none⟩ (.string (toB x1))) w.heap.size 0 [bv k, .string (toB x0), .string (toB x1), .int .i64 0, .int .i64 0, .int .i64 0, .slice none 0 0])
                    have hS := (HH.out.set 2 (.string (toB x1)))
                    have eR := sets_at hS.res [bv k, .string (toB x0), .string (toB x1), .int .i64 0, .int .i64 0, .int .i64 0, .slice none 0 0] rfl
                    have b9 := sets_below (a := w) (Nat.le_refl _) [bv k, .string (toB x0), .string (toB x1), .int .i64 0, .int .i64 0, .int .i64 0, .slice none 0 0] _ 0 hS.below
                    generalize sets (w2.setCell ⟨w.heap.size + 1 + 1, 2, none⟩ (.string (toB x1))) w.heap.size 0 [bv k, .string (toB x0), .string (toB x1), .int .i64 0, .int .i64 0, .int .i64 0, .slice none 0 0] = y at *
                    have c0 := cell_blk eR 0
                    have c1 := cell_blk eR 1
                    have c2 := cell_blk eR 2
                    have c3 := cell_blk eR 3
                    have c4 := cell_blk eR 4
                    have c5 := cell_blk eR 5
                    have c6 := cell_blk eR 6
                    exact bodyPost_ret (v := _) (by simp [results, Tryd.results16, go_sem, c0, c1, c2, c3, c4, c5, c6] <;> rfl) rfl ⟨_, rfl, ⟨_, _, _, rfl⟩, Sl.nil _ _, b9⟩
                  · have u2 : ((e1 : Int) == 0) = false := by rw [beq_eq_false_iff_ne]; omega
                    have hx : X = .error e1 := by rw [HE.out]; unfold dEnd; rw [if_neg he]
                    subst hx
                    have c0 := cell_blk H2.op 0
                    have c1 := cell_blk H2.op 1
                    have c2 := cell_blk H2.op 2
                    have c3 := cell_blk H2.op 3
                    have c4 := cell_blk H2.op 4
                    have c5 := cell_blk H2.op 5
                    have c6 := cell_blk H2.op 6
                    have z0 := cell_blk H2.non 0
                    have z1 := cell_blk H2.non 1
                    have z2 := cell_blk H2.non 2
                    have z3 := cell_blk H2.non 3
                    have z4 := cell_blk H2.non 4
                    have z5 := cell_blk H2.non 5
                    have z6 := cell_blk H2.non 6
                    have r0 := cell_blk H2.res 0
                    have r1 := cell_blk H2.res 1
                    have r2 := cell_blk H2.res 2
                    have r3 := cell_blk H2.res 3
                    have r4 := cell_blk H2.res 4
                    have r5 := cell_blk H2.res 5
                    have r6 := cell_blk H2.res 6
                    have fd := fun o => frozen_blk H2.op o
                    have fr := fun o => frozen_blk H2.res o
                    have HH := Lib.hid H2
                    clear H2
                    go_wp2_with fail
                    change bodyPost _ _ _ _ _ (sets (w2.setCell ⟨w.heap.size + 1 + 1, 2, none⟩ (.string (toB x1))) w.heap.size 0 noOp)
                    have hS := (HH.out.set 2 (.string (toB x1)))
                    have eR := sets_at hS.res noOp rfl
                    have b9 := sets_below (a := w) (Nat.le_refl _) noOp _ 0 hS.below
                    generalize sets (w2.setCell ⟨w.heap.size + 1 + 1, 2, none⟩ (.string (toB x1))) w.heap.size 0 noOp = y at *
                    have c0 := cell_blk eR 0
                    have c1 := cell_blk eR 1
                    have c2 := cell_blk eR 2
                    have c3 := cell_blk eR 3
                    have c4 := cell_blk eR 4
                    have c5 := cell_blk eR 5
                    have c6 := cell_blk eR 6
                    exact bodyPost_ret (v := _) (by simp [results, Tryd.results16, go_sem, c0, c1, c2, c3, c4, c5, c6] <;> rfl) rfl ⟨rfl, b9⟩
              · obtain ⟨ee1, ee2⟩ := Prod.mk.inj hc
                have GHK : ∀ W, Hid (Gives 22 #[bv k] W (.tuple #[i64 0, .bool true, .bool false, .bool false, .bool false])) := fun W => Lib.hid (by have := has_any k W; rw [ee1] at this; exact this)
                clear hc ee1
                obtain ⟨x0, a0, e0, g0⟩ : ∃ x a e, dNum (sb s) b 0 = (x, a, e) := ⟨_, _, _, rfl⟩
                have b0 := dNum_le (l := sb s) (a := b) (e := 0) (by rw [sb_len]; omega) (by omega)
                rw [g0, sb_len] at b0
                have b0 : a0 ≤ s.size ∧ e0 ≤ 5 := b0
                have G0 : ∀ W, Hid (Gives 26 #[.string s, i64 b, i64 0] W (.tuple #[i64 x0, i64 a0, i64 e0])) := fun W => Lib.hid (by have := dNum_any s b 0 W hm (by omega) (by omega); rw [g0] at this; exact this)
                have hX : X = dEnd (sb s) ({ zeroT k with handle := x0 }, a0, e0) := by
                  rw [HT.out, ee2]
                  simp [dParts, dPart, g0]
                have HE : Hid (X = dEnd (sb s) ({ zeroT k with handle := x0 }, a0, e0)) := Lib.hid hX
                clear hX HT g0
                have c0 := cell_blk HH.out.op 0
                have c1 := cell_blk HH.out.op 1
                have c2 := cell_blk HH.out.op 2
                have c3 := cell_blk HH.out.op 3
                have c4 := cell_blk HH.out.op 4
                have c5 := cell_blk HH.out.op 5
                have c6 := cell_blk HH.out.op 6
                have z0 := cell_blk HH.out.non 0
                have z1 := cell_blk HH.out.non 1
                have z2 := cell_blk HH.out.non 2
                have z3 := cell_blk HH.out.non 3
                have z4 := cell_blk HH.out.non 4
                have z5 := cell_blk HH.out.non 5
                have z6 := cell_blk HH.out.non 6
                have r0 := cell_blk HH.out.res 0
                have r1 := cell_blk HH.out.res 1
                have r2 := cell_blk HH.out.res 2
                have r3 := cell_blk HH.out.res 3
                have r4 := cell_blk HH.out.res 4
                have r5 := cell_blk HH.out.res 5
                have r6 := cell_blk HH.out.res 6
                have fd := fun o => frozen_blk HH.out.op o
                have fr := fun o => frozen_blk HH.out.res o
                go_wp2_with fail
                refine (GHK _).out.mono ?_; rintro q9 w9 ⟨rfl, hw9⟩
                have H9 := HH.out
                rw [← hw9] at H9
                clear HH hw9 c0 c1 c2 c3 c4 c5 c6 z0 z1 z2 z3 z4 z5 z6 r0 r1 r2 r3 r4 r5 r6 fd fr
                have c0 := cell_blk H9.op 0
                have c1 := cell_blk H9.op 1
                have c2 := cell_blk H9.op 2
                have c3 := cell_blk H9.op 3
                have c4 := cell_blk H9.op 4
                have c5 := cell_blk H9.op 5
                have c6 := cell_blk H9.op 6
                have z0 := cell_blk H9.non 0
                have z1 := cell_blk H9.non 1
                have z2 := cell_blk H9.non 2
                have z3 := cell_blk H9.non 3
                have z4 := cell_blk H9.non 4
                have z5 := cell_blk H9.non 5
                have z6 := cell_blk H9.non 6
                have r0 := cell_blk H9.res 0
                have r1 := cell_blk H9.res 1
                have r2 := cell_blk H9.res 2
                have r3 := cell_blk H9.res 3
                have r4 := cell_blk H9.res 4
                have r5 := cell_blk H9.res 5
                have r6 := cell_blk H9.res 6
                have fd := fun o => frozen_blk H9.op o
                have fr := fun o => frozen_blk H9.res o
                have HH := Lib.hid H9
                clear H9
                go_wp2_with fail
                refine (G0 _).out.mono ?_; rintro q0 w1 ⟨rfl, hw1⟩
                clear c0 c1 c2 c3 c4 c5 c6 z0 z1 z2 z3 z4 z5 z6 r0 r1 r2 r3 r4 r5 r6 fd fr
                have H1 : DpSt w #[bv k, .string ByteArray.empty, .string ByteArray.empty, .int .i64 0, .int .i64 0, .int .i64 0, .slice none 0 0] w1 := by rw [hw1]; exact HH.out
                clear HH hw1
                by_cases hat : a0 < s.size
                · have u1 : decide ((a0 : Int) < (s.size : Int)) = true := decide_eq_true (by omega)
                  by_cases he : e0 = 0
                  · subst he
                    have hx : X = .error 2 := by rw [HE.out]; unfold dEnd; rw [if_pos rfl, if_pos (by show a0 < (sb s).length; rw [sb_len]; exact hat)]
                    subst hx
                    have c0 := cell_blk H1.op 0
                    have c1 := cell_blk H1.op 1
                    have c2 := cell_blk H1.op 2
                    have c3 := cell_blk H1.op 3
                    have c4 := cell_blk H1.op 4
                    have c5 := cell_blk H1.op 5
                    have c6 := cell_blk H1.op 6
                    have z0 := cell_blk H1.non 0
                    have z1 := cell_blk H1.non 1
                    have z2 := cell_blk H1.non 2
                    have z3 := cell_blk H1.non 3
                    have z4 := cell_blk H1.non 4
                    have z5 := cell_blk H1.non 5
                    have z6 := cell_blk H1.non 6
                    have r0 := cell_blk H1.res 0
                    have r1 := cell_blk H1.res 1
                    have r2 := cell_blk H1.res 2
                    have r3 := cell_blk H1.res 3
                    have r4 := cell_blk H1.res 4
                    have r5 := cell_blk H1.res 5
                    have r6 := cell_blk H1.res 6
                    have fd := fun o => frozen_blk H1.op o
                    have fr := fun o => frozen_blk H1.res o
                    have HH := Lib.hid H1
                    clear H1
                    go_wp2_with fail
                    change bodyPost _ _ _ _ _ (sets (w1.setCell ⟨w.heap.size + 1 + 1, 3, none⟩ (.int .i64 x0)) w.heap.size 0 noOp)
                    have hS := (HH.out.set 3 (.int .i64 x0))
                    have eR := sets_at hS.res noOp rfl
                    have b9 := sets_below (a := w) (Nat.le_refl _) noOp _ 0 hS.below
                    generalize sets (w1.setCell ⟨w.heap.size + 1 + 1, 3, none⟩ (.int .i64 x0)) w.heap.size 0 noOp = y at *
                    have c0 := cell_blk eR 0
                    have c1 := cell_blk eR 1
                    have c2 := cell_blk eR 2
                    have c3 := cell_blk eR 3
                    have c4 := cell_blk eR 4
                    have c5 := cell_blk eR 5
                    have c6 := cell_blk eR 6
                    exact bodyPost_ret (v := _) (by simp [results, Tryd.results16, go_sem, c0, c1, c2, c3, c4, c5, c6] <;> rfl) rfl ⟨rfl, b9⟩
                  · have u2 : ((e0 : Int) == 0) = false := by rw [beq_eq_false_iff_ne]; omega
                    have hx : X = .error e0 := by rw [HE.out]; unfold dEnd; rw [if_neg he]
                    subst hx
                    have c0 := cell_blk H1.op 0
                    have c1 := cell_blk H1.op 1
                    have c2 := cell_blk H1.op 2
                    have c3 := cell_blk H1.op 3
                    have c4 := cell_blk H1.op 4
                    have c5 := cell_blk H1.op 5
                    have c6 := cell_blk H1.op 6
                    have z0 := cell_blk H1.non 0
                    have z1 := cell_blk H1.non 1
                    have z2 := cell_blk H1.non 2
                    have z3 := cell_blk H1.non 3
                    have z4 := cell_blk H1.non 4
                    have z5 := cell_blk H1.non 5
                    have z6 := cell_blk H1.non 6
                    have r0 := cell_blk H1.res 0
                    have r1 := cell_blk H1.res 1
                    have r2 := cell_blk H1.res 2
                    have r3 := cell_blk H1.res 3
                    have r4 := cell_blk H1.res 4
                    have r5 := cell_blk H1.res 5
                    have r6 := cell_blk H1.res 6
                    have fd := fun o => frozen_blk H1.op o
                    have fr := fun o => frozen_blk H1.res o
                    have HH := Lib.hid H1
                    clear H1
                    go_wp2_with fail
                    change bodyPost _ _ _ _ _ (sets (w1.setCell ⟨w.heap.size + 1 + 1, 3, none⟩ (.int .i64 x0)) w.heap.size 0 noOp)
                    have hS := (HH.out.set 3 (.int .i64 x0))
                    have eR := sets_at hS.res noOp rfl
                    have b9 := sets_below (a := w) (Nat.le_refl _) noOp _ 0 hS.below
                    generalize sets (w1.setCell ⟨w.heap.size + 1 + 1, 3, none⟩ (.int .i64 x0)) w.heap.size 0 noOp = y at *
                    have c0 := cell_blk eR 0
                    have c1 := cell_blk eR 1
                    have c2 := cell_blk eR 2
                    have c3 := cell_blk eR 3
                    have c4 := cell_blk eR 4
                    have c5 := cell_blk eR 5
                    have c6 := cell_blk eR 6
                    exact bodyPost_ret (v := _) (by simp [results, Tryd.results16, go_sem, c0, c1, c2, c3, c4, c5, c6] <;> rfl) rfl ⟨rfl, b9⟩
                · have u1 : decide ((a0 : Int) < (s.size : Int)) = false := decide_eq_false (by omega)
                  by_cases he : e0 = 0
                  · subst he
                    have hx : X = .ok ({ zeroT k with handle := x0 }) := by rw [HE.out]; unfold dEnd; rw [if_pos rfl, if_neg (by show ¬ a0 < (sb s).length; rw [sb_len]; exact hat)]
                    subst hx
                    have c0 := cell_blk H1.op 0
                    have c1 := cell_blk H1.op 1
                    have c2 := cell_blk H1.op 2
                    have c3 := cell_blk H1.op 3
                    have c4 := cell_blk H1.op 4
                    have c5 := cell_blk H1.op 5
                    have c6 := cell_blk H1.op 6
                    have z0 := cell_blk H1.non 0
                    have z1 := cell_blk H1.non 1
                    have z2 := cell_blk H1.non 2
                    have z3 := cell_blk H1.non 3
                    have z4 := cell_blk H1.non 4
                    have z5 := cell_blk H1.non 5
                    have z6 := cell_blk H1.non 6
                    have r0 := cell_blk H1.res 0
                    have r1 := cell_blk H1.res 1
                    have r2 := cell_blk H1.res 2
                    have r3 := cell_blk H1.res 3
                    have r4 := cell_blk H1.res 4
                    have r5 := cell_blk H1.res 5
                    have r6 := cell_blk H1.res 6
                    have fd := fun o => frozen_blk H1.op o
                    have fr := fun o => frozen_blk H1.res o
                    have HH := Lib.hid H1
                    clear H1
                    go_wp2_with fail
                    change bodyPost _ _ _ _ _ (sets (w1.setCell ⟨w.heap.size + 1 + 1, 3, none⟩ (.int .i64 x0)) w.heap.size 0 [bv k, .string ByteArray.empty, .string ByteArray.empty, .int .i64 x0, .int .i64 0, .int .i64 0, .slice none 0 0])
                    have hS := (HH.out.set 3 (.int .i64 x0))
                    have eR := sets_at hS.res [bv k, .string ByteArray.empty, .string ByteArray.empty, .int .i64 x0, .int .i64 0, .int .i64 0, .slice none 0 0] rfl
                    have b9 := sets_below (a := w) (Nat.le_refl _) [bv k, .string ByteArray.empty, .string ByteArray.empty, .int .i64 x0, .int .i64 0, .int .i64 0, .slice none 0 0] _ 0 hS.below
                    generalize sets (w1.setCell ⟨w.heap.size + 1 + 1, 3, none⟩ (.int .i64 x0)) w.heap.size 0 [bv k, .string ByteArray.empty, .string ByteArray.empty, .int .i64 x0, .int .i64 0, .int .i64 0, .slice none 0 0] = y at *
                    have c0 := cell_blk eR 0
                    have c1 := cell_blk eR 1
                    have c2 := cell_blk eR 2
                    have c3 := cell_blk eR 3
                    have c4 := cell_blk eR 4
                    have c5 := cell_blk eR 5
                    have c6 := cell_blk eR 6
                    exact bodyPost_ret (v := _) (by simp [results, Tryd.results16, go_sem, c0, c1, c2, c3, c4, c5, c6] <;> rfl) rfl ⟨_, rfl, ⟨_, _, _, rfl⟩, Sl.nil _ _, b9⟩
                  · have u2 : ((e0 : Int) == 0) = false := by rw [beq_eq_false_iff_ne]; omega
                    have hx : X = .error e0 := by rw [HE.out]; unfold dEnd; rw [if_neg he]
                    subst hx
                    have c0 := cell_blk H1.op 0
                    have c1 := cell_blk H1.op 1
                    have c2 := cell_blk H1.op 2
                    have c3 := cell_blk H1.op 3
                    have c4 := cell_blk H1.op 4
                    have c5 := cell_blk H1.op 5
                    have c6 := cell_blk H1.op 6
                    have z0 := cell_blk H1.non 0
                    have z1 := cell_blk H1.non 1
                    have z2 := cell_blk H1.non 2
                    have z3 := cell_blk H1.non 3
                    have z4 := cell_blk H1.non 4
                    have z5 := cell_blk H1.non 5
                    have z6 := cell_blk H1.non 6
                    have r0 := cell_blk H1.res 0
                    have r1 := cell_blk H1.res 1
                    have r2 := cell_blk H1.res 2
                    have r3 := cell_blk H1.res 3
                    have r4 := cell_blk H1.res 4
                    have r5 := cell_blk H1.res 5
                    have r6 := cell_blk H1.res 6
                    have fd := fun o => frozen_blk H1.op o
                    have fr := fun o => frozen_blk H1.res o
                    have HH := Lib.hid H1
                    clear H1
                    go_wp2_with fail
                    change bodyPost _ _ _ _ _ (sets (w1.setCell ⟨w.heap.size + 1 + 1, 3, none⟩ (.int .i64 x0)) w.heap.size 0 noOp)
                    have hS := (HH.out.set 3 (.int .i64 x0))
                    have eR := sets_at hS.res noOp rfl
                    have b9 := sets_below (a := w) (Nat.le_refl _) noOp _ 0 hS.below
                    generalize sets (w1.setCell ⟨w.heap.size + 1 + 1, 3, none⟩ (.int .i64 x0)) w.heap.size 0 noOp = y at *
                    have c0 := cell_blk eR 0
                    have c1 := cell_blk eR 1
                    have c2 := cell_blk eR 2
                    have c3 := cell_blk eR 3
                    have c4 := cell_blk eR 4
                    have c5 := cell_blk eR 5
                    have c6 := cell_blk eR 6
                    exact bodyPost_ret (v := _) (by simp [results, Tryd.results16, go_sem, c0, c1, c2, c3, c4, c5, c6] <;> rfl) rfl ⟨rfl, b9⟩
              · obtain ⟨ee1, ee2⟩ := Prod.mk.inj hc
                have GHK : ∀ W, Hid (Gives 22 #[bv k] W (.tuple #[i64 0, .bool true, .bool true, .bool true, .bool false])) := fun W => Lib.hid (by have := has_any k W; rw [ee1] at this; exact this)
                clear hc ee1
                obtain ⟨x0, a0, e0, g0⟩ : ∃ x a e, dNum (sb s) b 0 = (x, a, e) := ⟨_, _, _, rfl⟩
                have b0 := dNum_le (l := sb s) (a := b) (e := 0) (by rw [sb_len]; omega) (by omega)
                rw [g0, sb_len] at b0
                have b0 : a0 ≤ s.size ∧ e0 ≤ 5 := b0
                have G0 : ∀ W, Hid (Gives 26 #[.string s, i64 b, i64 0] W (.tuple #[i64 x0, i64 a0, i64 e0])) := fun W => Lib.hid (by have := dNum_any s b 0 W hm (by omega) (by omega); rw [g0] at this; exact this)
                obtain ⟨x1, a1, e1, g1⟩ : ∃ x a e, dNum (sb s) a0 e0 = (x, a, e) := ⟨_, _, _, rfl⟩
                have b1 := dNum_le (l := sb s) (a := a0) (e := e0) (by rw [sb_len]; omega) (by omega)
                rw [g1, sb_len] at b1
                have b1 : a1 ≤ s.size ∧ e1 ≤ 5 := b1
                have G1 : ∀ W, Hid (Gives 26 #[.string s, i64 a0, i64 e0] W (.tuple #[i64 x1, i64 a1, i64 e1])) := fun W => Lib.hid (by have := dNum_any s a0 e0 W hm (by omega) (by omega); rw [g1] at this; exact this)
                obtain ⟨x2, a2, e2, g2⟩ : ∃ x a e, dNum (sb s) a1 e1 = (x, a, e) := ⟨_, _, _, rfl⟩
                have b2 := dNum_le (l := sb s) (a := a1) (e := e1) (by rw [sb_len]; omega) (by omega)
                rw [g2, sb_len] at b2
                have b2 : a2 ≤ s.size ∧ e2 ≤ 5 := b2
                have G2 : ∀ W, Hid (Gives 26 #[.string s, i64 a1, i64 e1] W (.tuple #[i64 x2, i64 a2, i64 e2])) := fun W => Lib.hid (by have := dNum_any s a1 e1 W hm (by omega) (by omega); rw [g2] at this; exact this)
                have hX : X = dEnd (sb s) ({ zeroT k with handle := x0, from_ := x1, n := x2 }, a2, e2) := by
                  rw [HT.out, ee2]
                  simp [dParts, dPart, g0, g1, g2]
                have HE : Hid (X = dEnd (sb s) ({ zeroT k with handle := x0, from_ := x1, n := x2 }, a2, e2)) := Lib.hid hX
                clear hX HT g0 g1 g2
                have c0 := cell_blk HH.out.op 0
                have c1 := cell_blk HH.out.op 1
                have c2 := cell_blk HH.out.op 2
                have c3 := cell_blk HH.out.op 3
                have c4 := cell_blk HH.out.op 4
                have c5 := cell_blk HH.out.op 5
                have c6 := cell_blk HH.out.op 6
                have z0 := cell_blk HH.out.non 0
                have z1 := cell_blk HH.out.non 1
                have z2 := cell_blk HH.out.non 2
                have z3 := cell_blk HH.out.non 3
                have z4 := cell_blk HH.out.non 4
                have z5 := cell_blk HH.out.non 5
                have z6 := cell_blk HH.out.non 6
                have r0 := cell_blk HH.out.res 0
                have r1 := cell_blk HH.out.res 1
                have r2 := cell_blk HH.out.res 2
                have r3 := cell_blk HH.out.res 3
                have r4 := cell_blk HH.out.res 4
                have r5 := cell_blk HH.out.res 5
                have r6 := cell_blk HH.out.res 6
                have fd := fun o => frozen_blk HH.out.op o
                have fr := fun o => frozen_blk HH.out.res o
                go_wp2_with fail
                refine (GHK _).out.mono ?_; rintro q9 w9 ⟨rfl, hw9⟩
                have H9 := HH.out
                rw [← hw9] at H9
                clear HH hw9 c0 c1 c2 c3 c4 c5 c6 z0 z1 z2 z3 z4 z5 z6 r0 r1 r2 r3 r4 r5 r6 fd fr
                have c0 := cell_blk H9.op 0
                have c1 := cell_blk H9.op 1
                have c2 := cell_blk H9.op 2
                have c3 := cell_blk H9.op 3
                have c4 := cell_blk H9.op 4
                have c5 := cell_blk H9.op 5
                have c6 := cell_blk H9.op 6
                have z0 := cell_blk H9.non 0
                have z1 := cell_blk H9.non 1
                have z2 := cell_blk H9.non 2
                have z3 := cell_blk H9.non 3
                have z4 := cell_blk H9.non 4
                have z5 := cell_blk H9.non 5
                have z6 := cell_blk H9.non 6
                have r0 := cell_blk H9.res 0
                have r1 := cell_blk H9.res 1
                have r2 := cell_blk H9.res 2
                have r3 := cell_blk H9.res 3
                have r4 := cell_blk H9.res 4
                have r5 := cell_blk H9.res 5
                have r6 := cell_blk H9.res 6
                have fd := fun o => frozen_blk H9.op o
                have fr := fun o => frozen_blk H9.res o
                have HH := Lib.hid H9
                clear H9
                go_wp2_with fail
                refine (G0 _).out.mono ?_; rintro q0 w1 ⟨rfl, hw1⟩
                clear c0 c1 c2 c3 c4 c5 c6 z0 z1 z2 z3 z4 z5 z6 r0 r1 r2 r3 r4 r5 r6 fd fr
                have H1 : DpSt w #[bv k, .string ByteArray.empty, .string ByteArray.empty, .int .i64 0, .int .i64 0, .int .i64 0, .slice none 0 0] w1 := by rw [hw1]; exact HH.out
                clear HH hw1
                have c0 := cell_blk H1.op 0
                have c1 := cell_blk H1.op 1
                have c2 := cell_blk H1.op 2
                have c3 := cell_blk H1.op 3
                have c4 := cell_blk H1.op 4
                have c5 := cell_blk H1.op 5
                have c6 := cell_blk H1.op 6
                have z0 := cell_blk H1.non 0
                have z1 := cell_blk H1.non 1
                have z2 := cell_blk H1.non 2
                have z3 := cell_blk H1.non 3
                have z4 := cell_blk H1.non 4
                have z5 := cell_blk H1.non 5
                have z6 := cell_blk H1.non 6
                have r0 := cell_blk H1.res 0
                have r1 := cell_blk H1.res 1
                have r2 := cell_blk H1.res 2
                have r3 := cell_blk H1.res 3
                have r4 := cell_blk H1.res 4
                have r5 := cell_blk H1.res 5
                have r6 := cell_blk H1.res 6
                have fd := fun o => frozen_blk H1.op o
                have fr := fun o => frozen_blk H1.res o
                have HH := Lib.hid H1
                clear H1
                go_wp2_with fail
                refine (G1 _).out.mono ?_; rintro q1 w2 ⟨rfl, hw2⟩
                clear c0 c1 c2 c3 c4 c5 c6 z0 z1 z2 z3 z4 z5 z6 r0 r1 r2 r3 r4 r5 r6 fd fr
                have H2 : DpSt w #[bv k, .string ByteArray.empty, .string ByteArray.empty, .int .i64 x0, .int .i64 0, .int .i64 0, .slice none 0 0] w2 := by rw [hw2]; exact HH.out.set 3 (.int .i64 x0)
                clear HH hw2
                have c0 := cell_blk H2.op 0
                have c1 := cell_blk H2.op 1
                have c2 := cell_blk H2.op 2
                have c3 := cell_blk H2.op 3
                have c4 := cell_blk H2.op 4
                have c5 := cell_blk H2.op 5
                have c6 := cell_blk H2.op 6
                have z0 := cell_blk H2.non 0
                have z1 := cell_blk H2.non 1
                have z2 := cell_blk H2.non 2
                have z3 := cell_blk H2.non 3
                have z4 := cell_blk H2.non 4
                have z5 := cell_blk H2.non 5
                have z6 := cell_blk H2.non 6
                have r0 := cell_blk H2.res 0
                have r1 := cell_blk H2.res 1
                have r2 := cell_blk H2.res 2
                have r3 := cell_blk H2.res 3
                have r4 := cell_blk H2.res 4
                have r5 := cell_blk H2.res 5
                have r6 := cell_blk H2.res 6
                have fd := fun o => frozen_blk H2.op o
                have fr := fun o => frozen_blk H2.res o
                have HH := Lib.hid H2
                clear H2
                go_wp2_with fail
                refine (G2 _).out.mono ?_; rintro q2 w3 ⟨rfl, hw3⟩
                clear c0 c1 c2 c3 c4 c5 c6 z0 z1 z2 z3 z4 z5 z6 r0 r1 r2 r3 r4 r5 r6 fd fr
                have H3 : DpSt w #[bv k, .string ByteArray.empty, .string ByteArray.empty, .int .i64 x0, .int .i64 x1, .int .i64 0, .slice none 0 0] w3 := by rw [hw3]; exact HH.out.set 4 (.int .i64 x1)
                clear HH hw3
                by_cases hat : a2 < s.size
                · have u1 : decide ((a2 : Int) < (s.size : Int)) = true := decide_eq_true (by omega)
                  by_cases he : e2 = 0
                  · subst he
                    have hx : X = .error 2 := by rw [HE.out]; unfold dEnd; rw [if_pos rfl, if_pos (by show a2 < (sb s).length; rw [sb_len]; exact hat)]
                    subst hx
                    have c0 := cell_blk H3.op 0
                    have c1 := cell_blk H3.op 1
                    have c2 := cell_blk H3.op 2
                    have c3 := cell_blk H3.op 3
                    have c4 := cell_blk H3.op 4
                    have c5 := cell_blk H3.op 5
                    have c6 := cell_blk H3.op 6
                    have z0 := cell_blk H3.non 0
                    have z1 := cell_blk H3.non 1
                    have z2 := cell_blk H3.non 2
                    have z3 := cell_blk H3.non 3
                    have z4 := cell_blk H3.non 4
                    have z5 := cell_blk H3.non 5
                    have z6 := cell_blk H3.non 6
                    have r0 := cell_blk H3.res 0
                    have r1 := cell_blk H3.res 1
                    have r2 := cell_blk H3.res 2
                    have r3 := cell_blk H3.res 3
                    have r4 := cell_blk H3.res 4
                    have r5 := cell_blk H3.res 5
                    have r6 := cell_blk H3.res 6
                    have fd := fun o => frozen_blk H3.op o
                    have fr := fun o => frozen_blk H3.res o
                    have HH := Lib.hid H3
                    clear H3
                    go_wp2_with fail
                    change bodyPost _ _ _ _ _ (sets (w3.setCell ⟨w.heap.size + 1 + 1, 5, none⟩ (.int .i64 x2)) w.heap.size 0 noOp)
                    have hS := (HH.out.set 5 (.int .i64 x2))
                    have eR := sets_at hS.res noOp rfl
                    have b9 := sets_below (a := w) (Nat.le_refl _) noOp _ 0 hS.below
                    generalize sets (w3.setCell ⟨w.heap.size + 1 + 1, 5, none⟩ (.int .i64 x2)) w.heap.size 0 noOp = y at *
                    have c0 := cell_blk eR 0
                    have c1 := cell_blk eR 1
                    have c2 := cell_blk eR 2
                    have c3 := cell_blk eR 3
                    have c4 := cell_blk eR 4
                    have c5 := cell_blk eR 5
                    have c6 := cell_blk eR 6
                    exact bodyPost_ret (v := _) (by simp [results, Tryd.results16, go_sem, c0, c1, c2, c3, c4, c5, c6] <;> rfl) rfl ⟨rfl, b9⟩
                  · have u2 : ((e2 : Int) == 0) = false := by rw [beq_eq_false_iff_ne]; omega
                    have hx : X = .error e2 := by rw [HE.out]; unfold dEnd; rw [if_neg he]
                    subst hx
                    have c0 := cell_blk H3.op 0
                    have c1 := cell_blk H3.op 1
                    have c2 := cell_blk H3.op 2
                    have c3 := cell_blk H3.op 3
                    have c4 := cell_blk H3.op 4
                    have c5 := cell_blk H3.op 5
                    have c6 := cell_blk H3.op 6
                    have z0 := cell_blk H3.non 0
                    have z1 := cell_blk H3.non 1
                    have z2 := cell_blk H3.non 2
                    have z3 := cell_blk H3.non 3
                    have z4 := cell_blk H3.non 4
                    have z5 := cell_blk H3.non 5
                    have z6 := cell_blk H3.non 6
                    have r0 := cell_blk H3.res 0
                    have r1 := cell_blk H3.res 1
                    have r2 := cell_blk H3.res 2
                    have r3 := cell_blk H3.res 3
                    have r4 := cell_blk H3.res 4
                    have r5 := cell_blk H3.res 5
                    have r6 := cell_blk H3.res 6
                    have fd := fun o => frozen_blk H3.op o
                    have fr := fun o => frozen_blk H3.res o
                    have HH := Lib.hid H3
                    clear H3
                    go_wp2_with fail
                    change bodyPost _ _ _ _ _ (sets (w3.setCell ⟨w.heap.size + 1 + 1, 5, none⟩ (.int .i64 x2)) w.heap.size 0 noOp)
                    have hS := (HH.out.set 5 (.int .i64 x2))
                    have eR := sets_at hS.res noOp rfl
                    have b9 := sets_below (a := w) (Nat.le_refl _) noOp _ 0 hS.below
                    generalize sets (w3.setCell ⟨w.heap.size + 1 + 1, 5, none⟩ (.int .i64 x2)) w.heap.size 0 noOp = y at *
                    have c0 := cell_blk eR 0
                    have c1 := cell_blk eR 1
                    have c2 := cell_blk eR 2
                    have c3 := cell_blk eR 3
                    have c4 := cell_blk eR 4
                    have c5 := cell_blk eR 5
                    have c6 := cell_blk eR 6
                    exact bodyPost_ret (v := _) (by simp [results, Tryd.results16, go_sem, c0, c1, c2, c3, c4, c5, c6] <;> rfl) rfl ⟨rfl, b9⟩
                · have u1 : decide ((a2 : Int) < (s.size : Int)) = false := decide_eq_false (by omega)
                  by_cases he : e2 = 0
                  · subst he
                    have hx : X = .ok ({ zeroT k with handle := x0, from_ := x1, n := x2 }) := by rw [HE.out]; unfold dEnd; rw [if_pos rfl, if_neg (by show ¬ a2 < (sb s).length; rw [sb_len]; exact hat)]
                    subst hx
                    have c0 := cell_blk H3.op 0
                    have c1 := cell_blk H3.op 1
                    have c2 := cell_blk H3.op 2
                    have c3 := cell_blk H3.op 3
                    have c4 := cell_blk H3.op 4
                    have c5 := cell_blk H3.op 5
                    have c6 := cell_blk H3.op 6
                    have z0 := cell_blk H3.non 0
                    have z1 := cell_blk H3.non 1
                    have z2 := cell_blk H3.non 2
                    have z3 := cell_blk H3.non 3
                    have z4 := cell_blk H3.non 4
                    have z5 := cell_blk H3.non 5
                    have z6 := cell_blk H3.non 6
                    have r0 := cell_blk H3.res 0
                    have r1 := cell_blk H3.res 1
                    have r2 := cell_blk H3.res 2
                    have r3 := cell_blk H3.res 3
                    have r4 := cell_blk H3.res 4
                    have r5 := cell_blk H3.res 5
                    have r6 := cell_blk H3.res 6
                    have fd := fun o => frozen_blk H3.op o
                    have fr := fun o => frozen_blk H3.res o
                    have HH := Lib.hid H3
                    clear H3
                    go_wp2_with fail
                    change bodyPost _ _ _ _ _ (sets (w3.setCell ⟨w.heap.size + 1 + 1, 5, none⟩ (.int .i64 x2)) w.heap.size 0 [bv k, .string ByteArray.empty, .string ByteArray.empty, .int .i64 x0, .int .i64 x1, .int .i64 x2, .slice none 0 0])
                    have hS := (HH.out.set 5 (.int .i64 x2))
                    have eR := sets_at hS.res [bv k, .string ByteArray.empty, .string ByteArray.empty, .int .i64 x0, .int .i64 x1, .int .i64 x2, .slice none 0 0] rfl
                    have b9 := sets_below (a := w) (Nat.le_refl _) [bv k, .string ByteArray.empty, .string ByteArray.empty, .int .i64 x0, .int .i64 x1, .int .i64 x2, .slice none 0 0] _ 0 hS.below
                    generalize sets (w3.setCell ⟨w.heap.size + 1 + 1, 5, none⟩ (.int .i64 x2)) w.heap.size 0 [bv k, .string ByteArray.empty, .string ByteArray.empty, .int .i64 x0, .int .i64 x1, .int .i64 x2, .slice none 0 0] = y at *
                    have c0 := cell_blk eR 0
                    have c1 := cell_blk eR 1
                    have c2 := cell_blk eR 2
                    have c3 := cell_blk eR 3
                    have c4 := cell_blk eR 4
                    have c5 := cell_blk eR 5
                    have c6 := cell_blk eR 6
                    exact bodyPost_ret (v := _) (by simp [results, Tryd.results16, go_sem, c0, c1, c2, c3, c4, c5, c6] <;> rfl) rfl ⟨_, rfl, ⟨_, _, _, rfl⟩, Sl.nil _ _, b9⟩
                  · have u2 : ((e2 : Int) == 0) = false := by rw [beq_eq_false_iff_ne]; omega
                    have hx : X = .error e2 := by rw [HE.out]; unfold dEnd; rw [if_neg he]
                    subst hx
                    have c0 := cell_blk H3.op 0
                    have c1 := cell_blk H3.op 1
                    have c2 := cell_blk H3.op 2
                    have c3 := cell_blk H3.op 3
                    have c4 := cell_blk H3.op 4
                    have c5 := cell_blk H3.op 5
                    have c6 := cell_blk H3.op 6
                    have z0 := cell_blk H3.non 0
                    have z1 := cell_blk H3.non 1
                    have z2 := cell_blk H3.non 2
                    have z3 := cell_blk H3.non 3
                    have z4 := cell_blk H3.non 4
                    have z5 := cell_blk H3.non 5
                    have z6 := cell_blk H3.non 6
                    have r0 := cell_blk H3.res 0
                    have r1 := cell_blk H3.res 1
                    have r2 := cell_blk H3.res 2
                    have r3 := cell_blk H3.res 3
                    have r4 := cell_blk H3.res 4
                    have r5 := cell_blk H3.res 5
                    have r6 := cell_blk H3.res 6
                    have fd := fun o => frozen_blk H3.op o
                    have fr := fun o => frozen_blk H3.res o
                    have HH := Lib.hid H3
                    clear H3
                    go_wp2_with fail
                    change bodyPost _ _ _ _ _ (sets (w3.setCell ⟨w.heap.size + 1 + 1, 5, none⟩ (.int .i64 x2)) w.heap.size 0 noOp)
                    have hS := (HH.out.set 5 (.int .i64 x2))
                    have eR := sets_at hS.res noOp rfl
                    have b9 := sets_below (a := w) (Nat.le_refl _) noOp _ 0 hS.below
                    generalize sets (w3.setCell ⟨w.heap.size + 1 + 1, 5, none⟩ (.int .i64 x2)) w.heap.size 0 noOp = y at *
                    have c0 := cell_blk eR 0
                    have c1 := cell_blk eR 1
                    have c2 := cell_blk eR 2
                    have c3 := cell_blk eR 3
                    have c4 := cell_blk eR 4
                    have c5 := cell_blk eR 5
                    have c6 := cell_blk eR 6
                    exact bodyPost_ret (v := _) (by simp [results, Tryd.results16, go_sem, c0, c1, c2, c3, c4, c5, c6] <;> rfl) rfl ⟨rfl, b9⟩
              · obtain ⟨ee1, ee2⟩ := Prod.mk.inj hc
                have GHK : ∀ W, Hid (Gives 22 #[bv k] W (.tuple #[i64 0, .bool true, .bool true, .bool false, .bool true])) := fun W => Lib.hid (by have := has_any k W; rw [ee1] at this; exact this)
                clear hc ee1
                obtain ⟨x0, a0, e0, g0⟩ : ∃ x a e, dNum (sb s) b 0 = (x, a, e) := ⟨_, _, _, rfl⟩
                have b0 := dNum_le (l := sb s) (a := b) (e := 0) (by rw [sb_len]; omega) (by omega)
                rw [g0, sb_len] at b0
                have b0 : a0 ≤ s.size ∧ e0 ≤ 5 := b0
                have G0 : ∀ W, Hid (Gives 26 #[.string s, i64 b, i64 0] W (.tuple #[i64 x0, i64 a0, i64 e0])) := fun W => Lib.hid (by have := dNum_any s b 0 W hm (by omega) (by omega); rw [g0] at this; exact this)
                obtain ⟨x1, a1, e1, g1⟩ : ∃ x a e, dNum (sb s) a0 e0 = (x, a, e) := ⟨_, _, _, rfl⟩
                have b1 := dNum_le (l := sb s) (a := a0) (e := e0) (by rw [sb_len]; omega) (by omega)
                rw [g1, sb_len] at b1
                have b1 : a1 ≤ s.size ∧ e1 ≤ 5 := b1
                have G1 : ∀ W, Hid (Gives 26 #[.string s, i64 a0, i64 e0] W (.tuple #[i64 x1, i64 a1, i64 e1])) := fun W => Lib.hid (by have := dNum_any s a0 e0 W hm (by omega) (by omega); rw [g1] at this; exact this)
                obtain ⟨x2, a2, e2, g2⟩ : ∃ x a e, dText (sb s) a1 e1 = (x, a, e) := ⟨_, _, _, rfl⟩
                have b2 := dText_le (l := sb s) (a := a1) (e := e1) (by rw [sb_len]; omega) (by omega)
                rw [g2, sb_len] at b2
                have b2 : a2 ≤ s.size ∧ e2 ≤ 5 := b2
                have G2 : ∀ W, Hid (Makes 25 #[.string s, i64 a1, i64 e1] W (.tuple #[.string (toB x2), i64 a2, i64 e2])) := fun W => Lib.hid (by have := dText_any s a1 e1 W hm (by omega) (by omega); rw [g2] at this; exact this)
                have hX : X = dEnd (sb s) ({ zeroT k with handle := x0, from_ := x1, data := x2 }, a2, e2) := by
                  rw [HT.out, ee2]
                  simp [dParts, dPart, g0, g1, g2]
                have HE : Hid (X = dEnd (sb s) ({ zeroT k with handle := x0, from_ := x1, data := x2 }, a2, e2)) := Lib.hid hX
                have HD : Hid (x2.length ≤ 60000 ∧ ∀ b ∈ x2, b < 256) := Lib.hid (by have := dText_fit (sb_lt s) a1 e1; rw [g2, sb_len] at this; exact ⟨by have h9 : x2.length ≤ s.size := this.1; omega, this.2⟩)
                clear hX HT g0 g1 g2
                have c0 := cell_blk HH.out.op 0
                have c1 := cell_blk HH.out.op 1
                have c2 := cell_blk HH.out.op 2
                have c3 := cell_blk HH.out.op 3
                have c4 := cell_blk HH.out.op 4
                have c5 := cell_blk HH.out.op 5
                have c6 := cell_blk HH.out.op 6
                have z0 := cell_blk HH.out.non 0
                have z1 := cell_blk HH.out.non 1
                have z2 := cell_blk HH.out.non 2
                have z3 := cell_blk HH.out.non 3
                have z4 := cell_blk HH.out.non 4
                have z5 := cell_blk HH.out.non 5
                have z6 := cell_blk HH.out.non 6
                have r0 := cell_blk HH.out.res 0
                have r1 := cell_blk HH.out.res 1
                have r2 := cell_blk HH.out.res 2
                have r3 := cell_blk HH.out.res 3
                have r4 := cell_blk HH.out.res 4
                have r5 := cell_blk HH.out.res 5
                have r6 := cell_blk HH.out.res 6
                have fd := fun o => frozen_blk HH.out.op o
                have fr := fun o => frozen_blk HH.out.res o
                go_wp2_with fail
                refine (GHK _).out.mono ?_; rintro q9 w9 ⟨rfl, hw9⟩
                have H9 := HH.out
                rw [← hw9] at H9
                clear HH hw9 c0 c1 c2 c3 c4 c5 c6 z0 z1 z2 z3 z4 z5 z6 r0 r1 r2 r3 r4 r5 r6 fd fr
                have c0 := cell_blk H9.op 0
                have c1 := cell_blk H9.op 1
                have c2 := cell_blk H9.op 2
                have c3 := cell_blk H9.op 3
                have c4 := cell_blk H9.op 4
                have c5 := cell_blk H9.op 5
                have c6 := cell_blk H9.op 6
                have z0 := cell_blk H9.non 0
                have z1 := cell_blk H9.non 1
                have z2 := cell_blk H9.non 2
                have z3 := cell_blk H9.non 3
                have z4 := cell_blk H9.non 4
                have z5 := cell_blk H9.non 5
                have z6 := cell_blk H9.non 6
                have r0 := cell_blk H9.res 0
                have r1 := cell_blk H9.res 1
                have r2 := cell_blk H9.res 2
                have r3 := cell_blk H9.res 3
                have r4 := cell_blk H9.res 4
                have r5 := cell_blk H9.res 5
                have r6 := cell_blk H9.res 6
                have fd := fun o => frozen_blk H9.op o
                have fr := fun o => frozen_blk H9.res o
                have HH := Lib.hid H9
                clear H9
                go_wp2_with fail
                refine (G0 _).out.mono ?_; rintro q0 w1 ⟨rfl, hw1⟩
                clear c0 c1 c2 c3 c4 c5 c6 z0 z1 z2 z3 z4 z5 z6 r0 r1 r2 r3 r4 r5 r6 fd fr
                have H1 : DpSt w #[bv k, .string ByteArray.empty, .string ByteArray.empty, .int .i64 0, .int .i64 0, .int .i64 0, .slice none 0 0] w1 := by rw [hw1]; exact HH.out
                clear HH hw1
                have c0 := cell_blk H1.op 0
                have c1 := cell_blk H1.op 1
                have c2 := cell_blk H1.op 2
                have c3 := cell_blk H1.op 3
                have c4 := cell_blk H1.op 4
                have c5 := cell_blk H1.op 5
                have c6 := cell_blk H1.op 6
                have z0 := cell_blk H1.non 0
                have z1 := cell_blk H1.non 1
                have z2 := cell_blk H1.non 2
                have z3 := cell_blk H1.non 3
                have z4 := cell_blk H1.non 4
                have z5 := cell_blk H1.non 5
                have z6 := cell_blk H1.non 6
                have r0 := cell_blk H1.res 0
                have r1 := cell_blk H1.res 1
                have r2 := cell_blk H1.res 2
                have r3 := cell_blk H1.res 3
                have r4 := cell_blk H1.res 4
                have r5 := cell_blk H1.res 5
                have r6 := cell_blk H1.res 6
                have fd := fun o => frozen_blk H1.op o
                have fr := fun o => frozen_blk H1.res o
                have HH := Lib.hid H1
                clear H1
                go_wp2_with fail
                refine (G1 _).out.mono ?_; rintro q1 w2 ⟨rfl, hw2⟩
                clear c0 c1 c2 c3 c4 c5 c6 z0 z1 z2 z3 z4 z5 z6 r0 r1 r2 r3 r4 r5 r6 fd fr
                have H2 : DpSt w #[bv k, .string ByteArray.empty, .string ByteArray.empty, .int .i64 x0, .int .i64 0, .int .i64 0, .slice none 0 0] w2 := by rw [hw2]; exact HH.out.set 3 (.int .i64 x0)
                clear HH hw2
                have c0 := cell_blk H2.op 0
                have c1 := cell_blk H2.op 1
                have c2 := cell_blk H2.op 2
                have c3 := cell_blk H2.op 3
                have c4 := cell_blk H2.op 4
                have c5 := cell_blk H2.op 5
                have c6 := cell_blk H2.op 6
                have z0 := cell_blk H2.non 0
                have z1 := cell_blk H2.non 1
                have z2 := cell_blk H2.non 2
                have z3 := cell_blk H2.non 3
                have z4 := cell_blk H2.non 4
                have z5 := cell_blk H2.non 5
                have z6 := cell_blk H2.non 6
                have r0 := cell_blk H2.res 0
                have r1 := cell_blk H2.res 1
                have r2 := cell_blk H2.res 2
                have r3 := cell_blk H2.res 3
                have r4 := cell_blk H2.res 4
                have r5 := cell_blk H2.res 5
                have r6 := cell_blk H2.res 6
                have fd := fun o => frozen_blk H2.op o
                have fr := fun o => frozen_blk H2.res o
                have HH := Lib.hid H2
                clear H2
                go_wp2_with fail
                refine (G2 _).out.mono ?_; rintro q2 w3 ⟨rfl, hb3⟩
                clear c0 c1 c2 c3 c4 c5 c6 z0 z1 z2 z3 z4 z5 z6 r0 r1 r2 r3 r4 r5 r6 fd fr
                have H3 : DpSt w #[bv k, .string ByteArray.empty, .string ByteArray.empty, .int .i64 x0, .int .i64 x1, .int .i64 0, .slice none 0 0] w3 := (HH.out.set 4 (.int .i64 x1)).on hb3
                clear HH hb3
                obtain ⟨v9, wv, hcv, hsl, hyb, hbv⟩ := conv_bytes x2 HD.out.2 HD.out.1 w3
                have hz9 := (Array.getElem?_eq_some_iff.1 (H3).op).1
                have HV := (H3).on hbv
                obtain ⟨A9, n9, k9, rfl⟩ := hsl
                by_cases hat : a2 < s.size
                · have u1 : decide ((a2 : Int) < (s.size : Int)) = true := decide_eq_true (by omega)
                  by_cases he : e2 = 0
                  · subst he
                    have hx : X = .error 2 := by rw [HE.out]; unfold dEnd; rw [if_pos rfl, if_pos (by show a2 < (sb s).length; rw [sb_len]; exact hat)]
                    subst hx
                    have c0 := cell_blk HV.op 0
                    have c1 := cell_blk HV.op 1
                    have c2 := cell_blk HV.op 2
                    have c3 := cell_blk HV.op 3
                    have c4 := cell_blk HV.op 4
                    have c5 := cell_blk HV.op 5
                    have c6 := cell_blk HV.op 6
                    have z0 := cell_blk HV.non 0
                    have z1 := cell_blk HV.non 1
                    have z2 := cell_blk HV.non 2
                    have z3 := cell_blk HV.non 3
                    have z4 := cell_blk HV.non 4
                    have z5 := cell_blk HV.non 5
                    have z6 := cell_blk HV.non 6
                    have r0 := cell_blk HV.res 0
                    have r1 := cell_blk HV.res 1
                    have r2 := cell_blk HV.res 2
                    have r3 := cell_blk HV.res 3
                    have r4 := cell_blk HV.res 4
                    have r5 := cell_blk HV.res 5
                    have r6 := cell_blk HV.res 6
                    have fd := fun o => frozen_blk HV.op o
                    have fr := fun o => frozen_blk HV.res o
                    have HH := Lib.hid HV
                    have HYB := Lib.hid hyb
                    clear HV H3 hbv hyb
                    go_wp2_with fail
                    change bodyPost _ _ _ _ _ (sets (wv.setCell ⟨w.heap.size + 1 + 1, 6, none⟩ (.slice A9 n9 k9)) w.heap.size 0 noOp)
                    have hS := (HH.out.set 6 (.slice A9 n9 k9))
                    have eR := sets_at hS.res noOp rfl
                    have b9 := sets_below (a := w) (Nat.le_refl _) noOp _ 0 hS.below
                    generalize sets (wv.setCell ⟨w.heap.size + 1 + 1, 6, none⟩ (.slice A9 n9 k9)) w.heap.size 0 noOp = y at *
                    have c0 := cell_blk eR 0
                    have c1 := cell_blk eR 1
                    have c2 := cell_blk eR 2
                    have c3 := cell_blk eR 3
                    have c4 := cell_blk eR 4
                    have c5 := cell_blk eR 5
                    have c6 := cell_blk eR 6
                    exact bodyPost_ret (v := _) (by simp [results, Tryd.results16, go_sem, c0, c1, c2, c3, c4, c5, c6] <;> rfl) rfl ⟨rfl, b9⟩
                  · have u2 : ((e2 : Int) == 0) = false := by rw [beq_eq_false_iff_ne]; omega
                    have hx : X = .error e2 := by rw [HE.out]; unfold dEnd; rw [if_neg he]
                    subst hx
                    have c0 := cell_blk HV.op 0
                    have c1 := cell_blk HV.op 1
                    have c2 := cell_blk HV.op 2
                    have c3 := cell_blk HV.op 3
                    have c4 := cell_blk HV.op 4
                    have c5 := cell_blk HV.op 5
                    have c6 := cell_blk HV.op 6
                    have z0 := cell_blk HV.non 0
                    have z1 := cell_blk HV.non 1
                    have z2 := cell_blk HV.non 2
                    have z3 := cell_blk HV.non 3
                    have z4 := cell_blk HV.non 4
                    have z5 := cell_blk HV.non 5
                    have z6 := cell_blk HV.non 6
                    have r0 := cell_blk HV.res 0
                    have r1 := cell_blk HV.res 1
                    have r2 := cell_blk HV.res 2
                    have r3 := cell_blk HV.res 3
                    have r4 := cell_blk HV.res 4
                    have r5 := cell_blk HV.res 5
                    have r6 := cell_blk HV.res 6
                    have fd := fun o => frozen_blk HV.op o
                    have fr := fun o => frozen_blk HV.res o
                    have HH := Lib.hid HV
                    have HYB := Lib.hid hyb
                    clear HV H3 hbv hyb
                    go_wp2_with fail
                    change bodyPost _ _ _ _ _ (sets (wv.setCell ⟨w.heap.size + 1 + 1, 6, none⟩ (.slice A9 n9 k9)) w.heap.size 0 noOp)
                    have hS := (HH.out.set 6 (.slice A9 n9 k9))
                    have eR := sets_at hS.res noOp rfl
                    have b9 := sets_below (a := w) (Nat.le_refl _) noOp _ 0 hS.below
                    generalize sets (wv.setCell ⟨w.heap.size + 1 + 1, 6, none⟩ (.slice A9 n9 k9)) w.heap.size 0 noOp = y at *
                    have c0 := cell_blk eR 0
                    have c1 := cell_blk eR 1
                    have c2 := cell_blk eR 2
                    have c3 := cell_blk eR 3
                    have c4 := cell_blk eR 4
                    have c5 := cell_blk eR 5
                    have c6 := cell_blk eR 6
                    exact bodyPost_ret (v := _) (by simp [results, Tryd.results16, go_sem, c0, c1, c2, c3, c4, c5, c6] <;> rfl) rfl ⟨rfl, b9⟩
                · have u1 : decide ((a2 : Int) < (s.size : Int)) = false := decide_eq_false (by omega)
                  by_cases he : e2 = 0
                  · subst he
                    have hx : X = .ok ({ zeroT k with handle := x0, from_ := x1, data := x2 }) := by rw [HE.out]; unfold dEnd; rw [if_pos rfl, if_neg (by show ¬ a2 < (sb s).length; rw [sb_len]; exact hat)]
                    subst hx
                    have c0 := cell_blk HV.op 0
                    have c1 := cell_blk HV.op 1
                    have c2 := cell_blk HV.op 2
                    have c3 := cell_blk HV.op 3
                    have c4 := cell_blk HV.op 4
                    have c5 := cell_blk HV.op 5
                    have c6 := cell_blk HV.op 6
                    have z0 := cell_blk HV.non 0
                    have z1 := cell_blk HV.non 1
                    have z2 := cell_blk HV.non 2
                    have z3 := cell_blk HV.non 3
                    have z4 := cell_blk HV.non 4
                    have z5 := cell_blk HV.non 5
                    have z6 := cell_blk HV.non 6
                    have r0 := cell_blk HV.res 0
                    have r1 := cell_blk HV.res 1
                    have r2 := cell_blk HV.res 2
                    have r3 := cell_blk HV.res 3
                    have r4 := cell_blk HV.res 4
                    have r5 := cell_blk HV.res 5
                    have r6 := cell_blk HV.res 6
                    have fd := fun o => frozen_blk HV.op o
                    have fr := fun o => frozen_blk HV.res o
                    have HH := Lib.hid HV
                    have HYB := Lib.hid hyb
                    clear HV H3 hbv hyb
                    go_wp2_with fail
                    change bodyPost _ _ _ _ _ (sets (wv.setCell ⟨w.heap.size + 1 + 1, 6, none⟩ (.slice A9 n9 k9)) w.heap.size 0 [bv k, .string ByteArray.empty, .string ByteArray.empty, .int .i64 x0, .int .i64 x1, .int .i64 0, .slice A9 n9 k9])
                    have hS := (HH.out.set 6 (.slice A9 n9 k9))
                    have eR := sets_at hS.res [bv k, .string ByteArray.empty, .string ByteArray.empty, .int .i64 x0, .int .i64 x1, .int .i64 0, .slice A9 n9 k9] rfl
                    have b9 := sets_below (a := w) (Nat.le_refl _) [bv k, .string ByteArray.empty, .string ByteArray.empty, .int .i64 x0, .int .i64 x1, .int .i64 0, .slice A9 n9 k9] _ 0 hS.below
                    have y9 := HYB.out (sets (wv.setCell ⟨w.heap.size + 1 + 1, 6, none⟩ (.slice A9 n9 k9)) w.heap.size 0 [bv k, .string ByteArray.empty, .string ByteArray.empty, .int .i64 x0, .int .i64 x1, .int .i64 0, .slice A9 n9 k9]) (fun o ho => sets_old (by omega) _ _ _ (blk_set ho _ _ (by omega)))
                    generalize sets (wv.setCell ⟨w.heap.size + 1 + 1, 6, none⟩ (.slice A9 n9 k9)) w.heap.size 0 [bv k, .string ByteArray.empty, .string ByteArray.empty, .int .i64 x0, .int .i64 x1, .int .i64 0, .slice A9 n9 k9] = y at *
                    have c0 := cell_blk eR 0
                    have c1 := cell_blk eR 1
                    have c2 := cell_blk eR 2
                    have c3 := cell_blk eR 3
                    have c4 := cell_blk eR 4
                    have c5 := cell_blk eR 5
                    have c6 := cell_blk eR 6
                    exact bodyPost_ret (v := _) (by simp [results, Tryd.results16, go_sem, c0, c1, c2, c3, c4, c5, c6] <;> rfl) rfl ⟨_, rfl, ⟨_, _, _, rfl⟩, y9, b9⟩
                  · have u2 : ((e2 : Int) == 0) = false := by rw [beq_eq_false_iff_ne]; omega
                    have hx : X = .error e2 := by rw [HE.out]; unfold dEnd; rw [if_neg he]
                    subst hx
                    have c0 := cell_blk HV.op 0
                    have c1 := cell_blk HV.op 1
                    have c2 := cell_blk HV.op 2
                    have c3 := cell_blk HV.op 3
                    have c4 := cell_blk HV.op 4
                    have c5 := cell_blk HV.op 5
                    have c6 := cell_blk HV.op 6
                    have z0 := cell_blk HV.non 0
                    have z1 := cell_blk HV.non 1
                    have z2 := cell_blk HV.non 2
                    have z3 := cell_blk HV.non 3
                    have z4 := cell_blk HV.non 4
                    have z5 := cell_blk HV.non 5
                    have z6 := cell_blk HV.non 6
                    have r0 := cell_blk HV.res 0
                    have r1 := cell_blk HV.res 1
                    have r2 := cell_blk HV.res 2
                    have r3 := cell_blk HV.res 3
                    have r4 := cell_blk HV.res 4
                    have r5 := cell_blk HV.res 5
                    have r6 := cell_blk HV.res 6
                    have fd := fun o => frozen_blk HV.op o
                    have fr := fun o => frozen_blk HV.res o
                    have HH := Lib.hid HV
                    have HYB := Lib.hid hyb
                    clear HV H3 hbv hyb
                    go_wp2_with fail
                    change bodyPost _ _ _ _ _ (sets (wv.setCell ⟨w.heap.size + 1 + 1, 6, none⟩ (.slice A9 n9 k9)) w.heap.size 0 noOp)
                    have hS := (HH.out.set 6 (.slice A9 n9 k9))
                    have eR := sets_at hS.res noOp rfl
                    have b9 := sets_below (a := w) (Nat.le_refl _) noOp _ 0 hS.below
                    generalize sets (wv.setCell ⟨w.heap.size + 1 + 1, 6, none⟩ (.slice A9 n9 k9)) w.heap.size 0 noOp = y at *
                    have c0 := cell_blk eR 0
                    have c1 := cell_blk eR 1
                    have c2 := cell_blk eR 2
                    have c3 := cell_blk eR 3
                    have c4 := cell_blk eR 4
                    have c5 := cell_blk eR 5
                    have c6 := cell_blk eR 6
                    exact bodyPost_ret (v := _) (by simp [results, Tryd.results16, go_sem, c0, c1, c2, c3, c4, c5, c6] <;> rfl) rfl ⟨rfl, b9⟩
              · obtain ⟨ee1, ee2⟩ := Prod.mk.inj hc
                have GHK : ∀ W, Hid (Gives 22 #[bv k] W (.tuple #[i64 0, .bool true, .bool false, .bool true, .bool false])) := fun W => Lib.hid (by have := has_any k W; rw [ee1] at this; exact this)
                clear hc ee1
                obtain ⟨x0, a0, e0, g0⟩ : ∃ x a e, dNum (sb s) b 0 = (x, a, e) := ⟨_, _, _, rfl⟩
                have b0 := dNum_le (l := sb s) (a := b) (e := 0) (by rw [sb_len]; omega) (by omega)
                rw [g0, sb_len] at b0
                have b0 : a0 ≤ s.size ∧ e0 ≤ 5 := b0
                have G0 : ∀ W, Hid (Gives 26 #[.string s, i64 b, i64 0] W (.tuple #[i64 x0, i64 a0, i64 e0])) := fun W => Lib.hid (by have := dNum_any s b 0 W hm (by omega) (by omega); rw [g0] at this; exact this)
                obtain ⟨x1, a1, e1, g1⟩ : ∃ x a e, dNum (sb s) a0 e0 = (x, a, e) := ⟨_, _, _, rfl⟩
                have b1 := dNum_le (l := sb s) (a := a0) (e := e0) (by rw [sb_len]; omega) (by omega)
                rw [g1, sb_len] at b1
                have b1 : a1 ≤ s.size ∧ e1 ≤ 5 := b1
                have G1 : ∀ W, Hid (Gives 26 #[.string s, i64 a0, i64 e0] W (.tuple #[i64 x1, i64 a1, i64 e1])) := fun W => Lib.hid (by have := dNum_any s a0 e0 W hm (by omega) (by omega); rw [g1] at this; exact this)
                have hX : X = dEnd (sb s) ({ zeroT k with handle := x0, n := x1 }, a1, e1) := by
                  rw [HT.out, ee2]
                  simp [dParts, dPart, g0, g1]
                have HE : Hid (X = dEnd (sb s) ({ zeroT k with handle := x0, n := x1 }, a1, e1)) := Lib.hid hX
                clear hX HT g0 g1
                have c0 := cell_blk HH.out.op 0
                have c1 := cell_blk HH.out.op 1
                have c2 := cell_blk HH.out.op 2
                have c3 := cell_blk HH.out.op 3
                have c4 := cell_blk HH.out.op 4
                have c5 := cell_blk HH.out.op 5
                have c6 := cell_blk HH.out.op 6
                have z0 := cell_blk HH.out.non 0
                have z1 := cell_blk HH.out.non 1
                have z2 := cell_blk HH.out.non 2
                have z3 := cell_blk HH.out.non 3
                have z4 := cell_blk HH.out.non 4
                have z5 := cell_blk HH.out.non 5
                have z6 := cell_blk HH.out.non 6
                have r0 := cell_blk HH.out.res 0
                have r1 := cell_blk HH.out.res 1
                have r2 := cell_blk HH.out.res 2
                have r3 := cell_blk HH.out.res 3
                have r4 := cell_blk HH.out.res 4
                have r5 := cell_blk HH.out.res 5
                have r6 := cell_blk HH.out.res 6
                have fd := fun o => frozen_blk HH.out.op o
                have fr := fun o => frozen_blk HH.out.res o
                go_wp2_with fail
                refine (GHK _).out.mono ?_; rintro q9 w9 ⟨rfl, hw9⟩
                have H9 := HH.out
                rw [← hw9] at H9
                clear HH hw9 c0 c1 c2 c3 c4 c5 c6 z0 z1 z2 z3 z4 z5 z6 r0 r1 r2 r3 r4 r5 r6 fd fr
                have c0 := cell_blk H9.op 0
                have c1 := cell_blk H9.op 1
                have c2 := cell_blk H9.op 2
                have c3 := cell_blk H9.op 3
                have c4 := cell_blk H9.op 4
                have c5 := cell_blk H9.op 5
                have c6 := cell_blk H9.op 6
                have z0 := cell_blk H9.non 0
                have z1 := cell_blk H9.non 1
                have z2 := cell_blk H9.non 2
                have z3 := cell_blk H9.non 3
                have z4 := cell_blk H9.non 4
                have z5 := cell_blk H9.non 5
                have z6 := cell_blk H9.non 6
                have r0 := cell_blk H9.res 0
                have r1 := cell_blk H9.res 1
                have r2 := cell_blk H9.res 2
                have r3 := cell_blk H9.res 3
                have r4 := cell_blk H9.res 4
                have r5 := cell_blk H9.res 5
                have r6 := cell_blk H9.res 6
                have fd := fun o => frozen_blk H9.op o
                have fr := fun o => frozen_blk H9.res o
                have HH := Lib.hid H9
                clear H9
                go_wp2_with fail
                refine (G0 _).out.mono ?_; rintro q0 w1 ⟨rfl, hw1⟩
                clear c0 c1 c2 c3 c4 c5 c6 z0 z1 z2 z3 z4 z5 z6 r0 r1 r2 r3 r4 r5 r6 fd fr
                have H1 : DpSt w #[bv k, .string ByteArray.empty, .string ByteArray.empty, .int .i64 0, .int .i64 0, .int .i64 0, .slice none 0 0] w1 := by rw [hw1]; exact HH.out
                clear HH hw1
                have c0 := cell_blk H1.op 0
                have c1 := cell_blk H1.op 1
                have c2 := cell_blk H1.op 2
                have c3 := cell_blk H1.op 3
                have c4 := cell_blk H1.op 4
                have c5 := cell_blk H1.op 5
                have c6 := cell_blk H1.op 6
                have z0 := cell_blk H1.non 0
                have z1 := cell_blk H1.non 1
                have z2 := cell_blk H1.non 2
                have z3 := cell_blk H1.non 3
                have z4 := cell_blk H1.non 4
                have z5 := cell_blk H1.non 5
                have z6 := cell_blk H1.non 6
                have r0 := cell_blk H1.res 0
                have r1 := cell_blk H1.res 1
                have r2 := cell_blk H1.res 2
                have r3 := cell_blk H1.res 3
                have r4 := cell_blk H1.res 4
                have r5 := cell_blk H1.res 5
                have r6 := cell_blk H1.res 6
                have fd := fun o => frozen_blk H1.op o
                have fr := fun o => frozen_blk H1.res o
                have HH := Lib.hid H1
                clear H1
                go_wp2_with fail
                refine (G1 _).out.mono ?_; rintro q1 w2 ⟨rfl, hw2⟩
                clear c0 c1 c2 c3 c4 c5 c6 z0 z1 z2 z3 z4 z5 z6 r0 r1 r2 r3 r4 r5 r6 fd fr
                have H2 : DpSt w #[bv k, .string ByteArray.empty, .string ByteArray.empty, .int .i64 x0, .int .i64 0, .int .i64 0, .slice none 0 0] w2 := by rw [hw2]; exact HH.out.set 3 (.int .i64 x0)
                clear HH hw2
                by_cases hat : a1 < s.size
                · have u1 : decide ((a1 : Int) < (s.size : Int)) = true := decide_eq_true (by omega)
                  by_cases he : e1 = 0
                  · subst he
                    have hx : X = .error 2 := by rw [HE.out]; unfold dEnd; rw [if_pos rfl, if_pos (by show a1 < (sb s).length; rw [sb_len]; exact hat)]
                    subst hx
                    have c0 := cell_blk H2.op 0
                    have c1 := cell_blk H2.op 1
                    have c2 := cell_blk H2.op 2
                    have c3 := cell_blk H2.op 3
                    have c4 := cell_blk H2.op 4
                    have c5 := cell_blk H2.op 5
                    have c6 := cell_blk H2.op 6
                    have z0 := cell_blk H2.non 0
                    have z1 := cell_blk H2.non 1
                    have z2 := cell_blk H2.non 2
                    have z3 := cell_blk H2.non 3
                    have z4 := cell_blk H2.non 4
                    have z5 := cell_blk H2.non 5
                    have z6 := cell_blk H2.non 6
                    have r0 := cell_blk H2.res 0
                    have r1 := cell_blk H2.res 1
                    have r2 := cell_blk H2.res 2
                    have r3 := cell_blk H2.res 3
                    have r4 := cell_blk H2.res 4
                    have r5 := cell_blk H2.res 5
                    have r6 := cell_blk H2.res 6
                    have fd := fun o => frozen_blk H2.op o
                    have fr := fun o => frozen_blk H2.res o
                    have HH := Lib.hid H2
                    clear H2
                    go_wp2_with fail
                    change bodyPost _ _ _ _ _ (sets (w2.setCell ⟨w.heap.size + 1 + 1, 5, none⟩ (.int .i64 x1)) w.heap.size 0 noOp)
                    have hS := (HH.out.set 5 (.int .i64 x1))
                    have eR := sets_at hS.res noOp rfl
                    have b9 := sets_below (a := w) (Nat.le_refl _) noOp _ 0 hS.below
                    generalize sets (w2.setCell ⟨w.heap.size + 1 + 1, 5, none⟩ (.int .i64 x1)) w.heap.size 0 noOp = y at *
                    have c0 := cell_blk eR 0
                    have c1 := cell_blk eR 1
                    have c2 := cell_blk eR 2
                    have c3 := cell_blk eR 3
                    have c4 := cell_blk eR 4
                    have c5 := cell_blk eR 5
                    have c6 := cell_blk eR 6
                    exact bodyPost_ret (v := _) (by simp [results, Tryd.results16, go_sem, c0, c1, c2, c3, c4, c5, c6] <;> rfl) rfl ⟨rfl, b9⟩
                  · have u2 : ((e1 : Int) == 0) = false := by rw [beq_eq_false_iff_ne]; omega
                    have hx : X = .error e1 := by rw [HE.out]; unfold dEnd; rw [if_neg he]
                    subst hx
                    have c0 := cell_blk H2.op 0
                    have c1 := cell_blk H2.op 1
                    have c2 := cell_blk H2.op 2
                    have c3 := cell_blk H2.op 3
                    have c4 := cell_blk H2.op 4
                    have c5 := cell_blk H2.op 5
                    have c6 := cell_blk H2.op 6
                    have z0 := cell_blk H2.non 0
                    have z1 := cell_blk H2.non 1
                    have z2 := cell_blk H2.non 2
                    have z3 := cell_blk H2.non 3
                    have z4 := cell_blk H2.non 4
                    have z5 := cell_blk H2.non 5
                    have z6 := cell_blk H2.non 6
                    have r0 := cell_blk H2.res 0
                    have r1 := cell_blk H2.res 1
                    have r2 := cell_blk H2.res 2
                    have r3 := cell_blk H2.res 3
                    have r4 := cell_blk H2.res 4
                    have r5 := cell_blk H2.res 5
                    have r6 := cell_blk H2.res 6
                    have fd := fun o => frozen_blk H2.op o
                    have fr := fun o => frozen_blk H2.res o
                    have HH := Lib.hid H2
                    clear H2
                    go_wp2_with fail
                    change bodyPost _ _ _ _ _ (sets (w2.setCell ⟨w.heap.size + 1 + 1, 5, none⟩ (.int .i64 x1)) w.heap.size 0 noOp)
                    have hS := (HH.out.set 5 (.int .i64 x1))
                    have eR := sets_at hS.res noOp rfl
                    have b9 := sets_below (a := w) (Nat.le_refl _) noOp _ 0 hS.below
                    generalize sets (w2.setCell ⟨w.heap.size + 1 + 1, 5, none⟩ (.int .i64 x1)) w.heap.size 0 noOp = y at *
                    have c0 := cell_blk eR 0
                    have c1 := cell_blk eR 1
                    have c2 := cell_blk eR 2
                    have c3 := cell_blk eR 3
                    have c4 := cell_blk eR 4
                    have c5 := cell_blk eR 5
                    have c6 := cell_blk eR 6
                    exact bodyPost_ret (v := _) (by simp [results, Tryd.results16, go_sem, c0, c1, c2, c3, c4, c5, c6] <;> rfl) rfl ⟨rfl, b9⟩
                · have u1 : decide ((a1 : Int) < (s.size : Int)) = false := decide_eq_false (by omega)
                  by_cases he : e1 = 0
                  · subst he
                    have hx : X = .ok ({ zeroT k with handle := x0, n := x1 }) := by rw [HE.out]; unfold dEnd; rw [if_pos rfl, if_neg (by show ¬ a1 < (sb s).length; rw [sb_len]; exact hat)]
                    subst hx
                    have c0 := cell_blk H2.op 0
                    have c1 := cell_blk H2.op 1
                    have c2 := cell_blk H2.op 2
                    have c3 := cell_blk H2.op 3
                    have c4 := cell_blk H2.op 4
                    have c5 := cell_blk H2.op 5
                    have c6 := cell_blk H2.op 6
                    have z0 := cell_blk H2.non 0
                    have z1 := cell_blk H2.non 1
                    have z2 := cell_blk H2.non 2
                    have z3 := cell_blk H2.non 3
                    have z4 := cell_blk H2.non 4
                    have z5 := cell_blk H2.non 5
                    have z6 := cell_blk H2.non 6
                    have r0 := cell_blk H2.res 0
                    have r1 := cell_blk H2.res 1
                    have r2 := cell_blk H2.res 2
                    have r3 := cell_blk H2.res 3
                    have r4 := cell_blk H2.res 4
                    have r5 := cell_blk H2.res 5
                    have r6 := cell_blk H2.res 6
                    have fd := fun o => frozen_blk H2.op o
                    have fr := fun o => frozen_blk H2.res o
                    have HH := Lib.hid H2
                    clear H2
                    go_wp2_with fail
                    change bodyPost _ _ _ _ _ (sets (w2.setCell ⟨w.heap.size + 1 + 1, 5, none⟩ (.int .i64 x1)) w.heap.size 0 [bv k, .string ByteArray.empty, .string ByteArray.empty, .int .i64 x0, .int .i64 0, .int .i64 x1, .slice none 0 0])
                    have hS := (HH.out.set 5 (.int .i64 x1))
                    have eR := sets_at hS.res [bv k, .string ByteArray.empty, .string ByteArray.empty, .int .i64 x0, .int .i64 0, .int .i64 x1, .slice none 0 0] rfl
                    have b9 := sets_below (a := w) (Nat.le_refl _) [bv k, .string ByteArray.empty, .string ByteArray.empty, .int .i64 x0, .int .i64 0, .int .i64 x1, .slice none 0 0] _ 0 hS.below
                    generalize sets (w2.setCell ⟨w.heap.size + 1 + 1, 5, none⟩ (.int .i64 x1)) w.heap.size 0 [bv k, .string ByteArray.empty, .string ByteArray.empty, .int .i64 x0, .int .i64 0, .int .i64 x1, .slice none 0 0] = y at *
                    have c0 := cell_blk eR 0
                    have c1 := cell_blk eR 1
                    have c2 := cell_blk eR 2
                    have c3 := cell_blk eR 3
                    have c4 := cell_blk eR 4
                    have c5 := cell_blk eR 5
                    have c6 := cell_blk eR 6
                    exact bodyPost_ret (v := _) (by simp [results, Tryd.results16, go_sem, c0, c1, c2, c3, c4, c5, c6] <;> rfl) rfl ⟨_, rfl, ⟨_, _, _, rfl⟩, Sl.nil _ _, b9⟩
                  · have u2 : ((e1 : Int) == 0) = false := by rw [beq_eq_false_iff_ne]; omega
                    have hx : X = .error e1 := by rw [HE.out]; unfold dEnd; rw [if_neg he]
                    subst hx
                    have c0 := cell_blk H2.op 0
                    have c1 := cell_blk H2.op 1
                    have c2 := cell_blk H2.op 2
                    have c3 := cell_blk H2.op 3
                    have c4 := cell_blk H2.op 4
                    have c5 := cell_blk H2.op 5
                    have c6 := cell_blk H2.op 6
                    have z0 := cell_blk H2.non 0
                    have z1 := cell_blk H2.non 1
                    have z2 := cell_blk H2.non 2
                    have z3 := cell_blk H2.non 3
                    have z4 := cell_blk H2.non 4
                    have z5 := cell_blk H2.non 5
                    have z6 := cell_blk H2.non 6
                    have r0 := cell_blk H2.res 0
                    have r1 := cell_blk H2.res 1
                    have r2 := cell_blk H2.res 2
                    have r3 := cell_blk H2.res 3
                    have r4 := cell_blk H2.res 4
                    have r5 := cell_blk H2.res 5
                    have r6 := cell_blk H2.res 6
                    have fd := fun o => frozen_blk H2.op o
                    have fr := fun o => frozen_blk H2.res o
                    have HH := Lib.hid H2
                    clear H2
                    go_wp2_with fail
                    change bodyPost _ _ _ _ _ (sets (w2.setCell ⟨w.heap.size + 1 + 1, 5, none⟩ (.int .i64 x1)) w.heap.size 0 noOp)
                    have hS := (HH.out.set 5 (.int .i64 x1))
                    have eR := sets_at hS.res noOp rfl
                    have b9 := sets_below (a := w) (Nat.le_refl _) noOp _ 0 hS.below
                    generalize sets (w2.setCell ⟨w.heap.size + 1 + 1, 5, none⟩ (.int .i64 x1)) w.heap.size 0 noOp = y at *
                    have c0 := cell_blk eR 0
                    have c1 := cell_blk eR 1
                    have c2 := cell_blk eR 2
                    have c3 := cell_blk eR 3
                    have c4 := cell_blk eR 4
                    have c5 := cell_blk eR 5
                    have c6 := cell_blk eR 6
                    exact bodyPost_ret (v := _) (by simp [results, Tryd.results16, go_sem, c0, c1, c2, c3, c4, c5, c6] <;> rfl) rfl ⟨rfl, b9⟩
              · obtain ⟨ee1, ee2⟩ := Prod.mk.inj hc
                have GHK : ∀ W, Hid (Gives 22 #[bv k] W (.tuple #[i64 0, .bool false, .bool false, .bool false, .bool false])) := fun W => Lib.hid (by have := has_any k W; rw [ee1] at this; exact this)
                clear hc ee1
                have hX : X = dEnd (sb s) (zeroT k, b, 0) := by
                  rw [HT.out, ee2]
                  rfl
                have HE : Hid (X = dEnd (sb s) (zeroT k, b, 0)) := Lib.hid hX
                clear hX HT 
                have c0 := cell_blk HH.out.op 0
                have c1 := cell_blk HH.out.op 1
                have c2 := cell_blk HH.out.op 2
                have c3 := cell_blk HH.out.op 3
                have c4 := cell_blk HH.out.op 4
                have c5 := cell_blk HH.out.op 5
                have c6 := cell_blk HH.out.op 6
                have z0 := cell_blk HH.out.non 0
                have z1 := cell_blk HH.out.non 1
                have z2 := cell_blk HH.out.non 2
                have z3 := cell_blk HH.out.non 3
                have z4 := cell_blk HH.out.non 4
                have z5 := cell_blk HH.out.non 5
                have z6 := cell_blk HH.out.non 6
                have r0 := cell_blk HH.out.res 0
                have r1 := cell_blk HH.out.res 1
                have r2 := cell_blk HH.out.res 2
                have r3 := cell_blk HH.out.res 3
                have r4 := cell_blk HH.out.res 4
                have r5 := cell_blk HH.out.res 5
                have r6 := cell_blk HH.out.res 6
                have fd := fun o => frozen_blk HH.out.op o
                have fr := fun o => frozen_blk HH.out.res o
                go_wp2_with fail
                refine (GHK _).out.mono ?_; rintro q9 w9 ⟨rfl, hw9⟩
                have H9 := HH.out
                rw [← hw9] at H9
                clear HH hw9 c0 c1 c2 c3 c4 c5 c6 z0 z1 z2 z3 z4 z5 z6 r0 r1 r2 r3 r4 r5 r6 fd fr
                by_cases hat : b < s.size
                · have u1 : decide ((b : Int) < (s.size : Int)) = true := decide_eq_true (by omega)
                  have hx : X = .error 2 := by rw [HE.out]; unfold dEnd; rw [if_pos rfl, if_pos (by show b < (sb s).length; rw [sb_len]; exact hat)]
                  subst hx
                  have c0 := cell_blk H9.op 0
                  have c1 := cell_blk H9.op 1
                  have c2 := cell_blk H9.op 2
                  have c3 := cell_blk H9.op 3
                  have c4 := cell_blk H9.op 4
                  have c5 := cell_blk H9.op 5
                  have c6 := cell_blk H9.op 6
                  have z0 := cell_blk H9.non 0
                  have z1 := cell_blk H9.non 1
                  have z2 := cell_blk H9.non 2
                  have z3 := cell_blk H9.non 3
                  have z4 := cell_blk H9.non 4
                  have z5 := cell_blk H9.non 5
                  have z6 := cell_blk H9.non 6
                  have r0 := cell_blk H9.res 0
                  have r1 := cell_blk H9.res 1
                  have r2 := cell_blk H9.res 2
                  have r3 := cell_blk H9.res 3
                  have r4 := cell_blk H9.res 4
                  have r5 := cell_blk H9.res 5
                  have r6 := cell_blk H9.res 6
                  have fd := fun o => frozen_blk H9.op o
                  have fr := fun o => frozen_blk H9.res o
                  have HH := Lib.hid H9
                  clear H9
                  go_wp2_with fail
                  change bodyPost _ _ _ _ _ (sets w9 w.heap.size 0 noOp)
                  have hS := HH.out
                  have eR := sets_at hS.res noOp rfl
                  have b9 := sets_below (a := w) (Nat.le_refl _) noOp _ 0 hS.below
                  generalize sets w9 w.heap.size 0 noOp = y at *
                  have c0 := cell_blk eR 0
                  have c1 := cell_blk eR 1
                  have c2 := cell_blk eR 2
                  have c3 := cell_blk eR 3
                  have c4 := cell_blk eR 4
                  have c5 := cell_blk eR 5
                  have c6 := cell_blk eR 6
                  exact bodyPost_ret (v := _) (by simp [results, Tryd.results16, go_sem, c0, c1, c2, c3, c4, c5, c6] <;> rfl) rfl ⟨rfl, b9⟩
                · have u1 : decide ((b : Int) < (s.size : Int)) = false := decide_eq_false (by omega)
                  have hx : X = .ok (zeroT k) := by rw [HE.out]; unfold dEnd; rw [if_pos rfl, if_neg (by show ¬ b < (sb s).length; rw [sb_len]; exact hat)]
                  subst hx
                  have c0 := cell_blk H9.op 0
                  have c1 := cell_blk H9.op 1
                  have c2 := cell_blk H9.op 2
                  have c3 := cell_blk H9.op 3
                  have c4 := cell_blk H9.op 4
                  have c5 := cell_blk H9.op 5
                  have c6 := cell_blk H9.op 6
                  have z0 := cell_blk H9.non 0
                  have z1 := cell_blk H9.non 1
                  have z2 := cell_blk H9.non 2
                  have z3 := cell_blk H9.non 3
                  have z4 := cell_blk H9.non 4
                  have z5 := cell_blk H9.non 5
                  have z6 := cell_blk H9.non 6
                  have r0 := cell_blk H9.res 0
                  have r1 := cell_blk H9.res 1
                  have r2 := cell_blk H9.res 2
                  have r3 := cell_blk H9.res 3
                  have r4 := cell_blk H9.res 4
                  have r5 := cell_blk H9.res 5
                  have r6 := cell_blk H9.res 6
                  have fd := fun o => frozen_blk H9.op o
                  have fr := fun o => frozen_blk H9.res o
                  have HH := Lib.hid H9
                  clear H9
                  go_wp2_with fail
                  change bodyPost _ _ _ _ _ (sets w9 w.heap.size 0 [bv k, .string ByteArray.empty, .string ByteArray.empty, .int .i64 0, .int .i64 0, .int .i64 0, .slice none 0 0])
                  have hS := HH.out
                  have eR := sets_at hS.res [bv k, .string ByteArray.empty, .string ByteArray.empty, .int .i64 0, .int .i64 0, .int .i64 0, .slice none 0 0] rfl
                  have b9 := sets_below (a := w) (Nat.le_refl _) [bv k, .string ByteArray.empty, .string ByteArray.empty, .int .i64 0, .int .i64 0, .int .i64 0, .slice none 0 0] _ 0 hS.below
                  generalize sets w9 w.heap.size 0 [bv k, .string ByteArray.empty, .string ByteArray.empty, .int .i64 0, .int .i64 0, .int .i64 0, .slice none 0 0] = y at *
                  have c0 := cell_blk eR 0
                  have c1 := cell_blk eR 1
                  have c2 := cell_blk eR 2
                  have c3 := cell_blk eR 3
                  have c4 := cell_blk eR 4
                  have c5 := cell_blk eR 5
                  have c6 := cell_blk eR 6
                  exact bodyPost_ret (v := _) (by simp [results, Tryd.results16, go_sem, c0, c1, c2, c3, c4, c5, c6] <;> rfl) rfl ⟨_, rfl, ⟨_, _, _, rfl⟩, Sl.nil _ _, b9⟩
end Go.Proofs.YtbjjpplhnibjdaaDoor
