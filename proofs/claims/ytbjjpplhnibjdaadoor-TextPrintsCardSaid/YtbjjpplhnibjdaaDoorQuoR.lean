/- The document's quoted text and its numbers. -/
import Derived.Test.YtbjjpplhnibjdaaDoorQuo
namespace Go.Proofs.YtbjjpplhnibjdaaDoor
open Go Go.RowKit

theorem toB_cat (l m : List Nat) : toB l ++ toB m = toB (l ++ m) := by
  apply ByteArray.ext
  unfold toB
  rw [ByteArray.data_append, List.map_append]
  simp
theorem nocat (l m : List Nat) (h : l.length + m.length ≤ 60000) : (9223372036854775807 < (toB l).size + (toB m).size) = False := eq_false (by rw [toB_size, toB_size]; omega)

set_option maxHeartbeats 4000000 in
set_option maxRecDepth 100000 in
theorem rquote_any (s : ByteArray) (w : World) (hs : s.size ≤ 3000) : Makes 23 #[.string s] w (.string (toB (quoteL (sb s)))) := by
  have HP := fun c W => Lib.hid (rplain_any c W)
  have HX := fun d hd W => Lib.hid (rhex_any d hd W)
  have HLS := Lib.hid (sb_len s)
  go_enter Tryd.func23, Tryd.ntmps23
  go_wp2_with fail
  go_loopw [3, 4] (fun v i wr => ∃ j : Nat, j ≤ s.size ∧ i = .int .i64 j ∧ v = .string (toB (34 :: quoteB ((sb s).take j))) ∧ Below w.heap.size w wr) (fun _ i _ => s.size - (intOf i).toNat)
  case atStart => exact ⟨0, Nat.zero_le _, rfl, rfl, Below.refl _ _⟩
  case round =>
    obtain ⟨j, hj, rfl, rfl, hb⟩ := hrel
    have hql := quoteB_len ((sb s).take j)
    have hqj : (quoteB ((sb s).take j)).length ≤ 9000 := by rw [List.length_take, HLS.out] at hql; omega
    clear hql
    by_cases hlt : j < s.size
    · have hg : s[j].toNat = (sb s).getD j 0 := sb_get hlt
      have hst := quoteB_take (l := sb s) (i := j) (by rw [HLS.out]; exact hlt)
      have kw : IntKind.i64.wrap ((j : Int) + 1) = (j : Int) + 1 := by rw [IntKind.wrap_i64]; omega
      have hc256 : (sb s).getD j 0 < 256 := by rw [← hg]; exact UInt8.toNat_lt _
      have hg' : ((s[j].toNat : Nat) : Int) = (((sb s).getD j 0 : Nat) : Int) := congrArg Nat.cast hg
      have hex : s.extract j (j + 1) = toB [(sb s).getD j 0] := by
        rw [ext_sb, show j + 1 - j = 1 by omega]
        have hjl : j < (sb s).length := by rw [HLS.out]; exact hlt
        rw [List.drop_eq_getElem_cons hjl, List.getD_eq_getElem?_getD, List.getElem?_eq_getElem hjl]
        rfl
      clear hg
      generalize (sb s).getD j 0 = c at *
      generalize hq : quoteB ((sb s).take j) = q at *
      have HST := Lib.hid hst
      clear hst
      by_cases hp : plainB c = true
      · have G := fun W => HP c W
        rw [hp] at G
        have hqc : quoteC c = [c] := by unfold quoteC; rw [if_pos hp]
        rw [hqc] at HST
        have happ : toB (34 :: q) ++ toB [c] = toB (34 :: (q ++ [c])) := toB_cat _ _
        rw [← HST.out] at happ
        have HAP := Lib.hid happ
        have nc := nocat (34 :: q) [c] (by simp; omega)
        clear happ
        go_wp2_with fail
        refine (G _).out.mono ?_; rintro e1 w1 ⟨rfl, rfl⟩
        go_wp2_with fail
        exact ⟨⟨j + 1, by omega, by go_num, by rw [HAP.out], hb⟩, by simp [intOf]; omega⟩
      · have hp : plainB c = false := by simpa using hp
        have G := fun W => HP c W
        rw [hp] at G
        have hqc : quoteC c = [37, hexC (c / 16), hexC (c % 16)] := by unfold quoteC; rw [if_neg (by rw [hp]; decide)]
        rw [hqc] at HST
        have X1 : ∀ W : World, Hid (Gives 35 #[.int .i64 ((c : Int) / 16)] W (.string (toB [hexC (c / 16)]))) := fun W => by
          have := HX (c / 16) (by omega) W
          rw [show ((c / 16 : Nat) : Int) = (c : Int) / 16 by omega] at this
          exact this
        have X2 : ∀ W : World, Hid (Gives 35 #[.int .i64 ((c : Int) % 16)] W (.string (toB [hexC (c % 16)]))) := fun W => by
          have := HX (c % 16) (by omega) W
          rw [show ((c % 16 : Nat) : Int) = (c : Int) % 16 by omega] at this
          exact this
        have q1 : (c : Int).tdiv 16 = (c : Int) / 16 := by rw [Int.tdiv_eq_ediv_of_nonneg (by omega)]
        have q2 : (c : Int).tmod 16 = (c : Int) % 16 := by rw [Int.tmod_eq_emod_of_nonneg (by omega)]
        have w0 : IntKind.i64.wrap (c : Int) = (c : Int) := by rw [IntKind.wrap_i64]; omega
        have w1' : IntKind.i64.wrap ((c : Int) / 16) = (c : Int) / 16 := by rw [IntKind.wrap_i64]; omega
        generalize hexC (c / 16) = d1 at *
        generalize hexC (c % 16) = d2 at *
        have n1 : (9223372036854775807 < (toB (34 :: q)).size + 1) = False := nocat (34 :: q) [37] (by simp; omega)
        have n2 := nocat (34 :: (q ++ [37])) [d1] (by simp; omega)
        have n3 := nocat (34 :: (q ++ [37, d1])) [d2] (by simp; omega)
        have a1 : toB (34 :: q) ++ ({ data := #[37] } : ByteArray) = toB (34 :: (q ++ [37])) := toB_cat (34 :: q) [37]
        have a2 : toB (34 :: (q ++ [37])) ++ toB [d1] = toB (34 :: (q ++ [37, d1])) := by rw [toB_cat]; simp
        have a3 : toB (34 :: (q ++ [37, d1])) ++ toB [d2] = toB (34 :: (q ++ [37, d1, d2])) := by rw [toB_cat]; simp
        go_wp2_with fail
        refine (G _).out.mono ?_; rintro e1 w1 ⟨rfl, rfl⟩
        go_wp2_with fail
        refine wp_region_quiet_on (by kernel_rfl) (by kernel_rfl) ?_
        repeat ((with_reducible refine wpQuiet_step (fun K hK => ?_)); go_simp; first | ((with_reducible refine hK _ ?_); clear hK K) | (rw [if_neg (by intro h; cases h)]; (with_reducible refine hK _ ?_); clear hK K) | (apply Exists.intro; refine ⟨fun _ => ?_, hK _ ?_⟩; (first | (with_reducible exact on_of_same (X1 _).out) | (with_reducible exact on_of_same (X2 _).out)); clear hK K))
        with_reducible refine wpQuiet_nil ?_
        intro _ hw'
        obtain ⟨pq, hw''⟩ := hw'
        subst hw''
        rename_i pq
        have hb2 := Base.tr hb pq.h
        go_wp2_with fail
        exact ⟨⟨j + 1, by omega, by go_num, by rw [HST.out], hb2⟩, by simp [intOf]; omega⟩
    · have hje : j = s.size := by omega
      have htk : (sb s).take j = sb s := List.take_of_length_le (by rw [HLS.out]; omega)
      rw [htk] at hqj ⊢
      have n1 : (9223372036854775807 < (toB (34 :: quoteB (sb s))).size + 1) = False := nocat (34 :: quoteB (sb s)) [34] (by simp; omega)
      have happ : toB (34 :: quoteB (sb s)) ++ ({ data := #[34] } : ByteArray) = toB (quoteL (sb s)) := toB_cat _ [34]
      go_wp2_with fail
      go_ret
      exact ⟨rfl, hb⟩

/-! ### Numbers -/
theorem decN_len : ∀ (k u : Nat), u < 10 ^ (k + 1) → (decN u).length ≤ k + 1
  | 0, u, h => by
    rw [decN, dif_pos (by omega)]
    exact Nat.le_refl _
  | k + 1, u, h => by
    rw [decN]
    split
    · show 1 ≤ _; omega
    · rw [List.length_append]
      have := decN_len k (u / 10) (by rw [Nat.pow_succ] at h; omega)
      show _ + 1 ≤ _
      omega
theorem hexC_10 {d : Nat} (h : d < 10) : hexC d = 48 + d := by unfold hexC; rw [if_pos h]

set_option maxHeartbeats 4000000 in
set_option maxRecDepth 100000 in
theorem decimal_nat : ∀ (k m : Nat), m < k → Hid (m < 10 ^ 20 ∧ (m : Int) ≤ 9223372036854775807) → ∀ w : World, Gives 24 #[.int .i64 (m : Int)] w (.string (toB (decN m)))
  | 0, _, h, _, _ => by omega
  | k + 1, m, h, hm, w => by
    have HX := fun d hd W => Lib.hid (rhex_any d hd W)
    have t0 : decide ((m : Int) < 0) = false := decide_eq_false (by omega)
    by_cases h10 : m < 10
    · have t1 : decide ((m : Int) < 10) = true := decide_eq_true (by omega)
      have hd : decN m = [hexC m] := by rw [decN, dif_pos h10, hexC_10 h10]
      have X1 := fun W => HX m (by omega) W
      rw [hd]
      clear hd
      go_enter Tryd.func24, Tryd.ntmps24
      go_wp2_with fail
      refine (X1 _).out.mono ?_; rintro e1 w1 ⟨rfl, rfl⟩
      go_wp2_with fail
      go_ret
      exact ⟨rfl, rfl⟩
    · have t1 : decide ((m : Int) < 10) = false := decide_eq_false (by omega)
      have hd : toB (decN (m / 10)) ++ toB [hexC (m % 10)] = toB (decN m) := by rw [toB_cat, hexC_10 (by omega)]; conv => rhs; rw [decN, dif_neg h10]
      have HD := Lib.hid hd
      have hh := hm.out
      have IH : ∀ W : World, Hid (Gives 24 #[.int .i64 ((m : Int) / 10)] W (.string (toB (decN (m / 10))))) := fun W => by
        have := decimal_nat k (m / 10) (by omega) (Lib.hid ⟨by omega, by omega⟩) W
        rw [show ((m / 10 : Nat) : Int) = (m : Int) / 10 by omega] at this
        exact Lib.hid this
      have X2 : ∀ W : World, Hid (Gives 35 #[.int .i64 ((m : Int) % 10)] W (.string (toB [hexC (m % 10)]))) := fun W => by
        have := HX (m % 10) (by omega) W
        rw [show ((m % 10 : Nat) : Int) = (m : Int) % 10 by omega] at this
        exact this
      have hl := decN_len 19 (m / 10) (by omega)
      have n1 := nocat (decN (m / 10)) [hexC (m % 10)] (by simp; omega)
      have q1 : (m : Int).tdiv 10 = (m : Int) / 10 := by rw [Int.tdiv_eq_ediv_of_nonneg (by omega)]
      have q2 : (m : Int).tmod 10 = (m : Int) % 10 := by rw [Int.tmod_eq_emod_of_nonneg (by omega)]
      have w1 : IntKind.i64.wrap ((m : Int) / 10) = (m : Int) / 10 := by rw [IntKind.wrap_i64]; omega
      clear hh hd hl
      go_enter Tryd.func24, Tryd.ntmps24
      go_wp2_with fail
      refine (IH _).out.mono ?_; rintro e1 w1 ⟨rfl, rfl⟩
      go_wp2_with fail
      refine (X2 _).out.mono ?_; rintro e1 w1 ⟨rfl, rfl⟩
      go_wp2_with fail
      go_ret
      exact ⟨by rw [← HD.out]; rfl, rfl⟩

set_option maxHeartbeats 4000000 in
set_option maxRecDepth 100000 in
theorem decimal_neg : ∀ (k m : Nat), m < k → Hid (1 ≤ m ∧ m < 10 ^ 20 ∧ (m : Int) ≤ 9223372036854775808) → ∀ w : World, Gives 24 #[.int .i64 (-(m : Int))] w (.string (toB (45 :: decN m)))
  | 0, _, h, _, _ => by omega
  | k + 1, m, h, hm, w => by
    have HX := fun d hd W => Lib.hid (rhex_any d hd W)
    have hh := hm.out
    obtain ⟨n, hn⟩ : ∃ n : Int, n = -(m : Int) := ⟨_, rfl⟩
    obtain ⟨d, hd⟩ : ∃ d : Nat, m % 10 = d := ⟨_, rfl⟩
    obtain ⟨p, hp⟩ : ∃ p : Int, p = -((m / 10 : Nat) : Int) := ⟨_, rfl⟩
    have t0 : decide (n < 0) = true := decide_eq_true (by omega)
    have e1 : n.tmod 10 = -(d : Int) := by rw [hn, Int.neg_tmod, Int.tmod_eq_emod_of_nonneg (by omega)]; omega
    have e2 : n.tdiv 10 = p := by rw [hn, Int.neg_tdiv, Int.tdiv_eq_ediv_of_nonneg (by omega)]; omega
    have w1 : IntKind.i64.wrap (d : Int) = (d : Int) := by rw [IntKind.wrap_i64]; omega
    have w2 : IntKind.i64.wrap p = p := by rw [IntKind.wrap_i64]; omega
    have X1 := fun W => HX d (by omega) W
    have hd48 : hexC d = 48 + m % 10 := by rw [hexC_10 (by omega), hd]
    rw [← hn]
    by_cases h10 : m < 10
    · have tp : (p == 0) = true := by rw [beq_iff_eq]; omega
      have hr : ({ data := #[45] } : ByteArray) ++ toB [hexC d] = toB (45 :: decN m) := by
        rw [decN, dif_pos h10, hd48, show m % 10 = m by omega]; exact toB_cat [45] [48 + m]
      have n1 : (9223372036854775807 < 1 + (toB [hexC d]).size) = False := nocat [45] [hexC d] (by simp)
      have HR := Lib.hid hr
      clear hr hh hd48 h10 hp hn hd h
      go_enter Tryd.func24, Tryd.ntmps24
      go_wp2_with fail
      refine (X1 _).out.mono ?_; rintro e1 w1 ⟨rfl, rfl⟩
      go_wp2_with fail
      go_ret
      exact ⟨by rw [← HR.out]; rfl, rfl⟩
    · have tp : (p == 0) = false := by rw [beq_eq_false_iff_ne]; omega
      have hr : toB (45 :: decN (m / 10)) ++ toB [hexC d] = toB (45 :: decN m) := by
        rw [toB_cat, hd48]; conv => rhs; rw [decN, dif_neg h10]
        rfl
      have IH : ∀ W : World, Hid (Gives 24 #[.int .i64 p] W (.string (toB (45 :: decN (m / 10))))) := fun W => by
        have := decimal_neg k (m / 10) (by omega) (Lib.hid ⟨by omega, by omega, by omega⟩) W
        rw [← hp] at this
        exact Lib.hid this
      have hl := decN_len 19 (m / 10) (by omega)
      have n1 := nocat (45 :: decN (m / 10)) [hexC d] (by simp; omega)
      have HR := Lib.hid hr
      generalize decN (m / 10) = q at *
      clear hr hh hd48 h10 hp hn hd h hl
      go_enter Tryd.func24, Tryd.ntmps24
      go_wp2_with fail
      refine (IH _).out.mono ?_; rintro e1 w1 ⟨rfl, rfl⟩
      go_wp2_with fail
      refine (X1 _).out.mono ?_; rintro e1 w1 ⟨rfl, rfl⟩
      go_wp2_with fail
      go_ret
      exact ⟨by rw [← HR.out]; rfl, rfl⟩

theorem decimal_any (n : Int) (h0 : -9223372036854775808 ≤ n) (h1 : n ≤ 9223372036854775807) (w : World) : Gives 24 #[i64 n] w (.string (toB (decI n))) := by
  unfold decI
  by_cases h : n < 0
  · rw [if_pos h]
    have := decimal_neg (n.natAbs + 1) n.natAbs (by omega) (Lib.hid ⟨by omega, by omega, by omega⟩) w
    rw [show -((n.natAbs : Nat) : Int) = n by omega] at this
    exact this
  · rw [if_neg h]
    have := decimal_nat (n.toNat + 1) n.toNat (by omega) (Lib.hid ⟨by omega, by omega⟩) w
    rw [show ((n.toNat : Nat) : Int) = n by omega] at this
    exact this
end Go.Proofs.YtbjjpplhnibjdaaDoor
