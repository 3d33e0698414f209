/- The document's reading: a digit of sixteen, a blank, a quoted text. -/
import Derived.Test.YtbjjpplhnibjdaaDoorQuoQ
namespace Go.Proofs.YtbjjpplhnibjdaaDoor
open Go Go.RowKit

set_option maxHeartbeats 2000000 in
set_option maxRecDepth 100000 in
theorem rvalue_any (c : Nat) (hc : c < 256) (w : World) : Gives 42 #[bv c] w (i64 (hexI c)) := by
  by_cases h0 : 48 ≤ c ∧ c ≤ 57
  · have hv : hexI c = ((c - 48 : Nat) : Int) := by unfold hexI hexV; rw [if_pos h0]
    rw [hv]
    have t1 : decide ((48 : Int) ≤ (c : Int)) = true := decide_eq_true (by omega)
    have t2 : decide ((c : Int) ≤ 57) = true := decide_eq_true (by omega)
    have k1 : IntKind.u8.wrap ((c : Int) - 48) = ((c - 48 : Nat) : Int) := by rw [IntKind.wrap_u8]; omega
    have k2 : IntKind.i64.wrap (((c - 48 : Nat) : Int)) = ((c - 48 : Nat) : Int) := by rw [IntKind.wrap_i64]; omega
    generalize ((c - 48 : Nat) : Int) = d at *
    clear hv h0 hc
    go_enter Tryd.func42, Tryd.ntmps42
    go_wp2_with fail
    go_ret
    exact ⟨rfl, rfl⟩
  · by_cases h1 : 65 ≤ c ∧ c ≤ 70
    · have hv : hexI c = ((c - 55 : Nat) : Int) := by unfold hexI hexV; rw [if_neg h0, if_pos h1]
      rw [hv]
      have t1 : decide ((48 : Int) ≤ (c : Int)) = true := decide_eq_true (by omega)
      have t2 : decide ((c : Int) ≤ 57) = false := decide_eq_false (by omega)
      have t3 : decide ((65 : Int) ≤ (c : Int)) = true := decide_eq_true (by omega)
      have t4 : decide ((c : Int) ≤ 70) = true := decide_eq_true (by omega)
      have k1 : IntKind.u8.wrap ((c : Int) - 65) = ((c - 65 : Nat) : Int) := by rw [IntKind.wrap_u8]; omega
      have k2 : IntKind.i64.wrap (((c - 65 : Nat) : Int)) = ((c - 65 : Nat) : Int) := by rw [IntKind.wrap_i64]; omega
      have k3 : IntKind.i64.wrap (((c - 65 : Nat) : Int) + 10) = ((c - 55 : Nat) : Int) := by rw [IntKind.wrap_i64]; omega
      generalize ((c - 55 : Nat) : Int) = d at *
      generalize ((c - 65 : Nat) : Int) = d2 at *
      clear hv h0 h1 hc
      go_enter Tryd.func42, Tryd.ntmps42
      go_wp2_with fail
      go_ret
      exact ⟨rfl, rfl⟩
    · have hv : hexI c = -1 := by unfold hexI hexV; rw [if_neg h0, if_neg h1]
      rw [hv]
      have t12 : (decide ((48 : Int) ≤ (c : Int)) = true ∧ decide ((c : Int) ≤ 57) = false) ∨ decide ((48 : Int) ≤ (c : Int)) = false := by
        by_cases h : 48 ≤ c
        · exact .inl ⟨decide_eq_true (by omega), decide_eq_false (by omega)⟩
        · exact .inr (decide_eq_false (by omega))
      have t34 : (decide ((65 : Int) ≤ (c : Int)) = true ∧ decide ((c : Int) ≤ 70) = false) ∨ decide ((65 : Int) ≤ (c : Int)) = false := by
        by_cases h : 65 ≤ c
        · exact .inl ⟨decide_eq_true (by omega), decide_eq_false (by omega)⟩
        · exact .inr (decide_eq_false (by omega))
      clear hv h0 h1 hc
      rcases t12 with ⟨t1, t2⟩ | t1 <;> rcases t34 with ⟨t3, t4⟩ | t3
      all_goals
        go_enter Tryd.func42, Tryd.ntmps42
        go_wp2_with fail
        go_ret
        exact ⟨rfl, rfl⟩

/-- Behind a blank. -/
def blankV : Except Nat Nat → Value
  | .error k => .tuple #[i64 0, i64 k]
  | .ok b => .tuple #[i64 b, i64 0]
set_option maxHeartbeats 2000000 in
set_option maxRecDepth 100000 in
theorem rblank_any (s : ByteArray) (a : Nat) (w : World) (hm : s.size ≤ 3000) (ha : a ≤ s.size) : Gives 36 #[.string s, i64 a] w (blankV (tNeed (sb s) a 32)) := by
  unfold tNeed
  rw [sb_len]
  by_cases hl : a < s.size
  · rw [if_pos hl]
    have t1 : decide ((s.size : Int) ≤ (a : Int)) = false := decide_eq_false (by omega)
    have t1n : (s.size ≤ a) = False := by simp; omega
    have hai : (a : Int) < (s.size : Int) := by omega
    have hg : ((s[a].toNat : Nat) : Int) = (((sb s).getD a 0 : Nat) : Int) := congrArg Nat.cast (sb_get hl)
    have kw : IntKind.i64.wrap ((a : Int) + 1) = ((a + 1 : Nat) : Int) := by rw [IntKind.wrap_i64]; omega
    generalize (sb s).getD a 0 = c at *
    by_cases hc : c = 32
    · rw [if_pos hc]
      subst hc
      generalize hq : a + 1 = q at *
      clear hq
      go_enter Tryd.func36, Tryd.ntmps36
      go_wp2_with fail
      go_ret2
      exact ⟨rfl, rfl⟩
    · rw [if_neg hc]
      have t2 : ((c : Int) == 32) = false := by rw [beq_eq_false_iff_ne]; omega
      clear hc
      go_enter Tryd.func36, Tryd.ntmps36
      go_wp2_with fail
      go_ret2
      exact ⟨rfl, rfl⟩
  · rw [if_neg hl]
    have t1 : decide ((s.size : Int) ≤ (a : Int)) = true := decide_eq_true (by omega)
    have t1n : (s.size ≤ a) = True := by simp; omega
    clear hl
    go_enter Tryd.func36, Tryd.ntmps36
    go_wp2_with fail
    go_ret2
    exact ⟨rfl, rfl⟩
end Go.Proofs.YtbjjpplhnibjdaaDoor

/- The document's reading: a quoted text. -/
namespace Go.Proofs.YtbjjpplhnibjdaaDoor
open Go Go.RowKit

/-- Digits of sixteen behind a place. -/
def hx (l : List Nat) : Nat → Nat → Nat → Except Nat (Nat × Nat)
  | 0, a, n => .ok (n, a)
  | k + 1, a, n => if a + 1 < l.length then (match hexV (l.getD (a + 1) 0) with | none => .error 2 | some d => hx l k (a + 1) (16 * n + d)) else .error 3
theorem quoted_hx {l : List Nat} {k a : Nat} {acc : List Nat} (hl : a < l.length) (h37 : l.getD a 0 = 37) :
    quotedGo l (k + 1) a acc = match hx l 2 a 0 with | .error e => .error e | .ok (n, b) => if plainB n then .error 2 else quotedGo l k (b + 1) (acc ++ [n]) := by
  rw [quotedGo, if_pos hl, if_neg (by omega), if_pos h37]
  unfold hx tDigit
  by_cases h1 : a + 1 < l.length
  · simp only [if_pos h1]
    cases hexV (l.getD (a + 1) 0) with
    | none => rfl
    | some h =>
      simp only
      unfold hx
      by_cases h2 : a + 1 + 1 < l.length
      · simp only [if_pos h2]
        cases hexV (l.getD (a + 1 + 1) 0) with
        | none => rfl
        | some d =>
          simp only
          unfold hx
          simp only [Nat.mul_zero, Nat.zero_add]
      · simp only [if_neg h2]
  · simp only [if_neg h1]
/-- A text that was read, or the error. -/
def textV : Except Nat (List Nat × Nat) → Value
  | .error k => .tuple #[.string (toB []), i64 0, i64 k]
  | .ok y => .tuple #[.string (toB y.1), i64 y.2, i64 0]

set_option maxHeartbeats 16000000 in
set_option maxRecDepth 100000 in
theorem rquoted_any (s : ByteArray) (a : Nat) (w : World) (hm : s.size ≤ 3000) (ha : a ≤ s.size) : Makes 37 #[.string s, i64 a] w (textV (tQuoted (sb s) a)) := by
  have HP := fun c W => Lib.hid (rplain_any c W)
  have HV := fun c hc W => Lib.hid (rvalue_any c hc W)
  have HLS := Lib.hid (sb_len s)
  unfold tQuoted tNeed
  rw [sb_len]
  by_cases hl : a < s.size
  · rw [if_pos hl]
    have t1 : decide ((s.size : Int) ≤ (a : Int)) = false := decide_eq_false (by omega)
    have t1n : (s.size ≤ a) = False := by simp; omega
    have hai : (a : Int) < (s.size : Int) := by omega
    have hg : ((s[a].toNat : Nat) : Int) = (((sb s).getD a 0 : Nat) : Int) := congrArg Nat.cast (sb_get hl)
    generalize (sb s).getD a 0 = c at *
    by_cases hc : c = 34
    · rw [if_pos hc]
      subst hc
      simp only
      obtain ⟨R, hR⟩ : ∃ R, quotedGo (sb s) (s.size + 1) (a + 1) [] = R := ⟨_, rfl⟩
      rw [hR]
      have HR : Hid (s.size < a + 1 + (s.size + 1) ∧ quotedGo (sb s) (s.size + 1) (a + 1) [] = R) := Lib.hid ⟨by omega, hR⟩
      have kw : IntKind.i64.wrap ((a : Int) + 1) = ((a + 1 : Nat) : Int) := by rw [IntKind.wrap_i64]; omega
      have hq1 : a + 1 ≤ s.size := hl
      generalize hq : a + 1 = q at *
      clear hq hR
      go_enter Tryd.func37, Tryd.ntmps37
      go_wp2_with fail
      go_loopw [7, 8] (fun v i wr => ∃ (j kk : Nat) (acc : List Nat), v = .string (toB acc) ∧ i = .int .i64 j ∧ j ≤ s.size ∧ acc.length ≤ j ∧ Below w.heap.size w wr ∧ Hid (s.size < j + kk ∧ quotedGo (sb s) kk j acc = R)) (fun _ i _ => s.size - (intOf i).toNat)
      case atStart => exact ⟨q, _, [], rfl, rfl, hq1, Nat.zero_le _, Below.refl _ _, HR⟩
      case round =>
        obtain ⟨j, kk, acc, rfl, rfl, hj, hacc, hb, hgo⟩ := hrel
        clear hg t1 t1n hai kw HR hl
        by_cases hlt : j < s.size
        · obtain ⟨f, rfl⟩ : ∃ f, kk = f + 1 := ⟨kk - 1, by have := hgo.out.1; omega⟩
          have hji : (j : Int) < (s.size : Int) := by omega
          have t2 : decide ((j : Int) < (s.size : Int)) = true := decide_eq_true hji
          have hg : ((s[j].toNat : Nat) : Int) = (((sb s).getD j 0 : Nat) : Int) := congrArg Nat.cast (sb_get hlt)
          have hc256 : (sb s).getD j 0 < 256 := by rw [← sb_get hlt]; exact UInt8.toNat_lt _
          have kwj : IntKind.i64.wrap ((j : Int) + 1) = ((j + 1 : Nat) : Int) := by rw [IntKind.wrap_i64]; omega
          have hjl : j < (sb s).length := by rw [HLS.out]; exact hlt
          have hfu := hgo.out.1
          have hgq := hgo.out.2
          by_cases h37 : (sb s).getD j 0 = 37
          · rw [quoted_hx hjl h37] at hgq
            rw [h37] at hg
            obtain ⟨H, hH⟩ : ∃ H, hx (sb s) 2 j 0 = H := ⟨_, rfl⟩
            rw [hH] at hgq
            have HH : Hid (hx (sb s) (2 - 0) j 0 = H) := Lib.hid hH
            have HGQ := Lib.hid hgq
            have hfu2 : s.size ≤ j + f := by omega
            clear hgq hH h37 hjl hgo hfu hc256 kwj
            go_wp2_with fail
            obtain ⟨wo, rfl⟩ : ∃ wo : World, wo = wr := ⟨_, rfl⟩
            go_loopw [8, 10, 11] (fun iv nv kv wr => ∃ ii nn k2 : Nat, iv = .int .i64 ii ∧ nv = .int .i64 nn ∧ kv = .int .i64 k2 ∧ k2 ≤ 2 ∧ Hid (ii = j + k2) ∧ ii < s.size ∧ Hid ((k2 = 0 → nn = 0) ∧ (k2 ≤ 1 → nn < 16) ∧ nn < 256) ∧ Hid (hx (sb s) (2 - k2) ii nn = H) ∧ wr = wo) (fun _ _ kv _ => 2 - (intOf kv).toNat)
            case atStart => exact ⟨j, 0, 0, rfl, rfl, rfl, by omega, Lib.hid rfl, hlt, Lib.hid ⟨fun _ => rfl, fun _ => by omega, by omega⟩, HH, rfl⟩
            case round =>
              obtain ⟨ii, nn, k2, rfl, rfl, rfl, hk2, hii, hiil, hnn, hhx, rfl⟩ := hrel
              have kwi : IntKind.i64.wrap ((ii : Int) + 1) = (ii : Int) + 1 := by rw [IntKind.wrap_i64]; omega
              by_cases hk : k2 < 2
              · have u1 : decide ((k2 : Int) < 2) = true := decide_eq_true (by omega)
                have kwk : IntKind.i64.wrap ((k2 : Int) + 1) = (k2 : Int) + 1 := by rw [IntKind.wrap_i64]; omega
                have hx1 := hhx.out
                rw [show 2 - k2 = (2 - (k2 + 1)) + 1 by omega, hx, HLS.out] at hx1
                have hn16 := hnn.out.2.1 (by omega)
                have hn0 := hnn.out.1
                by_cases hl2 : ii + 1 < s.size
                · rw [if_pos hl2] at hx1
                  have u2 : decide ((s.size : Int) ≤ (ii : Int) + 1) = false := decide_eq_false (by omega)
                  have u2n : (s.size ≤ (ii + 1)) = False := by simp; omega
                  have hii2 : (ii : Int) + 1 < (s.size : Int) := by omega
                  have hg2 : ((s[ii + 1].toNat : Nat) : Int) = (((sb s).getD (ii + 1) 0 : Nat) : Int) := congrArg Nat.cast (sb_get hl2)
                  have hc2 : (sb s).getD (ii + 1) 0 < 256 := by rw [← sb_get hl2]; exact UInt8.toNat_lt _
                  have G := fun W => HV _ hc2 W
                  cases hv : hexV ((sb s).getD (ii + 1) 0) with
                  | none =>
                    rw [hexI_none hv] at G
                    rw [hv] at hx1
                    simp only at hx1
                    subst hx1
                    have HE := HGQ.out
                    simp only at HE
                    subst HE
                    generalize (sb s).getD (ii + 1) 0 = c2 at *
                    clear hnn hhx hg t2 hji hn16 hn0 HGQ HH hv
                    go_wp2_with fail
                    refine (G _).out.mono ?_; rintro e1 w1 ⟨rfl, rfl⟩
                    go_wp2_with fail
                    go_ret3
                    exact ⟨rfl, hb⟩
                  | some d =>
                    have hd := hexI_some hv
                    rw [hd.1] at G
                    rw [hv] at hx1
                    simp only at hx1
                    have hd16 := hd.2
                    have u3 : decide ((d : Int) < 0) = false := decide_eq_false (by omega)
                    have kw16 : IntKind.i64.wrap (16 * (nn : Int)) = 16 * (nn : Int) := by rw [IntKind.wrap_i64]; omega
                    have kwn : IntKind.i64.wrap (16 * (nn : Int) + (d : Int)) = ((16 * nn + d : Nat) : Int) := by rw [IntKind.wrap_i64]; omega
                    have HX1 := Lib.hid hx1
                    have HNN : Hid ((k2 + 1 = 0 → 16 * nn + d = 0) ∧ (k2 + 1 ≤ 1 → 16 * nn + d < 16) ∧ 16 * nn + d < 256) := Lib.hid ⟨by omega, fun h => by have := hn0 (by omega); omega, by omega⟩
                    have HIJ : Hid (ii + 1 = j + (k2 + 1)) := Lib.hid (by have := hii.out; omega)
                    have HL2 := Lib.hid hl2
                    have HK := Lib.hid hk
                    generalize (sb s).getD (ii + 1) 0 = c2 at *
                    generalize hq3 : 16 * nn + d = n2 at *
                    clear hnn hhx hg t2 hji hn16 hn0 hx1 HH hv hd hd16 hii hq3 hk
                    go_wp2_with fail
                    refine (G _).out.mono ?_; rintro e1 w1 ⟨rfl, rfl⟩
                    go_wp2_with fail
                    refine (G _).out.mono ?_; rintro e2 w2 ⟨rfl, rfl⟩
                    go_wp2_with fail
                    have := HK.out
                    exact ⟨⟨ii + 1, n2, k2 + 1, by go_num, rfl, by go_num, by omega, HIJ, HL2.out, HNN, HX1, by trivial⟩, by simp [intOf]; omega⟩
                · rw [if_neg hl2] at hx1
                  subst hx1
                  have HE := HGQ.out
                  simp only at HE
                  subst HE
                  have u2 : decide ((s.size : Int) ≤ (ii : Int) + 1) = true := decide_eq_true (by omega)
                  have u2n : (s.size ≤ (ii + 1)) = True := by simp; omega
                  clear hnn hhx hg t2 hji hn16 hn0 HGQ HH hl2
                  go_wp2_with fail
                  go_ret3
                  exact ⟨rfl, hb⟩
              · have hk2e : k2 = 2 := by omega
                subst hk2e
                have hx1 := hhx.out
                rw [show 2 - 2 = 0 from rfl, hx] at hx1
                subst hx1
                have hn256 := hnn.out.2.2
                have hE := HGQ.out
                simp only at hE
                have kwu : IntKind.u8.wrap (nn : Int) = (nn : Int) := by rw [IntKind.wrap_u8]; omega
                have G := fun W => HP nn W
                cases hp : plainB nn with
                | true =>
                  rw [hp] at G
                  rw [hp, if_pos rfl] at hE
                  subst hE
                  clear hnn hhx hg t2 hji HGQ HH hp hn256 hk
                  go_wp2_with fail
                  refine (G _).out.mono ?_; rintro e1 w1 ⟨rfl, rfl⟩
                  go_wp2_with fail
                  go_ret3
                  exact ⟨rfl, hb⟩
                | false =>
                  rw [hp] at G
                  rw [hp, if_neg (by decide)] at hE
                  have nc := nocat acc [nn] (by have := hii.out; simp; omega)
                  have happ : toB acc ++ toB [nn] = toB (acc ++ [nn]) := toB_cat _ _
                  have HAC : Hid ((acc ++ [nn]).length ≤ ii + 1) := Lib.hid (by have := hii.out; simp; omega)
                  have HFU : Hid (s.size < ii + 1 + f ∧ quotedGo (sb s) f (ii + 1) (acc ++ [nn]) = R) := Lib.hid ⟨by have := hii.out; omega, hE⟩
                  have hb2 := fun o => Base.al hb o
                  have hbt : ∀ W : World, Byt (W.alloc (.cells #[bv nn] 5)) (.slice (some ⟨W.heap.size, 0, none⟩) 1 1) [nn] := fun W => own_Byt (l := [nn]) (own_one W nn)
                  have hcv : ∀ W : World, (convert 23 9 (.slice (some ⟨W.heap.size, 0, none⟩) 1 1)).run Tryd.prog (W.alloc (.cells #[bv nn] 5)) = .ok (.string (toB [nn])) (W.alloc (.cells #[bv nn] 5)) := fun W => conv_any (hbt W)
                  have HIL := Lib.hid hiil
                  have HII := hii
                  clear hnn hhx hg t2 hji HGQ HH hp hn256 hE hacc hk hii hiil hfu2
                  generalize acc ++ [nn] = acc2 at *
                  go_wp2_with fail
                  refine (G _).out.mono ?_; rintro e1 w1 ⟨rfl, rfl⟩
                  go_wp2_with fail
                  have := HIL.out
                  have := HII.out
                  exact ⟨⟨ii + 1, f, acc2, by first | (with_reducible rfl) | rw [happ], by go_num, by omega, HAC.out, hb2 _, HFU⟩, by simp [intOf]; omega⟩
          · rw [quotedGo, if_pos hjl] at hgq
            by_cases h34 : (sb s).getD j 0 = 34
            · rw [if_pos h34] at hgq
              subst hgq
              rw [h34] at hg
              clear hgo hc256 hfu h37 h34 hjl
              generalize hq2 : j + 1 = j1 at *
              go_wp2_with fail
              go_ret3
              subst hq2
              exact ⟨rfl, hb⟩
            · rw [if_neg h34, if_neg h37] at hgq
              have u1 : ((((sb s).getD j 0 : Nat) : Int) == 34) = false := by rw [beq_eq_false_iff_ne]; omega
              have u2 : ((((sb s).getD j 0 : Nat) : Int) == 37) = false := by rw [beq_eq_false_iff_ne]; omega
              have hex : s.extract j (j + 1) = toB [(sb s).getD j 0] := by
                rw [ext_sb, show j + 1 - j = 1 by omega]
                rw [List.drop_eq_getElem_cons hjl, List.getD_eq_getElem?_getD, List.getElem?_eq_getElem hjl]
                rfl
              have G := fun W => HP ((sb s).getD j 0) W
              have hj1 : j + 1 ≤ s.size := hlt
              generalize (sb s).getD j 0 = c at *
              cases hp : plainB c with
              | true =>
                rw [hp] at G
                rw [hp, if_pos rfl] at hgq
                have nc := nocat acc [c] (by simp; omega)
                have happ : toB acc ++ toB [c] = toB (acc ++ [c]) := toB_cat _ _
                have HAC : Hid ((acc ++ [c]).length ≤ j + 1) := Lib.hid (by simp; omega)
                have HFU : Hid (s.size < j + 1 + f ∧ quotedGo (sb s) f (j + 1) (acc ++ [c]) = R) := Lib.hid ⟨by omega, hgq⟩
                have HJ1 := Lib.hid hj1
                have kwj2 : IntKind.i64.wrap ((j : Int) + 1) = (j : Int) + 1 := by rw [IntKind.wrap_i64]; omega
                clear hgo hc256 hfu h37 h34 hjl hp hgq hacc hj1 kwj
                generalize acc ++ [c] = acc2 at *
                go_wp2_with fail
                refine (G _).out.mono ?_; rintro e1 w1 ⟨rfl, rfl⟩
                go_wp2_with fail
                have := HJ1.out
                exact ⟨⟨j + 1, f, acc2, by first | (with_reducible rfl) | rw [happ], by go_num, HJ1.out, HAC.out, hb, HFU⟩, by simp [intOf]; omega⟩
              | false =>
                rw [hp] at G
                rw [hp, if_neg (by decide)] at hgq
                subst hgq
                clear hgo hc256 hfu h37 h34 hjl hp hacc
                go_wp2_with fail
                refine (G _).out.mono ?_; rintro e1 w1 ⟨rfl, rfl⟩
                go_wp2_with fail
                go_ret3
                exact ⟨rfl, hb⟩
        · have t2 : decide ((j : Int) < (s.size : Int)) = false := decide_eq_false (by omega)
          have hRe : R = .error 3 := by
            obtain ⟨h1, h2⟩ := hgo.out
            obtain ⟨f, rfl⟩ : ∃ f, kk = f + 1 := ⟨kk - 1, by omega⟩
            rw [quotedGo, if_neg (by rw [HLS.out]; exact hlt)] at h2
            exact h2.symm
          subst hRe
          clear hgo
          go_wp2_with fail
          go_ret3
          exact ⟨rfl, hb⟩
    · rw [if_neg hc]
      have t2 : ((c : Int) == 34) = false := by rw [beq_eq_false_iff_ne]; omega
      clear hc
      go_enter Tryd.func37, Tryd.ntmps37
      go_wp2_with fail
      go_ret3
      exact ⟨rfl, Below.refl _ _⟩
  · rw [if_neg hl]
    have t1 : decide ((s.size : Int) ≤ (a : Int)) = true := decide_eq_true (by omega)
    have t1n : (s.size ≤ a) = True := by simp; omega
    clear hl
    go_enter Tryd.func37, Tryd.ntmps37
    go_wp2_with fail
    go_ret3
    exact ⟨rfl, Below.refl _ _⟩
end Go.Proofs.YtbjjpplhnibjdaaDoor

