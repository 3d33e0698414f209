/- The document's reading: a number. -/
import Derived.Test.YtbjjpplhnibjdaaDoorPsB
namespace Go.Proofs.YtbjjpplhnibjdaaDoor
open Go Go.RowKit

def numE (m : Bool) (ds : List Nat) (E n : Nat) : Except Nat (Int × Nat) :=
  if ds = [] then (if E < n then .error 2 else .error 3)
  else if ds.getD 0 0 = 48 ∧ (1 < ds.length ∨ m = true) then .error 2
  else match numGo 0 ds with
    | none => .error 5
    | some n => .ok (if m then -(n : Int) else (n : Int), E)
theorem numD_is (m : Bool) (l : List Nat) (a : Nat) : numD m l a = numE m (runL 48 57 l a) (a + runN 48 57 (l.drop a)) l.length := rfl
/-- A number that was read, or the error. -/
def numV : Except Nat (Int × Nat) → Value
  | .error k => .tuple #[i64 0, i64 0, i64 k]
  | .ok y => .tuple #[i64 y.1, i64 y.2, i64 0]
theorem runL_getD (f t : Nat) (l : List Nat) (a i : Nat) (h : i < (runL f t l a).length) : (runL f t l a).getD i 0 = l.getD (a + i) 0 := by
  have hl := runL_len f t l a
  rw [hl] at h
  unfold runL
  rw [List.getD_eq_getElem?_getD, List.getD_eq_getElem?_getD, List.getElem?_take_of_lt h, List.getElem?_drop]
theorem run_step {f t b N : Nat} {l : List Nat} (h : b + runN f t (l.drop b) = N) (hb : b < l.length) :
    (f ≤ l.getD b 0 ∧ l.getD b 0 ≤ t ∧ b + 1 + runN f t (l.drop (b + 1)) = N) ∨ (b = N ∧ (l.getD b 0 < f ∨ t < l.getD b 0)) := by
  have hx : l[b]? = some (l.getD b 0) := by
    rw [List.getD_eq_getElem?_getD, List.getElem?_eq_getElem hb]; rfl
  rw [runN_next hx] at h
  split at h
  · rename_i hc; exact .inl ⟨hc.1, hc.2, by omega⟩
  · rename_i hc; exact .inr ⟨by omega, by omega⟩
theorem great_cases (n d : Nat) (hd : d ≤ 9) : (bigB n d = true ∧ (decide ((461168601842738790 : Int) < (n : Int)) = true ∨ (decide ((461168601842738790 : Int) < (n : Int)) = false ∧ ((n : Int) == 461168601842738790) = true ∧ decide ((4 : Int) < (d : Int)) = true)))
    ∨ (bigB n d = false ∧ ((decide ((461168601842738790 : Int) < (n : Int)) = false ∧ ((n : Int) == 461168601842738790) = true ∧ decide ((4 : Int) < (d : Int)) = false) ∨ (decide ((461168601842738790 : Int) < (n : Int)) = false ∧ ((n : Int) == 461168601842738790) = false))) := by
  unfold bigB
  simp only [decide_eq_true_eq, decide_eq_false_iff_not, beq_iff_eq, beq_eq_false_iff_ne]
  omega

set_option maxHeartbeats 32000000 in
set_option maxRecDepth 100000 in
theorem rnumber_minus (s : ByteArray) (a : Nat) (w : World) (hm : s.size ≤ 3000) (hl : a < s.size) (h45 : (sb s).getD a 0 = 45) : Gives 38 #[.string s, i64 a] w (numV (numD true (sb s) (a + 1))) := by
  have HLS := Lib.hid (sb_len s)
  have hai : (a : Int) < (s.size : Int) := by omega
  have t1 : decide ((a : Int) < (s.size : Int)) = true := decide_eq_true hai
  have hgaI : ((s[a].toNat : Nat) : Int) = (((sb s).getD a 0 : Nat) : Int) := congrArg Nat.cast (sb_get hl)
  rw [h45] at hgaI
  have hF1 : a + 1 ≤ s.size := hl
  have kwF : IntKind.i64.wrap ((a : Int) + 1) = (a : Int) + 1 := by rw [IntKind.wrap_i64]; omega
  have hrl := runL_len 48 57 (sb s) (a + 1)
  have hrn := runN_le 48 57 ((sb s).drop (a + 1))
  rw [List.length_drop, sb_len] at hrn
  have hmem := runL_mem 48 57 (sb s) (a + 1)
  have hgd := runL_getD 48 57 (sb s) (a + 1)
  rw [numD_is, sb_len]
  obtain ⟨ds, hds⟩ : ∃ ds, runL 48 57 (sb s) (a + 1) = ds := ⟨_, rfl⟩
  obtain ⟨E, hE0⟩ : ∃ E, (a + 1) + runN 48 57 ((sb s).drop (a + 1)) = E := ⟨_, rfl⟩
  rw [hds] at hrl hmem hgd
  rw [hds, hE0]
  have hdl : ds.length = E - (a + 1) := by omega
  have hEs : E ≤ s.size := by omega
  have HN : Hid ((a + 1) + runN 48 57 ((sb s).drop (a + 1)) = E) := Lib.hid hE0
  have HMEM := Lib.hid hmem
  have HGD := Lib.hid hgd
  obtain ⟨X, hX⟩ : ∃ X, numE true ds E s.size = X := ⟨_, rfl⟩
  rw [hX]
  have HX := Lib.hid hX
  clear hX hgd hmem hE0 hrn hrl hds h45
  go_enter Tryd.func38, Tryd.ntmps38
  go_wp2_with fail
  go_loopw [8] (fun ev wr => ∃ b : Nat, ev = .int .i64 b ∧ (a + 1) ≤ b ∧ b ≤ s.size ∧ Hid (b + runN 48 57 ((sb s).drop b) = E) ∧ wr = w) (fun ev _ => s.size - (intOf ev).toNat)
  case atStart => exact ⟨(a + 1), by go_num, Nat.le_refl _, hF1, HN, rfl⟩
  case round =>
    obtain ⟨b, rfl, hb1, hb2, hn, rfl⟩ := hrel
    clear t1 hgaI HN
    have kb1 : IntKind.i64.wrap ((b : Int) + 1) = (b : Int) + 1 := by rw [IntKind.wrap_i64]; omega
    by_cases hlt : b < s.size
    · have tb : decide ((b : Int) < (s.size : Int)) = true := decide_eq_true (by omega)
      have hbi : (b : Int) < (s.size : Int) := by omega
      have hgb : ((s[b].toNat : Nat) : Int) = (((sb s).getD b 0 : Nat) : Int) := congrArg Nat.cast (sb_get hlt)
      have hst := run_step hn.out (by rw [HLS.out]; exact hlt)
      obtain ⟨c, hc⟩ : ∃ c, (sb s).getD b 0 = c := ⟨_, rfl⟩
      rw [hc] at hgb hst
      rcases hst with ⟨h1, h2, h3⟩ | ⟨hbe, hout⟩
      · have u1 : decide ((48 : Int) ≤ (c : Int)) = true := decide_eq_true (by omega)
        have u2 : decide ((c : Int) ≤ 57) = true := decide_eq_true (by omega)
        have H3 := Lib.hid h3
        have HLT := Lib.hid hlt
        have HB1 := Lib.hid hb1
        clear hn h3 hc hdl
        go_wp2_with fail
        have := HLT.out
        have := HB1.out
        exact ⟨⟨b + 1, by go_num, by omega, by omega, H3.out, by trivial⟩, by simp [intOf]; omega⟩
      · subst hbe
        rcases hout with h1 | h1
        · have u1 : decide ((48 : Int) ≤ (c : Int)) = false := decide_eq_false (by omega)
          clear hn hc h1
          by_cases hds0 : ds = []
          · have hbF : b = (a + 1) := by rw [hds0] at hdl; simp at hdl; omega
            have hx : X = .error 2 := by rw [← HX.out]; unfold numE; rw [if_pos hds0, if_pos (by omega)]
            have v1 : ((b : Int) == (s.size : Int)) = false := by rw [beq_eq_false_iff_ne]; omega
            have v0 : ((b : Int) == ((a : Int) + 1)) = true := by rw [beq_iff_eq]; omega
            subst hx
            clear hds0 hbF hdl
            go_wp2_with fail
            go_ret3
            exact ⟨rfl, rfl⟩
          have hnz : 0 < ds.length := List.length_pos_iff.2 hds0
          have v0 : ((b : Int) == ((a : Int) + 1)) = false := by rw [beq_eq_false_iff_ne]; omega
          have hFl : (a + 1) < s.size := by omega
          have hFi : ((a : Int) + 1) < (s.size : Int) := by omega
          have hgF : ((s[(a + 1)].toNat : Nat) : Int) = (((sb s).getD (a + 1) 0 : Nat) : Int) := congrArg Nat.cast (sb_get hFl)
          have hd0 := HGD.out 0 hnz
          rw [Nat.add_zero] at hd0
          rw [← hd0] at hgF
          have kwF1 : IntKind.i64.wrap (((a : Int) + 1) + 1) = ((a : Int) + 1) + 1 := by rw [IntKind.wrap_i64]; omega
          obtain ⟨x, hx0⟩ : ∃ x, ds.getD 0 0 = x := ⟨_, rfl⟩
          rw [hx0] at hgF
          clear hd0
          by_cases h48 : x = 48
          · subst h48
            by_cases h1 : 1 < ds.length
            · have v2 : decide (((a : Int) + 1) + 1 < (b : Int)) = true := decide_eq_true (by omega)
              have hx : X = .error 2 := by rw [← HX.out]; unfold numE; rw [if_neg hds0, if_pos ⟨hx0, .inl h1⟩]
              subst hx
              clear hds0 hdl hnz hx0
              go_wp2_with fail
              go_ret3
              exact ⟨rfl, rfl⟩
            · have v2 : decide (((a : Int) + 1) + 1 < (b : Int)) = false := decide_eq_false (by omega)
              have v3 : decide ((a : Int) < (a : Int) + 1) = true := decide_eq_true (by omega)
              have hx : X = .error 2 := by rw [← HX.out]; unfold numE; rw [if_neg hds0, if_pos ⟨hx0, .inr rfl⟩]
              subst hx
              clear hds0 hdl hnz hx0
              go_wp2_with fail
              go_ret3
              exact ⟨rfl, rfl⟩
          · have v1 : ((x : Int) == 48) = false := by rw [beq_eq_false_iff_ne]; omega
            have hXX : (match numGo 0 ds with | none => (Except.error 5 : Except Nat (Int × Nat)) | some n => .ok (if true = true then -(n : Int) else (n : Int), b)) = X := by rw [← HX.out]; unfold numE; rw [if_neg hds0, if_neg (by rw [hx0]; exact fun h => h48 h.1)]
            obtain ⟨RES, hRES⟩ : ∃ RES, numGo 0 ds = RES := ⟨_, rfl⟩
            rw [hRES] at hXX
            have HRES : Hid (numGo 0 (ds.drop ((a + 1) - (a + 1))) = RES) := Lib.hid (by rw [Nat.sub_self]; exact hRES)
            have HXX := Lib.hid hXX
            have HDL := Lib.hid hdl
            have v3 : decide ((a : Int) < (a : Int) + 1) = true := decide_eq_true (by omega)
            have hFb : (a + 1) ≤ b := hb1
            clear hXX hRES hds0 hdl hx0 hnz
            go_wp2_with fail
            obtain ⟨wo, rfl⟩ : ∃ wo : World, wo = wr := ⟨_, rfl⟩
            go_loopw [9, 10] (fun nv iv wr => ∃ n i : Nat, nv = .int .i64 n ∧ iv = .int .i64 i ∧ (a + 1) ≤ i ∧ i ≤ b ∧ Hid (n ≤ 4611686018427387904) ∧ Hid (numGo n (ds.drop (i - (a + 1))) = RES) ∧ wr = wo) (fun _ iv _ => b - (intOf iv).toNat)
            case atStart => exact ⟨0, (a + 1), rfl, by go_num, Nat.le_refl _, hFb, Lib.hid (Nat.zero_le _), HRES, rfl⟩
            case round =>
              obtain ⟨n, i, rfl, rfl, hi1, hi2, hn, hgo, rfl⟩ := hrel
              clear HRES hgF v0 kwF1
              by_cases hlt : i < b
              · have tlt : decide ((i : Int) < (b : Int)) = true := decide_eq_true (by omega)
                have hidl : i - (a + 1) < ds.length := by rw [HDL.out]; omega
                obtain ⟨d, hTi, hdr, hd9⟩ := digit_at HMEM.out hidl
                have hgi := HGD.out (i - (a + 1)) hidl
                rw [hTi, show (a + 1) + (i - (a + 1)) = i by omega] at hgi
                have hil : i < s.size := by omega
                have hii : (i : Int) < (s.size : Int) := by omega
                have hgb : ((s[i].toNat : Nat) : Int) = 48 + (d : Int) := by have h9 : ((s[i].toNat : Nat) : Int) = ((48 + d : Nat) : Int) := congrArg Nat.cast ((sb_get hil).trans hgi.symm); omega
                have hgo1 := hgo.out
                rw [hdr, numGo, show 48 + d - 48 = d by omega, show i - (a + 1) + 1 = i + 1 - (a + 1) by omega] at hgo1
                have kw48 : IntKind.u8.wrap (48 + (d : Int) - 48) = (d : Int) := by rw [IntKind.wrap_u8]; omega
                have kwd : IntKind.i64.wrap (d : Int) = (d : Int) := by rw [IntKind.wrap_i64]; omega
                have kwi : IntKind.i64.wrap ((i : Int) + 1) = (i : Int) + 1 := by rw [IntKind.wrap_i64]; omega
                clear hTi hdr hgi hidl
                rcases great_cases n d hd9 with ⟨hbg, hc⟩ | ⟨hbg, hc⟩
                · rw [hbg, if_pos rfl] at hgo1
                  have hx : X = .error 5 := by rw [← HXX.out, ← hgo1]
                  subst hx
                  clear hgo1 hgo hn hbg
                  rcases hc with c1 | ⟨c1, c2, c3⟩
                  all_goals
                    go_wp2_with fail
                    go_ret3
                    exact ⟨rfl, rfl⟩
                · have hb2 := bigB_no hbg
                  rw [hbg, if_neg (by decide)] at hgo1
                  have kw10 : IntKind.i64.wrap (10 * (n : Int)) = 10 * (n : Int) := by rw [IntKind.wrap_i64]; omega
                  have kws : IntKind.i64.wrap (10 * (n : Int) + (d : Int)) = 10 * (n : Int) + (d : Int) := by rw [IntKind.wrap_i64]; omega
                  have HB := Lib.hid hb2
                  have HQ := Lib.hid hgo1
                  have HLT := Lib.hid hlt
                  have HI1 := Lib.hid hi1
                  clear hb2 hgo1 hgo hn hbg
                  rcases hc with ⟨c1, c2, c3⟩ | ⟨c1, c2⟩
                  all_goals
                    go_wp2_with fail
                    refine ⟨⟨10 * n + d, i + 1, by first | (with_reducible rfl) | (congr 1; done) | (congr 1; push_cast; omega), by go_num, by have := HI1.out; omega, HLT.out, HB, HQ, by trivial⟩, ?_⟩
                    have := HLT.out
                    simp [intOf]
                    omega
              · have hie : i = b := by omega
                have tlt : decide ((i : Int) < (b : Int)) = false := decide_eq_false (by omega)
                have hgo1 := hgo.out
                rw [hie, List.drop_eq_nil_of_le (by rw [HDL.out]; omega), numGo] at hgo1
                have kwn : IntKind.i64.wrap (-(n : Int)) = -(n : Int) := by have := hn.out; rw [IntKind.wrap_i64]; omega
                have hx : X = .ok (-(n : Int), b) := by rw [← HXX.out, ← hgo1]; rfl
                subst hx
                clear hgo1 hgo hn hie
                go_wp2_with fail
                go_ret3
                exact ⟨rfl, rfl⟩
        · have u1 : decide ((48 : Int) ≤ (c : Int)) = true := decide_eq_true (by omega)
          have u2 : decide ((c : Int) ≤ 57) = false := decide_eq_false (by omega)
          clear hn hc h1
          by_cases hds0 : ds = []
          · have hbF : b = (a + 1) := by rw [hds0] at hdl; simp at hdl; omega
            have hx : X = .error 2 := by rw [← HX.out]; unfold numE; rw [if_pos hds0, if_pos (by omega)]
            have v1 : ((b : Int) == (s.size : Int)) = false := by rw [beq_eq_false_iff_ne]; omega
            have v0 : ((b : Int) == ((a : Int) + 1)) = true := by rw [beq_iff_eq]; omega
            subst hx
            clear hds0 hbF hdl
            go_wp2_with fail
            go_ret3
            exact ⟨rfl, rfl⟩
          have hnz : 0 < ds.length := List.length_pos_iff.2 hds0
          have v0 : ((b : Int) == ((a : Int) + 1)) = false := by rw [beq_eq_false_iff_ne]; omega
          have hFl : (a + 1) < s.size := by omega
          have hFi : ((a : Int) + 1) < (s.size : Int) := by omega
          have hgF : ((s[(a + 1)].toNat : Nat) : Int) = (((sb s).getD (a + 1) 0 : Nat) : Int) := congrArg Nat.cast (sb_get hFl)
          have hd0 := HGD.out 0 hnz
          rw [Nat.add_zero] at hd0
          rw [← hd0] at hgF
          have kwF1 : IntKind.i64.wrap (((a : Int) + 1) + 1) = ((a : Int) + 1) + 1 := by rw [IntKind.wrap_i64]; omega
          obtain ⟨x, hx0⟩ : ∃ x, ds.getD 0 0 = x := ⟨_, rfl⟩
          rw [hx0] at hgF
          clear hd0
          by_cases h48 : x = 48
          · subst h48
            by_cases h1 : 1 < ds.length
            · have v2 : decide (((a : Int) + 1) + 1 < (b : Int)) = true := decide_eq_true (by omega)
              have hx : X = .error 2 := by rw [← HX.out]; unfold numE; rw [if_neg hds0, if_pos ⟨hx0, .inl h1⟩]
              subst hx
              clear hds0 hdl hnz hx0
              go_wp2_with fail
              go_ret3
              exact ⟨rfl, rfl⟩
            · have v2 : decide (((a : Int) + 1) + 1 < (b : Int)) = false := decide_eq_false (by omega)
              have v3 : decide ((a : Int) < (a : Int) + 1) = true := decide_eq_true (by omega)
              have hx : X = .error 2 := by rw [← HX.out]; unfold numE; rw [if_neg hds0, if_pos ⟨hx0, .inr rfl⟩]
              subst hx
              clear hds0 hdl hnz hx0
              go_wp2_with fail
              go_ret3
              exact ⟨rfl, rfl⟩
          · have v1 : ((x : Int) == 48) = false := by rw [beq_eq_false_iff_ne]; omega
            have hXX : (match numGo 0 ds with | none => (Except.error 5 : Except Nat (Int × Nat)) | some n => .ok (if true = true then -(n : Int) else (n : Int), b)) = X := by rw [← HX.out]; unfold numE; rw [if_neg hds0, if_neg (by rw [hx0]; exact fun h => h48 h.1)]
            obtain ⟨RES, hRES⟩ : ∃ RES, numGo 0 ds = RES := ⟨_, rfl⟩
            rw [hRES] at hXX
            have HRES : Hid (numGo 0 (ds.drop ((a + 1) - (a + 1))) = RES) := Lib.hid (by rw [Nat.sub_self]; exact hRES)
            have HXX := Lib.hid hXX
            have HDL := Lib.hid hdl
            have v3 : decide ((a : Int) < (a : Int) + 1) = true := decide_eq_true (by omega)
            have hFb : (a + 1) ≤ b := hb1
            clear hXX hRES hds0 hdl hx0 hnz
            go_wp2_with fail
            obtain ⟨wo, rfl⟩ : ∃ wo : World, wo = wr := ⟨_, rfl⟩
            go_loopw [9, 10] (fun nv iv wr => ∃ n i : Nat, nv = .int .i64 n ∧ iv = .int .i64 i ∧ (a + 1) ≤ i ∧ i ≤ b ∧ Hid (n ≤ 4611686018427387904) ∧ Hid (numGo n (ds.drop (i - (a + 1))) = RES) ∧ wr = wo) (fun _ iv _ => b - (intOf iv).toNat)
            case atStart => exact ⟨0, (a + 1), rfl, by go_num, Nat.le_refl _, hFb, Lib.hid (Nat.zero_le _), HRES, rfl⟩
            case round =>
              obtain ⟨n, i, rfl, rfl, hi1, hi2, hn, hgo, rfl⟩ := hrel
              clear HRES hgF v0 kwF1
              by_cases hlt : i < b
              · have tlt : decide ((i : Int) < (b : Int)) = true := decide_eq_true (by omega)
                have hidl : i - (a + 1) < ds.length := by rw [HDL.out]; omega
                obtain ⟨d, hTi, hdr, hd9⟩ := digit_at HMEM.out hidl
                have hgi := HGD.out (i - (a + 1)) hidl
                rw [hTi, show (a + 1) + (i - (a + 1)) = i by omega] at hgi
                have hil : i < s.size := by omega
                have hii : (i : Int) < (s.size : Int) := by omega
                have hgb : ((s[i].toNat : Nat) : Int) = 48 + (d : Int) := by have h9 : ((s[i].toNat : Nat) : Int) = ((48 + d : Nat) : Int) := congrArg Nat.cast ((sb_get hil).trans hgi.symm); omega
                have hgo1 := hgo.out
                rw [hdr, numGo, show 48 + d - 48 = d by omega, show i - (a + 1) + 1 = i + 1 - (a + 1) by omega] at hgo1
                have kw48 : IntKind.u8.wrap (48 + (d : Int) - 48) = (d : Int) := by rw [IntKind.wrap_u8]; omega
                have kwd : IntKind.i64.wrap (d : Int) = (d : Int) := by rw [IntKind.wrap_i64]; omega
                have kwi : IntKind.i64.wrap ((i : Int) + 1) = (i : Int) + 1 := by rw [IntKind.wrap_i64]; omega
                clear hTi hdr hgi hidl
                rcases great_cases n d hd9 with ⟨hbg, hc⟩ | ⟨hbg, hc⟩
                · rw [hbg, if_pos rfl] at hgo1
                  have hx : X = .error 5 := by rw [← HXX.out, ← hgo1]
                  subst hx
                  clear hgo1 hgo hn hbg
                  rcases hc with c1 | ⟨c1, c2, c3⟩
                  all_goals
                    go_wp2_with fail
                    go_ret3
                    exact ⟨rfl, rfl⟩
                · have hb2 := bigB_no hbg
                  rw [hbg, if_neg (by decide)] at hgo1
                  have kw10 : IntKind.i64.wrap (10 * (n : Int)) = 10 * (n : Int) := by rw [IntKind.wrap_i64]; omega
                  have kws : IntKind.i64.wrap (10 * (n : Int) + (d : Int)) = 10 * (n : Int) + (d : Int) := by rw [IntKind.wrap_i64]; omega
                  have HB := Lib.hid hb2
                  have HQ := Lib.hid hgo1
                  have HLT := Lib.hid hlt
                  have HI1 := Lib.hid hi1
                  clear hb2 hgo1 hgo hn hbg
                  rcases hc with ⟨c1, c2, c3⟩ | ⟨c1, c2⟩
                  all_goals
                    go_wp2_with fail
                    refine ⟨⟨10 * n + d, i + 1, by first | (with_reducible rfl) | (congr 1; done) | (congr 1; push_cast; omega), by go_num, by have := HI1.out; omega, HLT.out, HB, HQ, by trivial⟩, ?_⟩
                    have := HLT.out
                    simp [intOf]
                    omega
              · have hie : i = b := by omega
                have tlt : decide ((i : Int) < (b : Int)) = false := decide_eq_false (by omega)
                have hgo1 := hgo.out
                rw [hie, List.drop_eq_nil_of_le (by rw [HDL.out]; omega), numGo] at hgo1
                have kwn : IntKind.i64.wrap (-(n : Int)) = -(n : Int) := by have := hn.out; rw [IntKind.wrap_i64]; omega
                have hx : X = .ok (-(n : Int), b) := by rw [← HXX.out, ← hgo1]; rfl
                subst hx
                clear hgo1 hgo hn hie
                go_wp2_with fail
                go_ret3
                exact ⟨rfl, rfl⟩
    · have tb : decide ((b : Int) < (s.size : Int)) = false := decide_eq_false (by omega)
      have hbe : b = E := by
        have := hn.out
        rw [List.drop_eq_nil_of_le (by rw [HLS.out]; omega)] at this
        exact this
      subst hbe
      clear hn
      by_cases hds0 : ds = []
      · have hbF : b = (a + 1) := by rw [hds0] at hdl; simp at hdl; omega
        have hx : X = .error 3 := by rw [← HX.out]; unfold numE; rw [if_pos hds0, if_neg (by omega)]
        have v1 : ((b : Int) == (s.size : Int)) = true := by rw [beq_iff_eq]; omega
        have v0 : ((b : Int) == ((a : Int) + 1)) = true := by rw [beq_iff_eq]; omega
        subst hx
        clear hds0 hbF hdl
        go_wp2_with fail
        go_ret3
        exact ⟨rfl, rfl⟩
      have hnz : 0 < ds.length := List.length_pos_iff.2 hds0
      have v0 : ((b : Int) == ((a : Int) + 1)) = false := by rw [beq_eq_false_iff_ne]; omega
      have hFl : (a + 1) < s.size := by omega
      have hFi : ((a : Int) + 1) < (s.size : Int) := by omega
      have hgF : ((s[(a + 1)].toNat : Nat) : Int) = (((sb s).getD (a + 1) 0 : Nat) : Int) := congrArg Nat.cast (sb_get hFl)
      have hd0 := HGD.out 0 hnz
      rw [Nat.add_zero] at hd0
      rw [← hd0] at hgF
      have kwF1 : IntKind.i64.wrap (((a : Int) + 1) + 1) = ((a : Int) + 1) + 1 := by rw [IntKind.wrap_i64]; omega
      obtain ⟨x, hx0⟩ : ∃ x, ds.getD 0 0 = x := ⟨_, rfl⟩
      rw [hx0] at hgF
      clear hd0
      by_cases h48 : x = 48
      · subst h48
        by_cases h1 : 1 < ds.length
        · have v2 : decide (((a : Int) + 1) + 1 < (b : Int)) = true := decide_eq_true (by omega)
          have hx : X = .error 2 := by rw [← HX.out]; unfold numE; rw [if_neg hds0, if_pos ⟨hx0, .inl h1⟩]
          subst hx
          clear hds0 hdl hnz hx0
          go_wp2_with fail
          go_ret3
          exact ⟨rfl, rfl⟩
        · have v2 : decide (((a : Int) + 1) + 1 < (b : Int)) = false := decide_eq_false (by omega)
          have v3 : decide ((a : Int) < (a : Int) + 1) = true := decide_eq_true (by omega)
          have hx : X = .error 2 := by rw [← HX.out]; unfold numE; rw [if_neg hds0, if_pos ⟨hx0, .inr rfl⟩]
          subst hx
          clear hds0 hdl hnz hx0
          go_wp2_with fail
          go_ret3
          exact ⟨rfl, rfl⟩
      · have v1 : ((x : Int) == 48) = false := by rw [beq_eq_false_iff_ne]; omega
        have hXX : (match numGo 0 ds with | none => (Except.error 5 : Except Nat (Int × Nat)) | some n => .ok (if true = true then -(n : Int) else (n : Int), b)) = X := by rw [← HX.out]; unfold numE; rw [if_neg hds0, if_neg (by rw [hx0]; exact fun h => h48 h.1)]
        obtain ⟨RES, hRES⟩ : ∃ RES, numGo 0 ds = RES := ⟨_, rfl⟩
        rw [hRES] at hXX
        have HRES : Hid (numGo 0 (ds.drop ((a + 1) - (a + 1))) = RES) := Lib.hid (by rw [Nat.sub_self]; exact hRES)
        have HXX := Lib.hid hXX
        have HDL := Lib.hid hdl
        have v3 : decide ((a : Int) < (a : Int) + 1) = true := decide_eq_true (by omega)
        have hFb : (a + 1) ≤ b := hb1
        clear hXX hRES hds0 hdl hx0 hnz
        go_wp2_with fail
        obtain ⟨wo, rfl⟩ : ∃ wo : World, wo = wr := ⟨_, rfl⟩
        go_loopw [9, 10] (fun nv iv wr => ∃ n i : Nat, nv = .int .i64 n ∧ iv = .int .i64 i ∧ (a + 1) ≤ i ∧ i ≤ b ∧ Hid (n ≤ 4611686018427387904) ∧ Hid (numGo n (ds.drop (i - (a + 1))) = RES) ∧ wr = wo) (fun _ iv _ => b - (intOf iv).toNat)
        case atStart => exact ⟨0, (a + 1), rfl, by go_num, Nat.le_refl _, hFb, Lib.hid (Nat.zero_le _), HRES, rfl⟩
        case round =>
          obtain ⟨n, i, rfl, rfl, hi1, hi2, hn, hgo, rfl⟩ := hrel
          clear HRES hgF v0 kwF1
          by_cases hlt : i < b
          · have tlt : decide ((i : Int) < (b : Int)) = true := decide_eq_true (by omega)
            have hidl : i - (a + 1) < ds.length := by rw [HDL.out]; omega
            obtain ⟨d, hTi, hdr, hd9⟩ := digit_at HMEM.out hidl
            have hgi := HGD.out (i - (a + 1)) hidl
            rw [hTi, show (a + 1) + (i - (a + 1)) = i by omega] at hgi
            have hil : i < s.size := by omega
            have hii : (i : Int) < (s.size : Int) := by omega
            have hgb : ((s[i].toNat : Nat) : Int) = 48 + (d : Int) := by have h9 : ((s[i].toNat : Nat) : Int) = ((48 + d : Nat) : Int) := congrArg Nat.cast ((sb_get hil).trans hgi.symm); omega
            have hgo1 := hgo.out
            rw [hdr, numGo, show 48 + d - 48 = d by omega, show i - (a + 1) + 1 = i + 1 - (a + 1) by omega] at hgo1
            have kw48 : IntKind.u8.wrap (48 + (d : Int) - 48) = (d : Int) := by rw [IntKind.wrap_u8]; omega
            have kwd : IntKind.i64.wrap (d : Int) = (d : Int) := by rw [IntKind.wrap_i64]; omega
            have kwi : IntKind.i64.wrap ((i : Int) + 1) = (i : Int) + 1 := by rw [IntKind.wrap_i64]; omega
            clear hTi hdr hgi hidl
            rcases great_cases n d hd9 with ⟨hbg, hc⟩ | ⟨hbg, hc⟩
            · rw [hbg, if_pos rfl] at hgo1
              have hx : X = .error 5 := by rw [← HXX.out, ← hgo1]
              subst hx
              clear hgo1 hgo hn hbg
              rcases hc with c1 | ⟨c1, c2, c3⟩
              all_goals
                go_wp2_with fail
                go_ret3
                exact ⟨rfl, rfl⟩
            · have hb2 := bigB_no hbg
              rw [hbg, if_neg (by decide)] at hgo1
              have kw10 : IntKind.i64.wrap (10 * (n : Int)) = 10 * (n : Int) := by rw [IntKind.wrap_i64]; omega
              have kws : IntKind.i64.wrap (10 * (n : Int) + (d : Int)) = 10 * (n : Int) + (d : Int) := by rw [IntKind.wrap_i64]; omega
              have HB := Lib.hid hb2
              have HQ := Lib.hid hgo1
              have HLT := Lib.hid hlt
              have HI1 := Lib.hid hi1
              clear hb2 hgo1 hgo hn hbg
              rcases hc with ⟨c1, c2, c3⟩ | ⟨c1, c2⟩
              all_goals
                go_wp2_with fail
                refine ⟨⟨10 * n + d, i + 1, by first | (with_reducible rfl) | (congr 1; done) | (congr 1; push_cast; omega), by go_num, by have := HI1.out; omega, HLT.out, HB, HQ, by trivial⟩, ?_⟩
                have := HLT.out
                simp [intOf]
                omega
          · have hie : i = b := by omega
            have tlt : decide ((i : Int) < (b : Int)) = false := decide_eq_false (by omega)
            have hgo1 := hgo.out
            rw [hie, List.drop_eq_nil_of_le (by rw [HDL.out]; omega), numGo] at hgo1
            have kwn : IntKind.i64.wrap (-(n : Int)) = -(n : Int) := by have := hn.out; rw [IntKind.wrap_i64]; omega
            have hx : X = .ok (-(n : Int), b) := by rw [← HXX.out, ← hgo1]; rfl
            subst hx
            clear hgo1 hgo hn hie
            go_wp2_with fail
            go_ret3
            exact ⟨rfl, rfl⟩

set_option maxHeartbeats 32000000 in
set_option maxRecDepth 100000 in
theorem rnumber_plus (s : ByteArray) (a : Nat) (w : World) (hm : s.size ≤ 3000) (hl : a < s.size) (h45 : ¬ (sb s).getD a 0 = 45) : Gives 38 #[.string s, i64 a] w (numV (numD false (sb s) a)) := by
  have HLS := Lib.hid (sb_len s)
  have hai : (a : Int) < (s.size : Int) := by omega
  have t1 : decide ((a : Int) < (s.size : Int)) = true := decide_eq_true hai
  have hgaI : ((s[a].toNat : Nat) : Int) = (((sb s).getD a 0 : Nat) : Int) := congrArg Nat.cast (sb_get hl)
  have t2 : ((((sb s).getD a 0 : Nat) : Int) == 45) = false := by rw [beq_eq_false_iff_ne]; omega
  obtain ⟨c0, hc0⟩ : ∃ c, (sb s).getD a 0 = c := ⟨_, rfl⟩
  rw [hc0] at hgaI t2
  have hF1 : a ≤ s.size := by omega
  clear hc0
  have hrl := runL_len 48 57 (sb s) a
  have hrn := runN_le 48 57 ((sb s).drop a)
  rw [List.length_drop, sb_len] at hrn
  have hmem := runL_mem 48 57 (sb s) a
  have hgd := runL_getD 48 57 (sb s) a
  rw [numD_is, sb_len]
  obtain ⟨ds, hds⟩ : ∃ ds, runL 48 57 (sb s) a = ds := ⟨_, rfl⟩
  obtain ⟨E, hE0⟩ : ∃ E, a + runN 48 57 ((sb s).drop a) = E := ⟨_, rfl⟩
  rw [hds] at hrl hmem hgd
  rw [hds, hE0]
  have hdl : ds.length = E - a := by omega
  have hEs : E ≤ s.size := by omega
  have HN : Hid (a + runN 48 57 ((sb s).drop a) = E) := Lib.hid hE0
  have HMEM := Lib.hid hmem
  have HGD := Lib.hid hgd
  obtain ⟨X, hX⟩ : ∃ X, numE false ds E s.size = X := ⟨_, rfl⟩
  rw [hX]
  have HX := Lib.hid hX
  clear hX hgd hmem hE0 hrn hrl hds h45
  go_enter Tryd.func38, Tryd.ntmps38
  go_wp2_with fail
  go_loopw [8] (fun ev wr => ∃ b : Nat, ev = .int .i64 b ∧ a ≤ b ∧ b ≤ s.size ∧ Hid (b + runN 48 57 ((sb s).drop b) = E) ∧ wr = w) (fun ev _ => s.size - (intOf ev).toNat)
  case atStart => exact ⟨a, by go_num, Nat.le_refl _, hF1, HN, rfl⟩
  case round =>
    obtain ⟨b, rfl, hb1, hb2, hn, rfl⟩ := hrel
    clear t1 hgaI HN t2
    have kb1 : IntKind.i64.wrap ((b : Int) + 1) = (b : Int) + 1 := by rw [IntKind.wrap_i64]; omega
    by_cases hlt : b < s.size
    · have tb : decide ((b : Int) < (s.size : Int)) = true := decide_eq_true (by omega)
      have hbi : (b : Int) < (s.size : Int) := by omega
      have hgb : ((s[b].toNat : Nat) : Int) = (((sb s).getD b 0 : Nat) : Int) := congrArg Nat.cast (sb_get hlt)
      have hst := run_step hn.out (by rw [HLS.out]; exact hlt)
      obtain ⟨c, hc⟩ : ∃ c, (sb s).getD b 0 = c := ⟨_, rfl⟩
      rw [hc] at hgb hst
      rcases hst with ⟨h1, h2, h3⟩ | ⟨hbe, hout⟩
      · have u1 : decide ((48 : Int) ≤ (c : Int)) = true := decide_eq_true (by omega)
        have u2 : decide ((c : Int) ≤ 57) = true := decide_eq_true (by omega)
        have H3 := Lib.hid h3
        have HLT := Lib.hid hlt
        have HB1 := Lib.hid hb1
        clear hn h3 hc hdl
        go_wp2_with fail
        have := HLT.out
        have := HB1.out
        exact ⟨⟨b + 1, by go_num, by omega, by omega, H3.out, by trivial⟩, by simp [intOf]; omega⟩
      · subst hbe
        rcases hout with h1 | h1
        · have u1 : decide ((48 : Int) ≤ (c : Int)) = false := decide_eq_false (by omega)
          clear hn hc h1
          by_cases hds0 : ds = []
          · have hbF : b = a := by rw [hds0] at hdl; simp at hdl; omega
            have hx : X = .error 2 := by rw [← HX.out]; unfold numE; rw [if_pos hds0, if_pos (by omega)]
            have v1 : ((b : Int) == (s.size : Int)) = false := by rw [beq_eq_false_iff_ne]; omega
            have v0 : ((b : Int) == (a : Int)) = true := by rw [beq_iff_eq]; omega
            subst hx
            clear hds0 hbF hdl
            go_wp2_with fail
            go_ret3
            exact ⟨rfl, rfl⟩
          have hnz : 0 < ds.length := List.length_pos_iff.2 hds0
          have v0 : ((b : Int) == (a : Int)) = false := by rw [beq_eq_false_iff_ne]; omega
          have hFl : a < s.size := by omega
          have hFi : (a : Int) < (s.size : Int) := by omega
          have hgF : ((s[a].toNat : Nat) : Int) = (((sb s).getD a 0 : Nat) : Int) := congrArg Nat.cast (sb_get hFl)
          have hd0 := HGD.out 0 hnz
          rw [Nat.add_zero] at hd0
          rw [← hd0] at hgF
          have kwF1 : IntKind.i64.wrap ((a : Int) + 1) = (a : Int) + 1 := by rw [IntKind.wrap_i64]; omega
          obtain ⟨x, hx0⟩ : ∃ x, ds.getD 0 0 = x := ⟨_, rfl⟩
          rw [hx0] at hgF
          clear hd0
          by_cases h48 : x = 48
          · subst h48
            by_cases h1 : 1 < ds.length
            · have v2 : decide ((a : Int) + 1 < (b : Int)) = true := decide_eq_true (by omega)
              have hx : X = .error 2 := by rw [← HX.out]; unfold numE; rw [if_neg hds0, if_pos ⟨hx0, .inl h1⟩]
              subst hx
              clear hds0 hdl hnz hx0
              go_wp2_with fail
              go_ret3
              exact ⟨rfl, rfl⟩
            · have v2 : decide ((a : Int) + 1 < (b : Int)) = false := decide_eq_false (by omega)
              have hXX : (match numGo 0 ds with | none => (Except.error 5 : Except Nat (Int × Nat)) | some n => .ok (if false = true then -(n : Int) else (n : Int), b)) = X := by rw [← HX.out]; unfold numE; rw [if_neg hds0, if_neg (by rintro ⟨_, h | h⟩; exact h1 h; cases h)]
              obtain ⟨RES, hRES⟩ : ∃ RES, numGo 0 ds = RES := ⟨_, rfl⟩
              rw [hRES] at hXX
              have HRES : Hid (numGo 0 (ds.drop (a - a)) = RES) := Lib.hid (by rw [Nat.sub_self]; exact hRES)
              have HXX := Lib.hid hXX
              have HDL := Lib.hid hdl
              have hFb : a ≤ b := hb1
              clear hXX hRES hds0 hdl hx0 hnz
              go_wp2_with fail
              obtain ⟨wo, rfl⟩ : ∃ wo : World, wo = wr := ⟨_, rfl⟩
              go_loopw [9, 10] (fun nv iv wr => ∃ n i : Nat, nv = .int .i64 n ∧ iv = .int .i64 i ∧ a ≤ i ∧ i ≤ b ∧ Hid (n ≤ 4611686018427387904) ∧ Hid (numGo n (ds.drop (i - a)) = RES) ∧ wr = wo) (fun _ iv _ => b - (intOf iv).toNat)
              case atStart => exact ⟨0, a, rfl, by go_num, Nat.le_refl _, hFb, Lib.hid (Nat.zero_le _), HRES, rfl⟩
              case round =>
                obtain ⟨n, i, rfl, rfl, hi1, hi2, hn, hgo, rfl⟩ := hrel
                clear HRES hgF v0 kwF1
                by_cases hlt : i < b
                · have tlt : decide ((i : Int) < (b : Int)) = true := decide_eq_true (by omega)
                  have hidl : i - a < ds.length := by rw [HDL.out]; omega
                  obtain ⟨d, hTi, hdr, hd9⟩ := digit_at HMEM.out hidl
                  have hgi := HGD.out (i - a) hidl
                  rw [hTi, show a + (i - a) = i by omega] at hgi
                  have hil : i < s.size := by omega
                  have hii : (i : Int) < (s.size : Int) := by omega
                  have hgb : ((s[i].toNat : Nat) : Int) = 48 + (d : Int) := by have h9 : ((s[i].toNat : Nat) : Int) = ((48 + d : Nat) : Int) := congrArg Nat.cast ((sb_get hil).trans hgi.symm); omega
                  have hgo1 := hgo.out
                  rw [hdr, numGo, show 48 + d - 48 = d by omega, show i - a + 1 = i + 1 - a by omega] at hgo1
                  have kw48 : IntKind.u8.wrap (48 + (d : Int) - 48) = (d : Int) := by rw [IntKind.wrap_u8]; omega
                  have kwd : IntKind.i64.wrap (d : Int) = (d : Int) := by rw [IntKind.wrap_i64]; omega
                  have kwi : IntKind.i64.wrap ((i : Int) + 1) = (i : Int) + 1 := by rw [IntKind.wrap_i64]; omega
                  clear hTi hdr hgi hidl
                  rcases great_cases n d hd9 with ⟨hbg, hc⟩ | ⟨hbg, hc⟩
                  · rw [hbg, if_pos rfl] at hgo1
                    have hx : X = .error 5 := by rw [← HXX.out, ← hgo1]
                    subst hx
                    clear hgo1 hgo hn hbg
                    rcases hc with c1 | ⟨c1, c2, c3⟩
                    all_goals
                      go_wp2_with fail
                      go_ret3
                      exact ⟨rfl, rfl⟩
                  · have hb2 := bigB_no hbg
                    rw [hbg, if_neg (by decide)] at hgo1
                    have kw10 : IntKind.i64.wrap (10 * (n : Int)) = 10 * (n : Int) := by rw [IntKind.wrap_i64]; omega
                    have kws : IntKind.i64.wrap (10 * (n : Int) + (d : Int)) = 10 * (n : Int) + (d : Int) := by rw [IntKind.wrap_i64]; omega
                    have HB := Lib.hid hb2
                    have HQ := Lib.hid hgo1
                    have HLT := Lib.hid hlt
                    have HI1 := Lib.hid hi1
                    clear hb2 hgo1 hgo hn hbg
                    rcases hc with ⟨c1, c2, c3⟩ | ⟨c1, c2⟩
                    all_goals
                      go_wp2_with fail
                      refine ⟨⟨10 * n + d, i + 1, by first | (with_reducible rfl) | (congr 1; done) | (congr 1; push_cast; omega), by go_num, by have := HI1.out; omega, HLT.out, HB, HQ, by trivial⟩, ?_⟩
                      have := HLT.out
                      simp [intOf]
                      omega
                · have hie : i = b := by omega
                  have tlt : decide ((i : Int) < (b : Int)) = false := decide_eq_false (by omega)
                  have hgo1 := hgo.out
                  rw [hie, List.drop_eq_nil_of_le (by rw [HDL.out]; omega), numGo] at hgo1
                  have hx : X = .ok ((n : Int), b) := by rw [← HXX.out, ← hgo1]; rfl
                  subst hx
                  clear hgo1 hgo hn hie
                  go_wp2_with fail
                  go_ret3
                  exact ⟨rfl, rfl⟩
          · have v1 : ((x : Int) == 48) = false := by rw [beq_eq_false_iff_ne]; omega
            have hXX : (match numGo 0 ds with | none => (Except.error 5 : Except Nat (Int × Nat)) | some n => .ok (if false = true then -(n : Int) else (n : Int), b)) = X := by rw [← HX.out]; unfold numE; rw [if_neg hds0, if_neg (by rw [hx0]; exact fun h => h48 h.1)]
            obtain ⟨RES, hRES⟩ : ∃ RES, numGo 0 ds = RES := ⟨_, rfl⟩
            rw [hRES] at hXX
            have HRES : Hid (numGo 0 (ds.drop (a - a)) = RES) := Lib.hid (by rw [Nat.sub_self]; exact hRES)
            have HXX := Lib.hid hXX
            have HDL := Lib.hid hdl
            have hFb : a ≤ b := hb1
            clear hXX hRES hds0 hdl hx0 hnz
            go_wp2_with fail
            obtain ⟨wo, rfl⟩ : ∃ wo : World, wo = wr := ⟨_, rfl⟩
            go_loopw [9, 10] (fun nv iv wr => ∃ n i : Nat, nv = .int .i64 n ∧ iv = .int .i64 i ∧ a ≤ i ∧ i ≤ b ∧ Hid (n ≤ 4611686018427387904) ∧ Hid (numGo n (ds.drop (i - a)) = RES) ∧ wr = wo) (fun _ iv _ => b - (intOf iv).toNat)
            case atStart => exact ⟨0, a, rfl, by go_num, Nat.le_refl _, hFb, Lib.hid (Nat.zero_le _), HRES, rfl⟩
            case round =>
              obtain ⟨n, i, rfl, rfl, hi1, hi2, hn, hgo, rfl⟩ := hrel
              clear HRES hgF v0 kwF1
              by_cases hlt : i < b
              · have tlt : decide ((i : Int) < (b : Int)) = true := decide_eq_true (by omega)
                have hidl : i - a < ds.length := by rw [HDL.out]; omega
                obtain ⟨d, hTi, hdr, hd9⟩ := digit_at HMEM.out hidl
                have hgi := HGD.out (i - a) hidl
                rw [hTi, show a + (i - a) = i by omega] at hgi
                have hil : i < s.size := by omega
                have hii : (i : Int) < (s.size : Int) := by omega
                have hgb : ((s[i].toNat : Nat) : Int) = 48 + (d : Int) := by have h9 : ((s[i].toNat : Nat) : Int) = ((48 + d : Nat) : Int) := congrArg Nat.cast ((sb_get hil).trans hgi.symm); omega
                have hgo1 := hgo.out
                rw [hdr, numGo, show 48 + d - 48 = d by omega, show i - a + 1 = i + 1 - a by omega] at hgo1
                have kw48 : IntKind.u8.wrap (48 + (d : Int) - 48) = (d : Int) := by rw [IntKind.wrap_u8]; omega
                have kwd : IntKind.i64.wrap (d : Int) = (d : Int) := by rw [IntKind.wrap_i64]; omega
                have kwi : IntKind.i64.wrap ((i : Int) + 1) = (i : Int) + 1 := by rw [IntKind.wrap_i64]; omega
                clear hTi hdr hgi hidl
                rcases great_cases n d hd9 with ⟨hbg, hc⟩ | ⟨hbg, hc⟩
                · rw [hbg, if_pos rfl] at hgo1
                  have hx : X = .error 5 := by rw [← HXX.out, ← hgo1]
                  subst hx
                  clear hgo1 hgo hn hbg
                  rcases hc with c1 | ⟨c1, c2, c3⟩
                  all_goals
                    go_wp2_with fail
                    go_ret3
                    exact ⟨rfl, rfl⟩
                · have hb2 := bigB_no hbg
                  rw [hbg, if_neg (by decide)] at hgo1
                  have kw10 : IntKind.i64.wrap (10 * (n : Int)) = 10 * (n : Int) := by rw [IntKind.wrap_i64]; omega
                  have kws : IntKind.i64.wrap (10 * (n : Int) + (d : Int)) = 10 * (n : Int) + (d : Int) := by rw [IntKind.wrap_i64]; omega
                  have HB := Lib.hid hb2
                  have HQ := Lib.hid hgo1
                  have HLT := Lib.hid hlt
                  have HI1 := Lib.hid hi1
                  clear hb2 hgo1 hgo hn hbg
                  rcases hc with ⟨c1, c2, c3⟩ | ⟨c1, c2⟩
                  all_goals
                    go_wp2_with fail
                    refine ⟨⟨10 * n + d, i + 1, by first | (with_reducible rfl) | (congr 1; done) | (congr 1; push_cast; omega), by go_num, by have := HI1.out; omega, HLT.out, HB, HQ, by trivial⟩, ?_⟩
                    have := HLT.out
                    simp [intOf]
                    omega
              · have hie : i = b := by omega
                have tlt : decide ((i : Int) < (b : Int)) = false := decide_eq_false (by omega)
                have hgo1 := hgo.out
                rw [hie, List.drop_eq_nil_of_le (by rw [HDL.out]; omega), numGo] at hgo1
                have hx : X = .ok ((n : Int), b) := by rw [← HXX.out, ← hgo1]; rfl
                subst hx
                clear hgo1 hgo hn hie
                go_wp2_with fail
                go_ret3
                exact ⟨rfl, rfl⟩
        · have u1 : decide ((48 : Int) ≤ (c : Int)) = true := decide_eq_true (by omega)
          have u2 : decide ((c : Int) ≤ 57) = false := decide_eq_false (by omega)
          clear hn hc h1
          by_cases hds0 : ds = []
          · have hbF : b = a := by rw [hds0] at hdl; simp at hdl; omega
            have hx : X = .error 2 := by rw [← HX.out]; unfold numE; rw [if_pos hds0, if_pos (by omega)]
            have v1 : ((b : Int) == (s.size : Int)) = false := by rw [beq_eq_false_iff_ne]; omega
            have v0 : ((b : Int) == (a : Int)) = true := by rw [beq_iff_eq]; omega
            subst hx
            clear hds0 hbF hdl
            go_wp2_with fail
            go_ret3
            exact ⟨rfl, rfl⟩
          have hnz : 0 < ds.length := List.length_pos_iff.2 hds0
          have v0 : ((b : Int) == (a : Int)) = false := by rw [beq_eq_false_iff_ne]; omega
          have hFl : a < s.size := by omega
          have hFi : (a : Int) < (s.size : Int) := by omega
          have hgF : ((s[a].toNat : Nat) : Int) = (((sb s).getD a 0 : Nat) : Int) := congrArg Nat.cast (sb_get hFl)
          have hd0 := HGD.out 0 hnz
          rw [Nat.add_zero] at hd0
          rw [← hd0] at hgF
          have kwF1 : IntKind.i64.wrap ((a : Int) + 1) = (a : Int) + 1 := by rw [IntKind.wrap_i64]; omega
          obtain ⟨x, hx0⟩ : ∃ x, ds.getD 0 0 = x := ⟨_, rfl⟩
          rw [hx0] at hgF
          clear hd0
          by_cases h48 : x = 48
          · subst h48
            by_cases h1 : 1 < ds.length
            · have v2 : decide ((a : Int) + 1 < (b : Int)) = true := decide_eq_true (by omega)
              have hx : X = .error 2 := by rw [← HX.out]; unfold numE; rw [if_neg hds0, if_pos ⟨hx0, .inl h1⟩]
              subst hx
              clear hds0 hdl hnz hx0
              go_wp2_with fail
              go_ret3
              exact ⟨rfl, rfl⟩
            · have v2 : decide ((a : Int) + 1 < (b : Int)) = false := decide_eq_false (by omega)
              have hXX : (match numGo 0 ds with | none => (Except.error 5 : Except Nat (Int × Nat)) | some n => .ok (if false = true then -(n : Int) else (n : Int), b)) = X := by rw [← HX.out]; unfold numE; rw [if_neg hds0, if_neg (by rintro ⟨_, h | h⟩; exact h1 h; cases h)]
              obtain ⟨RES, hRES⟩ : ∃ RES, numGo 0 ds = RES := ⟨_, rfl⟩
              rw [hRES] at hXX
              have HRES : Hid (numGo 0 (ds.drop (a - a)) = RES) := Lib.hid (by rw [Nat.sub_self]; exact hRES)
              have HXX := Lib.hid hXX
              have HDL := Lib.hid hdl
              have hFb : a ≤ b := hb1
              clear hXX hRES hds0 hdl hx0 hnz
              go_wp2_with fail
              obtain ⟨wo, rfl⟩ : ∃ wo : World, wo = wr := ⟨_, rfl⟩
              go_loopw [9, 10] (fun nv iv wr => ∃ n i : Nat, nv = .int .i64 n ∧ iv = .int .i64 i ∧ a ≤ i ∧ i ≤ b ∧ Hid (n ≤ 4611686018427387904) ∧ Hid (numGo n (ds.drop (i - a)) = RES) ∧ wr = wo) (fun _ iv _ => b - (intOf iv).toNat)
              case atStart => exact ⟨0, a, rfl, by go_num, Nat.le_refl _, hFb, Lib.hid (Nat.zero_le _), HRES, rfl⟩
              case round =>
                obtain ⟨n, i, rfl, rfl, hi1, hi2, hn, hgo, rfl⟩ := hrel
                clear HRES hgF v0 kwF1
                by_cases hlt : i < b
                · have tlt : decide ((i : Int) < (b : Int)) = true := decide_eq_true (by omega)
                  have hidl : i - a < ds.length := by rw [HDL.out]; omega
                  obtain ⟨d, hTi, hdr, hd9⟩ := digit_at HMEM.out hidl
                  have hgi := HGD.out (i - a) hidl
                  rw [hTi, show a + (i - a) = i by omega] at hgi
                  have hil : i < s.size := by omega
                  have hii : (i : Int) < (s.size : Int) := by omega
                  have hgb : ((s[i].toNat : Nat) : Int) = 48 + (d : Int) := by have h9 : ((s[i].toNat : Nat) : Int) = ((48 + d : Nat) : Int) := congrArg Nat.cast ((sb_get hil).trans hgi.symm); omega
                  have hgo1 := hgo.out
                  rw [hdr, numGo, show 48 + d - 48 = d by omega, show i - a + 1 = i + 1 - a by omega] at hgo1
                  have kw48 : IntKind.u8.wrap (48 + (d : Int) - 48) = (d : Int) := by rw [IntKind.wrap_u8]; omega
                  have kwd : IntKind.i64.wrap (d : Int) = (d : Int) := by rw [IntKind.wrap_i64]; omega
                  have kwi : IntKind.i64.wrap ((i : Int) + 1) = (i : Int) + 1 := by rw [IntKind.wrap_i64]; omega
                  clear hTi hdr hgi hidl
                  rcases great_cases n d hd9 with ⟨hbg, hc⟩ | ⟨hbg, hc⟩
                  · rw [hbg, if_pos rfl] at hgo1
                    have hx : X = .error 5 := by rw [← HXX.out, ← hgo1]
                    subst hx
                    clear hgo1 hgo hn hbg
                    rcases hc with c1 | ⟨c1, c2, c3⟩
                    all_goals
                      go_wp2_with fail
                      go_ret3
                      exact ⟨rfl, rfl⟩
                  · have hb2 := bigB_no hbg
                    rw [hbg, if_neg (by decide)] at hgo1
                    have kw10 : IntKind.i64.wrap (10 * (n : Int)) = 10 * (n : Int) := by rw [IntKind.wrap_i64]; omega
                    have kws : IntKind.i64.wrap (10 * (n : Int) + (d : Int)) = 10 * (n : Int) + (d : Int) := by rw [IntKind.wrap_i64]; omega
                    have HB := Lib.hid hb2
                    have HQ := Lib.hid hgo1
                    have HLT := Lib.hid hlt
                    have HI1 := Lib.hid hi1
                    clear hb2 hgo1 hgo hn hbg
                    rcases hc with ⟨c1, c2, c3⟩ | ⟨c1, c2⟩
                    all_goals
                      go_wp2_with fail
                      refine ⟨⟨10 * n + d, i + 1, by first | (with_reducible rfl) | (congr 1; done) | (congr 1; push_cast; omega), by go_num, by have := HI1.out; omega, HLT.out, HB, HQ, by trivial⟩, ?_⟩
                      have := HLT.out
                      simp [intOf]
                      omega
                · have hie : i = b := by omega
                  have tlt : decide ((i : Int) < (b : Int)) = false := decide_eq_false (by omega)
                  have hgo1 := hgo.out
                  rw [hie, List.drop_eq_nil_of_le (by rw [HDL.out]; omega), numGo] at hgo1
                  have hx : X = .ok ((n : Int), b) := by rw [← HXX.out, ← hgo1]; rfl
                  subst hx
                  clear hgo1 hgo hn hie
                  go_wp2_with fail
                  go_ret3
                  exact ⟨rfl, rfl⟩
          · have v1 : ((x : Int) == 48) = false := by rw [beq_eq_false_iff_ne]; omega
            have hXX : (match numGo 0 ds with | none => (Except.error 5 : Except Nat (Int × Nat)) | some n => .ok (if false = true then -(n : Int) else (n : Int), b)) = X := by rw [← HX.out]; unfold numE; rw [if_neg hds0, if_neg (by rw [hx0]; exact fun h => h48 h.1)]
            obtain ⟨RES, hRES⟩ : ∃ RES, numGo 0 ds = RES := ⟨_, rfl⟩
            rw [hRES] at hXX
            have HRES : Hid (numGo 0 (ds.drop (a - a)) = RES) := Lib.hid (by rw [Nat.sub_self]; exact hRES)
            have HXX := Lib.hid hXX
            have HDL := Lib.hid hdl
            have hFb : a ≤ b := hb1
            clear hXX hRES hds0 hdl hx0 hnz
            go_wp2_with fail
            obtain ⟨wo, rfl⟩ : ∃ wo : World, wo = wr := ⟨_, rfl⟩
            go_loopw [9, 10] (fun nv iv wr => ∃ n i : Nat, nv = .int .i64 n ∧ iv = .int .i64 i ∧ a ≤ i ∧ i ≤ b ∧ Hid (n ≤ 4611686018427387904) ∧ Hid (numGo n (ds.drop (i - a)) = RES) ∧ wr = wo) (fun _ iv _ => b - (intOf iv).toNat)
            case atStart => exact ⟨0, a, rfl, by go_num, Nat.le_refl _, hFb, Lib.hid (Nat.zero_le _), HRES, rfl⟩
            case round =>
              obtain ⟨n, i, rfl, rfl, hi1, hi2, hn, hgo, rfl⟩ := hrel
              clear HRES hgF v0 kwF1
              by_cases hlt : i < b
              · have tlt : decide ((i : Int) < (b : Int)) = true := decide_eq_true (by omega)
                have hidl : i - a < ds.length := by rw [HDL.out]; omega
                obtain ⟨d, hTi, hdr, hd9⟩ := digit_at HMEM.out hidl
                have hgi := HGD.out (i - a) hidl
                rw [hTi, show a + (i - a) = i by omega] at hgi
                have hil : i < s.size := by omega
                have hii : (i : Int) < (s.size : Int) := by omega
                have hgb : ((s[i].toNat : Nat) : Int) = 48 + (d : Int) := by have h9 : ((s[i].toNat : Nat) : Int) = ((48 + d : Nat) : Int) := congrArg Nat.cast ((sb_get hil).trans hgi.symm); omega
                have hgo1 := hgo.out
                rw [hdr, numGo, show 48 + d - 48 = d by omega, show i - a + 1 = i + 1 - a by omega] at hgo1
                have kw48 : IntKind.u8.wrap (48 + (d : Int) - 48) = (d : Int) := by rw [IntKind.wrap_u8]; omega
                have kwd : IntKind.i64.wrap (d : Int) = (d : Int) := by rw [IntKind.wrap_i64]; omega
                have kwi : IntKind.i64.wrap ((i : Int) + 1) = (i : Int) + 1 := by rw [IntKind.wrap_i64]; omega
                clear hTi hdr hgi hidl
                rcases great_cases n d hd9 with ⟨hbg, hc⟩ | ⟨hbg, hc⟩
                · rw [hbg, if_pos rfl] at hgo1
                  have hx : X = .error 5 := by rw [← HXX.out, ← hgo1]
                  subst hx
                  clear hgo1 hgo hn hbg
                  rcases hc with c1 | ⟨c1, c2, c3⟩
                  all_goals
                    go_wp2_with fail
                    go_ret3
                    exact ⟨rfl, rfl⟩
                · have hb2 := bigB_no hbg
                  rw [hbg, if_neg (by decide)] at hgo1
                  have kw10 : IntKind.i64.wrap (10 * (n : Int)) = 10 * (n : Int) := by rw [IntKind.wrap_i64]; omega
                  have kws : IntKind.i64.wrap (10 * (n : Int) + (d : Int)) = 10 * (n : Int) + (d : Int) := by rw [IntKind.wrap_i64]; omega
                  have HB := Lib.hid hb2
                  have HQ := Lib.hid hgo1
                  have HLT := Lib.hid hlt
                  have HI1 := Lib.hid hi1
                  clear hb2 hgo1 hgo hn hbg
                  rcases hc with ⟨c1, c2, c3⟩ | ⟨c1, c2⟩
                  all_goals
                    go_wp2_with fail
                    refine ⟨⟨10 * n + d, i + 1, by first | (with_reducible rfl) | (congr 1; done) | (congr 1; push_cast; omega), by go_num, by have := HI1.out; omega, HLT.out, HB, HQ, by trivial⟩, ?_⟩
                    have := HLT.out
                    simp [intOf]
                    omega
              · have hie : i = b := by omega
                have tlt : decide ((i : Int) < (b : Int)) = false := decide_eq_false (by omega)
                have hgo1 := hgo.out
                rw [hie, List.drop_eq_nil_of_le (by rw [HDL.out]; omega), numGo] at hgo1
                have hx : X = .ok ((n : Int), b) := by rw [← HXX.out, ← hgo1]; rfl
                subst hx
                clear hgo1 hgo hn hie
                go_wp2_with fail
                go_ret3
                exact ⟨rfl, rfl⟩
    · have tb : decide ((b : Int) < (s.size : Int)) = false := decide_eq_false (by omega)
      have hbe : b = E := by
        have := hn.out
        rw [List.drop_eq_nil_of_le (by rw [HLS.out]; omega)] at this
        exact this
      subst hbe
      clear hn
      by_cases hds0 : ds = []
      · have hbF : b = a := by rw [hds0] at hdl; simp at hdl; omega
        have hx : X = .error 3 := by rw [← HX.out]; unfold numE; rw [if_pos hds0, if_neg (by omega)]
        have v1 : ((b : Int) == (s.size : Int)) = true := by rw [beq_iff_eq]; omega
        have v0 : ((b : Int) == (a : Int)) = true := by rw [beq_iff_eq]; omega
        subst hx
        clear hds0 hbF hdl
        go_wp2_with fail
        go_ret3
        exact ⟨rfl, rfl⟩
      have hnz : 0 < ds.length := List.length_pos_iff.2 hds0
      have v0 : ((b : Int) == (a : Int)) = false := by rw [beq_eq_false_iff_ne]; omega
      have hFl : a < s.size := by omega
      have hFi : (a : Int) < (s.size : Int) := by omega
      have hgF : ((s[a].toNat : Nat) : Int) = (((sb s).getD a 0 : Nat) : Int) := congrArg Nat.cast (sb_get hFl)
      have hd0 := HGD.out 0 hnz
      rw [Nat.add_zero] at hd0
      rw [← hd0] at hgF
      have kwF1 : IntKind.i64.wrap ((a : Int) + 1) = (a : Int) + 1 := by rw [IntKind.wrap_i64]; omega
      obtain ⟨x, hx0⟩ : ∃ x, ds.getD 0 0 = x := ⟨_, rfl⟩
      rw [hx0] at hgF
      clear hd0
      by_cases h48 : x = 48
      · subst h48
        by_cases h1 : 1 < ds.length
        · have v2 : decide ((a : Int) + 1 < (b : Int)) = true := decide_eq_true (by omega)
          have hx : X = .error 2 := by rw [← HX.out]; unfold numE; rw [if_neg hds0, if_pos ⟨hx0, .inl h1⟩]
          subst hx
          clear hds0 hdl hnz hx0
          go_wp2_with fail
          go_ret3
          exact ⟨rfl, rfl⟩
        · have v2 : decide ((a : Int) + 1 < (b : Int)) = false := decide_eq_false (by omega)
          have hXX : (match numGo 0 ds with | none => (Except.error 5 : Except Nat (Int × Nat)) | some n => .ok (if false = true then -(n : Int) else (n : Int), b)) = X := by rw [← HX.out]; unfold numE; rw [if_neg hds0, if_neg (by rintro ⟨_, h | h⟩; exact h1 h; cases h)]
          obtain ⟨RES, hRES⟩ : ∃ RES, numGo 0 ds = RES := ⟨_, rfl⟩
          rw [hRES] at hXX
          have HRES : Hid (numGo 0 (ds.drop (a - a)) = RES) := Lib.hid (by rw [Nat.sub_self]; exact hRES)
          have HXX := Lib.hid hXX
          have HDL := Lib.hid hdl
          have hFb : a ≤ b := hb1
          clear hXX hRES hds0 hdl hx0 hnz
          go_wp2_with fail
          obtain ⟨wo, rfl⟩ : ∃ wo : World, wo = wr := ⟨_, rfl⟩
          go_loopw [9, 10] (fun nv iv wr => ∃ n i : Nat, nv = .int .i64 n ∧ iv = .int .i64 i ∧ a ≤ i ∧ i ≤ b ∧ Hid (n ≤ 4611686018427387904) ∧ Hid (numGo n (ds.drop (i - a)) = RES) ∧ wr = wo) (fun _ iv _ => b - (intOf iv).toNat)
          case atStart => exact ⟨0, a, rfl, by go_num, Nat.le_refl _, hFb, Lib.hid (Nat.zero_le _), HRES, rfl⟩
          case round =>
            obtain ⟨n, i, rfl, rfl, hi1, hi2, hn, hgo, rfl⟩ := hrel
            clear HRES hgF v0 kwF1
            by_cases hlt : i < b
            · have tlt : decide ((i : Int) < (b : Int)) = true := decide_eq_true (by omega)
              have hidl : i - a < ds.length := by rw [HDL.out]; omega
              obtain ⟨d, hTi, hdr, hd9⟩ := digit_at HMEM.out hidl
              have hgi := HGD.out (i - a) hidl
              rw [hTi, show a + (i - a) = i by omega] at hgi
              have hil : i < s.size := by omega
              have hii : (i : Int) < (s.size : Int) := by omega
              have hgb : ((s[i].toNat : Nat) : Int) = 48 + (d : Int) := by have h9 : ((s[i].toNat : Nat) : Int) = ((48 + d : Nat) : Int) := congrArg Nat.cast ((sb_get hil).trans hgi.symm); omega
              have hgo1 := hgo.out
              rw [hdr, numGo, show 48 + d - 48 = d by omega, show i - a + 1 = i + 1 - a by omega] at hgo1
              have kw48 : IntKind.u8.wrap (48 + (d : Int) - 48) = (d : Int) := by rw [IntKind.wrap_u8]; omega
              have kwd : IntKind.i64.wrap (d : Int) = (d : Int) := by rw [IntKind.wrap_i64]; omega
              have kwi : IntKind.i64.wrap ((i : Int) + 1) = (i : Int) + 1 := by rw [IntKind.wrap_i64]; omega
              clear hTi hdr hgi hidl
              rcases great_cases n d hd9 with ⟨hbg, hc⟩ | ⟨hbg, hc⟩
              · rw [hbg, if_pos rfl] at hgo1
                have hx : X = .error 5 := by rw [← HXX.out, ← hgo1]
                subst hx
                clear hgo1 hgo hn hbg
                rcases hc with c1 | ⟨c1, c2, c3⟩
                all_goals
                  go_wp2_with fail
                  go_ret3
                  exact ⟨rfl, rfl⟩
              · have hb2 := bigB_no hbg
                rw [hbg, if_neg (by decide)] at hgo1
                have kw10 : IntKind.i64.wrap (10 * (n : Int)) = 10 * (n : Int) := by rw [IntKind.wrap_i64]; omega
                have kws : IntKind.i64.wrap (10 * (n : Int) + (d : Int)) = 10 * (n : Int) + (d : Int) := by rw [IntKind.wrap_i64]; omega
                have HB := Lib.hid hb2
                have HQ := Lib.hid hgo1
                have HLT := Lib.hid hlt
                have HI1 := Lib.hid hi1
                clear hb2 hgo1 hgo hn hbg
                rcases hc with ⟨c1, c2, c3⟩ | ⟨c1, c2⟩
                all_goals
                  go_wp2_with fail
                  refine ⟨⟨10 * n + d, i + 1, by first | (with_reducible rfl) | (congr 1; done) | (congr 1; push_cast; omega), by go_num, by have := HI1.out; omega, HLT.out, HB, HQ, by trivial⟩, ?_⟩
                  have := HLT.out
                  simp [intOf]
                  omega
            · have hie : i = b := by omega
              have tlt : decide ((i : Int) < (b : Int)) = false := decide_eq_false (by omega)
              have hgo1 := hgo.out
              rw [hie, List.drop_eq_nil_of_le (by rw [HDL.out]; omega), numGo] at hgo1
              have hx : X = .ok ((n : Int), b) := by rw [← HXX.out, ← hgo1]; rfl
              subst hx
              clear hgo1 hgo hn hie
              go_wp2_with fail
              go_ret3
              exact ⟨rfl, rfl⟩
      · have v1 : ((x : Int) == 48) = false := by rw [beq_eq_false_iff_ne]; omega
        have hXX : (match numGo 0 ds with | none => (Except.error 5 : Except Nat (Int × Nat)) | some n => .ok (if false = true then -(n : Int) else (n : Int), b)) = X := by rw [← HX.out]; unfold numE; rw [if_neg hds0, if_neg (by rw [hx0]; exact fun h => h48 h.1)]
        obtain ⟨RES, hRES⟩ : ∃ RES, numGo 0 ds = RES := ⟨_, rfl⟩
        rw [hRES] at hXX
        have HRES : Hid (numGo 0 (ds.drop (a - a)) = RES) := Lib.hid (by rw [Nat.sub_self]; exact hRES)
        have HXX := Lib.hid hXX
        have HDL := Lib.hid hdl
        have hFb : a ≤ b := hb1
        clear hXX hRES hds0 hdl hx0 hnz
        go_wp2_with fail
        obtain ⟨wo, rfl⟩ : ∃ wo : World, wo = wr := ⟨_, rfl⟩
        go_loopw [9, 10] (fun nv iv wr => ∃ n i : Nat, nv = .int .i64 n ∧ iv = .int .i64 i ∧ a ≤ i ∧ i ≤ b ∧ Hid (n ≤ 4611686018427387904) ∧ Hid (numGo n (ds.drop (i - a)) = RES) ∧ wr = wo) (fun _ iv _ => b - (intOf iv).toNat)
        case atStart => exact ⟨0, a, rfl, by go_num, Nat.le_refl _, hFb, Lib.hid (Nat.zero_le _), HRES, rfl⟩
        case round =>
          obtain ⟨n, i, rfl, rfl, hi1, hi2, hn, hgo, rfl⟩ := hrel
          clear HRES hgF v0 kwF1
          by_cases hlt : i < b
          · have tlt : decide ((i : Int) < (b : Int)) = true := decide_eq_true (by omega)
            have hidl : i - a < ds.length := by rw [HDL.out]; omega
            obtain ⟨d, hTi, hdr, hd9⟩ := digit_at HMEM.out hidl
            have hgi := HGD.out (i - a) hidl
            rw [hTi, show a + (i - a) = i by omega] at hgi
            have hil : i < s.size := by omega
            have hii : (i : Int) < (s.size : Int) := by omega
            have hgb : ((s[i].toNat : Nat) : Int) = 48 + (d : Int) := by have h9 : ((s[i].toNat : Nat) : Int) = ((48 + d : Nat) : Int) := congrArg Nat.cast ((sb_get hil).trans hgi.symm); omega
            have hgo1 := hgo.out
            rw [hdr, numGo, show 48 + d - 48 = d by omega, show i - a + 1 = i + 1 - a by omega] at hgo1
            have kw48 : IntKind.u8.wrap (48 + (d : Int) - 48) = (d : Int) := by rw [IntKind.wrap_u8]; omega
            have kwd : IntKind.i64.wrap (d : Int) = (d : Int) := by rw [IntKind.wrap_i64]; omega
            have kwi : IntKind.i64.wrap ((i : Int) + 1) = (i : Int) + 1 := by rw [IntKind.wrap_i64]; omega
            clear hTi hdr hgi hidl
            rcases great_cases n d hd9 with ⟨hbg, hc⟩ | ⟨hbg, hc⟩
            · rw [hbg, if_pos rfl] at hgo1
              have hx : X = .error 5 := by rw [← HXX.out, ← hgo1]
              subst hx
              clear hgo1 hgo hn hbg
              rcases hc with c1 | ⟨c1, c2, c3⟩
              all_goals
                go_wp2_with fail
                go_ret3
                exact ⟨rfl, rfl⟩
            · have hb2 := bigB_no hbg
              rw [hbg, if_neg (by decide)] at hgo1
              have kw10 : IntKind.i64.wrap (10 * (n : Int)) = 10 * (n : Int) := by rw [IntKind.wrap_i64]; omega
              have kws : IntKind.i64.wrap (10 * (n : Int) + (d : Int)) = 10 * (n : Int) + (d : Int) := by rw [IntKind.wrap_i64]; omega
              have HB := Lib.hid hb2
              have HQ := Lib.hid hgo1
              have HLT := Lib.hid hlt
              have HI1 := Lib.hid hi1
              clear hb2 hgo1 hgo hn hbg
              rcases hc with ⟨c1, c2, c3⟩ | ⟨c1, c2⟩
              all_goals
                go_wp2_with fail
                refine ⟨⟨10 * n + d, i + 1, by first | (with_reducible rfl) | (congr 1; done) | (congr 1; push_cast; omega), by go_num, by have := HI1.out; omega, HLT.out, HB, HQ, by trivial⟩, ?_⟩
                have := HLT.out
                simp [intOf]
                omega
          · have hie : i = b := by omega
            have tlt : decide ((i : Int) < (b : Int)) = false := decide_eq_false (by omega)
            have hgo1 := hgo.out
            rw [hie, List.drop_eq_nil_of_le (by rw [HDL.out]; omega), numGo] at hgo1
            have hx : X = .ok ((n : Int), b) := by rw [← HXX.out, ← hgo1]; rfl
            subst hx
            clear hgo1 hgo hn hie
            go_wp2_with fail
            go_ret3
            exact ⟨rfl, rfl⟩

set_option maxHeartbeats 4000000 in
set_option maxRecDepth 100000 in
theorem rnumber_end (s : ByteArray) (a : Nat) (w : World) (hl : ¬ a < s.size) (ha : a ≤ s.size) : Gives 38 #[.string s, i64 a] w (numV (.error 3)) := by
  have t1 : decide ((a : Int) < (s.size : Int)) = false := decide_eq_false (by omega)
  have t2 : ((a : Int) == (s.size : Int)) = true := by rw [beq_iff_eq]; omega
  clear hl ha
  go_enter Tryd.func38, Tryd.ntmps38
  go_wp2_with fail
  go_loopw [8] (fun ev wr => ev = .int .i64 a ∧ wr = w) (fun _ _ => 0)
  case atStart => exact ⟨rfl, rfl⟩
  case round =>
    obtain ⟨rfl, rfl⟩ := hrel
    go_wp2_with fail
    go_ret3
    exact ⟨rfl, rfl⟩
theorem rnumber_any (s : ByteArray) (a : Nat) (w : World) (hm : s.size ≤ 3000) (ha : a ≤ s.size) : Gives 38 #[.string s, i64 a] w (numV (tNumber (sb s) a)) := by
  unfold tNumber minusB
  by_cases hl : a < s.size
  · by_cases h45 : (sb s).getD a 0 = 45
    · rw [if_pos (by rw [Bool.and_eq_true, decide_eq_true_iff, decide_eq_true_iff, sb_len]; exact ⟨hl, h45⟩)]
      exact rnumber_minus s a w hm hl h45
    · rw [if_neg (by rw [Bool.and_eq_true, decide_eq_true_iff, decide_eq_true_iff]; exact fun h => h45 h.2)]
      exact rnumber_plus s a w hm hl h45
  · rw [if_neg (by rw [Bool.and_eq_true, decide_eq_true_iff, decide_eq_true_iff, sb_len]; exact fun h => hl h.1)]
    have hn : numD false (sb s) a = .error 3 := by
      unfold numD runL
      rw [List.drop_eq_nil_of_le (by rw [sb_len]; omega)]
      rw [if_pos (by rfl), if_neg (by rw [sb_len]; show ¬ (a + 0 < s.size); omega)]
    rw [hn]
    exact rnumber_end s a w hl ha
end Go.Proofs.YtbjjpplhnibjdaaDoor
