/- Package text: a byte that must stand there; plain bytes; digits of sixteen. -/
import Derived.Test.YtbjjpplhnibjdaaDoorText
import Derived.Lib.Bytealg
import Derived.Laws.Externs
namespace Go.Proofs.YtbjjpplhnibjdaaDoor
open Go Go.RowKit

set_option maxHeartbeats 2000000 in
set_option maxRecDepth 100000 in
theorem need_any (r : Nat) (s : ByteArray) (a c : Nat) (w : World) (h : RdT w r s a) (ha : a ≤ s.size) (hm : s.size ≤ 100000) :
    Calls Tryd.prog 29 #[.pointer (some ⟨r, 0, none⟩), bv c] w (RdPost w r s (fun _ : Nat => .tuple #[]) (fun y => y) (tNeed (sb s) a c)) := by
  have G := Lib.hid (next_any r s a w h ha hm)
  by_cases hl : a < (sb s).length
  · have hv : tNext (sb s) a = .ok ((sb s).getD a 0, a + 1) := by unfold tNext; rw [if_pos hl]
    rw [hv] at G
    by_cases hc : (sb s).getD a 0 = c
    · have hv2 : tNeed (sb s) a c = .ok (a + 1) := by unfold tNeed; rw [if_pos hl, if_pos hc]
      rw [hv2]
      have t1 : (((sb s).getD a 0 : Int) == (c : Int)) = true := by rw [beq_iff_eq, hc]
      clear hv hv2 hl h hc
      generalize (sb s).getD a 0 = d at *
      go_enter Tryd.func29, Tryd.ntmps29
      go_wp2_with fail
      refine G.out.mono ?_; rintro e w1 ⟨rfl, h1, hg1⟩
      go_wp2_with fail
      go_end0
      exact ⟨rfl, h1, hg1⟩
    · have hv2 : tNeed (sb s) a c = .error 2 := by unfold tNeed; rw [if_pos hl, if_neg hc]
      rw [hv2]
      have t1 : (((sb s).getD a 0 : Int) == (c : Int)) = false := by rw [beq_eq_false_iff_ne]; omega
      clear hv hv2 hl h hc
      generalize (sb s).getD a 0 = d at *
      go_enter Tryd.func29, Tryd.ntmps29
      go_wp2_with fail
      refine G.out.mono ?_; rintro e w1 ⟨rfl, h1, hg1⟩
      go_wp2_with fail
      exact ⟨rfl, rfl, hg1⟩
  · have hv : tNext (sb s) a = .error 3 := by unfold tNext; rw [if_neg hl]
    have hv2 : tNeed (sb s) a c = .error 3 := by unfold tNeed; rw [if_neg hl]
    rw [hv] at G
    rw [hv2]
    clear hv hv2 hl h
    go_enter Tryd.func29, Tryd.ntmps29
    go_wp2_with fail
    refine G.out.mono ?_; rintro e w1 ⟨rfl, hg1⟩
    go_wp2_with fail
    exact ⟨rfl, rfl, hg1⟩

set_option maxHeartbeats 1000000 in
set_option maxRecDepth 100000 in
theorem plain_any (c : Nat) (w : World) : Gives 32 #[bv c] w (.bool (plainB c)) := by
  unfold plainB
  go_enter Tryd.func32, Tryd.ntmps32
  go_wp2_with fail
  all_goals
    go_ret
    refine ⟨retB ?_, rfl⟩
    rw [Bool.eq_iff_iff]
    first | (simp; omega) | simp | omega
end Go.Proofs.YtbjjpplhnibjdaaDoor

/- Package text: digits of sixteen; runs. -/
namespace Go.Proofs.YtbjjpplhnibjdaaDoor
open Go Go.RowKit

abbrev hexStr : ByteArray := { data := #[48, 49, 50, 51, 52, 53, 54, 55, 56, 57, 65, 66, 67, 68, 69, 70] }
def hexI (c : Nat) : Int := match hexV c with | some d => (d : Int) | none => -1
theorem hexI_of (c : Nat) (hc : c < 256) : Lib.indexByte hexStr.data.toList ((c : Int)).toNat.toUInt8 = hexI c := by
  have h : ∀ c : Nat, c < 256 → Lib.indexByte hexStr.data.toList ((c : Int)).toNat.toUInt8 = hexI c := by decide +kernel
  exact h c hc
theorem hexI_some {c d : Nat} (h : hexV c = some d) : hexI c = d ∧ d < 16 := by
  unfold hexI; rw [h]
  refine ⟨rfl, ?_⟩
  unfold hexV at h
  split at h
  · injection h with h; omega
  · split at h
    · injection h with h; omega
    · cases h
theorem hexI_none {c : Nat} (h : hexV c = none) : hexI c = -1 := by unfold hexI; rw [h]

theorem idx_run (c : Nat) (hc : c < 256) (W : World) : (callFunc 54 #[.string hexStr, bv c]).run Tryd.prog W = .ok (.value (i64 (hexI c))) W := by
  rw [run_callFunc_extern Tryd.func54 (by kernel_rfl) (by kernel_rfl) (by kernel_rfl) (e := Extern.BytealgIndexByte.indexByte) (by kernel_rfl), Lib.run_indexByteString, hexI_of c hc]
  rfl
set_option maxHeartbeats 1000000 in
theorem slIndex_any (c : Nat) (hc : c < 256) (w : World) : Gives 48 #[.string hexStr, bv c] w (i64 (hexI c)) := by
  have hi := fun W => idx_run c hc W
  go_enter Tryd.func48, Tryd.ntmps48
  go_wp2_with fail
  go_ret
  exact ⟨rfl, rfl⟩
set_option maxHeartbeats 1000000 in
theorem index_any (c : Nat) (hc : c < 256) (w : World) : Gives 43 #[.string hexStr, bv c] w (i64 (hexI c)) := by
  have G := fun W => Lib.hid (slIndex_any c hc W)
  go_enter Tryd.func43, Tryd.ntmps43
  go_wp2_with fail
  refine (G _).out.mono ?_; rintro e w1 ⟨rfl, rfl⟩
  go_wp2_with fail
  go_ret
  exact ⟨rfl, rfl⟩

set_option maxHeartbeats 2000000 in
set_option maxRecDepth 100000 in
theorem digit_any (r : Nat) (s : ByteArray) (a : Nat) (w : World) (h : RdT w r s a) (ha : a ≤ s.size) (hm : s.size ≤ 100000) :
    Calls Tryd.prog 40 #[.pointer (some ⟨r, 0, none⟩)] w (RdPost w r s (fun y : Nat × Nat => i64 y.1) (·.2) (tDigit (sb s) a)) := by
  have G := Lib.hid (next_any r s a w h ha hm)
  by_cases hl : a < (sb s).length
  · have hv : tNext (sb s) a = .ok ((sb s).getD a 0, a + 1) := by unfold tNext; rw [if_pos hl]
    rw [hv] at G
    have hc : (sb s).getD a 0 < 256 := by
      rw [List.getD_eq_getElem?_getD, List.getElem?_eq_getElem hl]
      exact sb_lt s _ (List.getElem_mem hl)
    have hv2 : tDigit (sb s) a = (match hexV ((sb s).getD a 0) with | some d => .ok (d, a + 1) | none => .error 2) := by unfold tDigit; rw [if_pos hl]; cases hexV ((sb s).getD a 0) <;> rfl
    rw [hv2]
    clear hv hv2 hl h
    generalize (sb s).getD a 0 = c at *
    have GI := fun W => Lib.hid (index_any c hc W)
    cases hx : hexV c with
    | some d =>
      obtain ⟨hi, hd⟩ := hexI_some hx
      rw [hi] at GI
      clear hx hi
      go_enter Tryd.func40, Tryd.ntmps40
      go_wp2_with fail
      refine G.out.mono ?_; rintro e w1 ⟨rfl, h1, hg1⟩
      go_wp2_with fail
      refine (GI _).out.mono ?_; rintro e w2 ⟨rfl, rfl⟩
      go_wp2_with fail
      go_ret
      exact ⟨rfl, h1, hg1⟩
    | none =>
      rw [hexI_none hx] at GI
      clear hx
      go_enter Tryd.func40, Tryd.ntmps40
      go_wp2_with fail
      refine G.out.mono ?_; rintro e w1 ⟨rfl, h1, hg1⟩
      go_wp2_with fail
      refine (GI _).out.mono ?_; rintro e w2 ⟨rfl, rfl⟩
      go_wp2_with fail
      exact ⟨rfl, rfl, hg1⟩
  · have hv : tNext (sb s) a = .error 3 := by unfold tNext; rw [if_neg hl]
    have hv2 : tDigit (sb s) a = .error 3 := by unfold tDigit; rw [if_neg hl]
    rw [hv] at G
    rw [hv2]
    clear hv hv2 hl h
    go_enter Tryd.func40, Tryd.ntmps40
    go_wp2_with fail
    refine G.out.mono ?_; rintro e w1 ⟨rfl, hg1⟩
    go_wp2_with fail
    exact ⟨rfl, rfl, hg1⟩

/-- A run's bytes. -/
def runL (f t : Nat) (l : List Nat) (a : Nat) : List Nat := (l.drop a).take (runN f t (l.drop a))
theorem runN_next {f t : Nat} {l : List Nat} {a c : Nat} (h : l[a]? = some c) : runN f t (l.drop a) = if f ≤ c ∧ c ≤ t then runN f t (l.drop (a + 1)) + 1 else 0 := by
  obtain ⟨h1, rfl⟩ := List.getElem?_eq_some_iff.1 h
  rw [List.drop_eq_getElem_cons h1, runN]

theorem ret_str {a b : ByteArray} (h : a = b) : Ending.returned (.string a) = Ending.returned (.string b) := by rw [h]
theorem ext_sb (s : ByteArray) {a b : Nat} : s.extract a b = toB (((sb s).drop a).take (b - a)) := by
  apply ByteArray.ext
  rw [ByteArray.data_extract]
  unfold toB sb
  rw [← List.map_drop, ← List.map_take, List.map_map, show (UInt8.ofNat ∘ UInt8.toNat) = id by funext x; simp, List.map_id]
  apply Array.ext'
  simp [List.extract_eq_take_drop]
set_option maxHeartbeats 4000000 in
set_option maxRecDepth 100000 in
theorem run_any (r : Nat) (s : ByteArray) (a f t : Nat) (w : World) (h : RdT w r s a) (ha : a ≤ s.size) (hm : s.size ≤ 100000) :
    Calls Tryd.prog 27 #[.pointer (some ⟨r, 0, none⟩), bv f, bv t] w fun e w' => e = .returned (.string (toB (runL f t (sb s) a))) ∧ RdT w' r s (a + runN f t ((sb s).drop a)) ∧ w.grownBy w' (some r) := by
  have c0 : w.cell? ⟨r, 0, none⟩ = some (.string s) := cell_blk h 0
  have c1 : w.cell? ⟨r, 1, none⟩ = some (i64 a) := cell_blk h 1
  obtain ⟨N, hN⟩ : ∃ N, a + runN f t ((sb s).drop a) = N := ⟨_, rfl⟩
  have hNle : N ≤ s.size := by
    have := runN_le f t ((sb s).drop a)
    rw [List.length_drop, sb_len] at this
    omega
  have hRL : runL f t (sb s) a = ((sb s).drop a).take (N - a) := by unfold runL; rw [← hN, Nat.add_sub_cancel_left]
  rw [hN, hRL]
  have HN := Lib.hid hN
  clear hN hRL
  go_enter Tryd.func27, Tryd.ntmps27
  go_wp2_with fail
  go_loopw [12] (fun _ wr => ∃ b, a ≤ b ∧ b ≤ s.size ∧ RdT wr r s b ∧ w.grownBy wr (some r) ∧ Hid (b + runN f t ((sb s).drop b) = N)) (fun _ wr => s.size - (intOf ((wr.cell? ⟨r, 1, none⟩).getD undef)).toNat)
  case atStart => exact ⟨a, Nat.le_refl _, ha, h, grown_same _ _, HN⟩
  case round =>
    obtain ⟨b, hb1, hb2, hR, hg, hn⟩ := hrel
    clear c0 c1
    have c0 : wr.cell? ⟨r, 0, none⟩ = some (.string s) := cell_blk hR 0
    have c1 : wr.cell? ⟨r, 1, none⟩ = some (i64 b) := cell_blk hR 1
    have hr := (Array.getElem?_eq_some_iff.1 hR).1
    have c1' := c1
    have k0 := fun p : OnOf wr => on_cell hr c0 p
    have k1 := fun p : OnOf wr => on_cell hr c1 p
    have kwb : IntKind.i64.wrap (b : Int) = (b : Int) := by rw [IntKind.wrap_i64]; omega
    by_cases hl : b < s.size
    · have hbi : (b : Int) < (s.size : Int) := by omega
      have hgt := sb_get hl
      have hx : (sb s)[b]? = some ((sb s).getD b 0) := by
        rw [List.getD_eq_getElem?_getD, List.getElem?_eq_getElem (by rw [sb_len]; exact hl)]; rfl
      have hrn := runN_next (f := f) (t := t) hx
      have t1 : decide ((b : Int) < (s.size : Int)) = true := decide_eq_true hbi
      have HNO := hn.out
      rw [hrn] at HNO
      have hsb : (s[b].toNat) = (sb s).getD b 0 := hgt
      clear hx hgt
      obtain ⟨c, hc⟩ : ∃ c, (sb s).getD b 0 = c := ⟨_, rfl⟩
      rw [hc] at hsb hrn HNO
      clear hc
      by_cases h1 : f ≤ c
      · by_cases h2 : c ≤ t
        · rw [if_pos ⟨h1, h2⟩] at HNO
          have HN2 : Hid (b + 1 + runN f t ((sb s).drop (b + 1)) = N) := Lib.hid (by omega)
          have t2 : decide ((f : Int) ≤ (s[b].toNat : Int)) = true := decide_eq_true (by rw [hsb]; omega)
          have t3 : decide ((s[b].toNat : Int) ≤ (t : Int)) = true := decide_eq_true (by rw [hsb]; omega)
          clear HNO hrn hn
          go_wp2_with fail
          refine wp_region_quiet_on (by kernel_rfl) (by kernel_rfl) ?_
          repeat ((with_reducible refine wpQuiet_step (fun K hK => ?_)); go_simp; first | ((with_reducible refine hK _ ?_); clear hK K) | (rw [if_neg (by intro h; cases h)]; (with_reducible refine hK _ ?_); clear hK K) | (apply Exists.intro; refine ⟨fun _ => ?_, hK _ ?_⟩; (fail); clear hK K))
          with_reducible refine wpQuiet_nil ?_
          intro _ hw'
          obtain ⟨pq, hw''⟩ := hw'
          subst hw''
          have h2' := blk_below hR pq.h
          have hg2 := grown_below hg pq.h
          generalize pq.v = w2 at *
          have d0 := cell_blk h2' 0
          have d1 := cell_blk h2' 1
          have fd := fun o => frozen_blk h2' o
          have kw1 : IntKind.i64.wrap ((b : Int) + 1) = (b : Int) + 1 := by rw [IntKind.wrap_i64]; omega
          have h3 := heap_setCell h2' 1 (.int .i64 ((b : Int) + 1))
          have hg3 : w.grownBy (w2.setCell ⟨r, 1, none⟩ (.int .i64 ((b : Int) + 1))) (some r) := grown_setCell hg2 _ _
          have H3 := Lib.hid h3
          clear k0 k1 c0 c1 h2' hg2 h3 hsb t1 t2 t3
          go_wp2_with fail
          refine ⟨⟨b + 1, by omega, by omega, H3.out, hg3, HN2⟩, ?_⟩
          rw [cell_blk H3.out, c1']
          simp [intOf]
          omega
        · rw [if_neg (by omega)] at HNO
          have hNb : N = b := by omega
          have t2 : decide ((f : Int) ≤ (s[b].toNat : Int)) = true := decide_eq_true (by rw [hsb]; omega)
          have t3 : decide ((s[b].toNat : Int) ≤ (t : Int)) = false := decide_eq_false (by rw [hsb]; omega)
          clear HNO hrn
          go_wp2_with fail
          refine wp_region_quiet_on (by kernel_rfl) (by kernel_rfl) ?_
          repeat ((with_reducible refine wpQuiet_step (fun K hK => ?_)); go_simp; first | ((with_reducible refine hK _ ?_); clear hK K) | (rw [if_neg (by intro h; cases h)]; (with_reducible refine hK _ ?_); clear hK K) | (apply Exists.intro; refine ⟨fun _ => ?_, hK _ ?_⟩; (fail); clear hK K))
          with_reducible refine wpQuiet_nil ?_
          intro _ hw'
          obtain ⟨pq, hw''⟩ := hw'
          subst hw''
          have h2' := blk_below hR pq.h
          have hg2 := grown_below hg pq.h
          generalize pq.v = w2 at *
          have hr2 := (Array.getElem?_eq_some_iff.1 h2').1
          have d0 : w2.cell? ⟨r, 0, none⟩ = some (.string s) := cell_blk h2' 0
          have d1 : w2.cell? ⟨r, 1, none⟩ = some (i64 b) := cell_blk h2' 1
          clear k0 k1
          have k0 := fun p : OnOf w2 => on_cell hr2 d0 p
          have k1 := fun p : OnOf w2 => on_cell hr2 d1 p
          have H2 := Lib.hid h2'
          have hab : (a : Int) ≤ (b : Int) := by omega
          have hbs : (b : Int) ≤ (s.size : Int) := by omega
          have HNN := Lib.hid hNb
          clear h2' hNb hn HN h hR c0 c1 c1' d0 d1
          go_wp2_with fail
          refine wp_region_quiet_on (by kernel_rfl) (by kernel_rfl) ?_
          repeat ((with_reducible refine wpQuiet_step (fun K hK => ?_)); go_simp; first | ((with_reducible refine hK _ ?_); clear hK K) | (rw [if_neg (by intro h; cases h)]; (with_reducible refine hK _ ?_); clear hK K) | (apply Exists.intro; refine ⟨fun _ => ?_, hK _ ?_⟩; (fail); clear hK K))
          with_reducible refine wpQuiet_nil ?_
          intro _ hw'
          obtain ⟨pq, hw''⟩ := hw'
          subst hw''
          go_wp2_with fail
          go_ret
          rw [HNN.out]
          exact ⟨ret_str (ext_sb s), blk_below H2.out pq.h, grown_below hg2 pq.h⟩
      · rw [if_neg (by omega)] at HNO
        have hNb : N = b := by omega
        have t2 : decide ((f : Int) ≤ (s[b].toNat : Int)) = false := decide_eq_false (by rw [hsb]; omega)
        clear HNO hrn
        go_wp2_with fail
        refine wp_region_quiet_on (by kernel_rfl) (by kernel_rfl) ?_
        repeat ((with_reducible refine wpQuiet_step (fun K hK => ?_)); go_simp; first | ((with_reducible refine hK _ ?_); clear hK K) | (rw [if_neg (by intro h; cases h)]; (with_reducible refine hK _ ?_); clear hK K) | (apply Exists.intro; refine ⟨fun _ => ?_, hK _ ?_⟩; (fail); clear hK K))
        with_reducible refine wpQuiet_nil ?_
        intro _ hw'
        obtain ⟨pq, hw''⟩ := hw'
        subst hw''
        have h2' := blk_below hR pq.h
        have hg2 := grown_below hg pq.h
        generalize pq.v = w2 at *
        have hr2 := (Array.getElem?_eq_some_iff.1 h2').1
        have d0 : w2.cell? ⟨r, 0, none⟩ = some (.string s) := cell_blk h2' 0
        have d1 : w2.cell? ⟨r, 1, none⟩ = some (i64 b) := cell_blk h2' 1
        clear k0 k1
        have k0 := fun p : OnOf w2 => on_cell hr2 d0 p
        have k1 := fun p : OnOf w2 => on_cell hr2 d1 p
        have H2 := Lib.hid h2'
        have hab : (a : Int) ≤ (b : Int) := by omega
        have hbs : (b : Int) ≤ (s.size : Int) := by omega
        have HNN := Lib.hid hNb
        clear h2' hNb hn HN h hR c0 c1 c1' d0 d1
        go_wp2_with fail
        refine wp_region_quiet_on (by kernel_rfl) (by kernel_rfl) ?_
        repeat ((with_reducible refine wpQuiet_step (fun K hK => ?_)); go_simp; first | ((with_reducible refine hK _ ?_); clear hK K) | (rw [if_neg (by intro h; cases h)]; (with_reducible refine hK _ ?_); clear hK K) | (apply Exists.intro; refine ⟨fun _ => ?_, hK _ ?_⟩; (fail); clear hK K))
        with_reducible refine wpQuiet_nil ?_
        intro _ hw'
        obtain ⟨pq, hw''⟩ := hw'
        subst hw''
        go_wp2_with fail
        go_ret
        rw [HNN.out]
        exact ⟨ret_str (ext_sb s), blk_below H2.out pq.h, grown_below hg2 pq.h⟩
    · have hbe : b = s.size := by omega
      have t1 : decide ((b : Int) < (s.size : Int)) = false := decide_eq_false (by omega)
      have hNO := hn.out
      have hNb : N = b := by rw [← hNO, List.drop_eq_nil_of_le (by rw [sb_len]; omega)]; rfl
      clear hNO
      go_wp2_with fail
      refine wp_region_quiet_on (by kernel_rfl) (by kernel_rfl) ?_
      repeat ((with_reducible refine wpQuiet_step (fun K hK => ?_)); go_simp; first | ((with_reducible refine hK _ ?_); clear hK K) | (rw [if_neg (by intro h; cases h)]; (with_reducible refine hK _ ?_); clear hK K) | (apply Exists.intro; refine ⟨fun _ => ?_, hK _ ?_⟩; (fail); clear hK K))
      with_reducible refine wpQuiet_nil ?_
      intro _ hw'
      obtain ⟨pq, hw''⟩ := hw'
      subst hw''
      have h2' := blk_below hR pq.h
      have hg2 := grown_below hg pq.h
      generalize pq.v = w2 at *
      have hr2 := (Array.getElem?_eq_some_iff.1 h2').1
      have d0 : w2.cell? ⟨r, 0, none⟩ = some (.string s) := cell_blk h2' 0
      have d1 : w2.cell? ⟨r, 1, none⟩ = some (i64 b) := cell_blk h2' 1
      clear k0 k1
      have k0 := fun p : OnOf w2 => on_cell hr2 d0 p
      have k1 := fun p : OnOf w2 => on_cell hr2 d1 p
      have H2 := Lib.hid h2'
      have hab : (a : Int) ≤ (b : Int) := by omega
      have hbs : (b : Int) ≤ (s.size : Int) := by omega
      have HNN := Lib.hid hNb
      have HLE : a ≤ b := by omega
      clear hbe
      clear h2' hNb hn HN h hR c0 c1 c1' d0 d1
      go_wp2_with fail
      refine wp_region_quiet_on (by kernel_rfl) (by kernel_rfl) ?_
      repeat ((with_reducible refine wpQuiet_step (fun K hK => ?_)); go_simp; first | ((with_reducible refine hK _ ?_); clear hK K) | (rw [if_neg (by intro h; cases h)]; (with_reducible refine hK _ ?_); clear hK K) | (apply Exists.intro; refine ⟨fun _ => ?_, hK _ ?_⟩; (fail); clear hK K))
      with_reducible refine wpQuiet_nil ?_
      intro _ hw'
      obtain ⟨pq, hw''⟩ := hw'
      subst hw''
      go_wp2_with fail
      go_ret
      rw [HNN.out]
      exact ⟨ret_str (ext_sb s), blk_below H2.out pq.h, grown_below hg2 pq.h⟩
end Go.Proofs.YtbjjpplhnibjdaaDoor

