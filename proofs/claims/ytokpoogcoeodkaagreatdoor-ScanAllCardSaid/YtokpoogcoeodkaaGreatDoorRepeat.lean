/- bytes.Repeat at one byte 255. -/
import Derived.Test.YtokpoogcoeodkaaGreatDoorPackR
import Derived.Lib.MakeNoZero
import Derived.Laws.Externs
import Derived.Laws.MathBits
namespace Go.Proofs.YtokpoogcoeodkaaGreatDoor
open Go.RowKit

set_option maxHeartbeats 2000000 in
set_option maxRecDepth 100000 in
theorem mul64_any (n : Nat) (w : World) (hn : n ≤ 65536) : Gives 68 #[.int .u64 1, .int .u64 n] w (.tuple #[.int .u64 0, .int .u64 n]) := by
  have e1 : bits .and .u64 1 4294967295 = 1 := and_low32 1 (by decide) (by decide)
  have e2 : bits .and .u64 (n : Int) 4294967295 = n := by rw [and_low32 n (by omega) (by omega)]; omega
  have e3 : bits .and .u64 0 4294967295 = 0 := and_low32 0 (by decide) (by decide)
  have hq : (n : Int) / 4294967296 = 0 := by omega
  go_enter Tryz.func68, Tryz.ntmps68
  go_wp2_with fail
  go_ret2
  exact ⟨rfl, rfl⟩
set_option maxHeartbeats 2000000 in
set_option maxRecDepth 100000 in
theorem mul_any (n : Nat) (w : World) (hn : n ≤ 65536) : Gives 49 #[.int .u64 1, .int .u64 n] w (.tuple #[.int .u64 0, .int .u64 n]) := by
  have g0 := fun W => Lib.hid (mul64_any n W hn)
  go_enter Tryz.func49, Tryz.ntmps49
  go_wp2_with fail
  refine (g0 _).out.mono ?_; rintro e x1 ⟨rfl, rfl⟩
  go_wp2_with fail
  go_ret2
  exact ⟨rfl, rfl⟩
set_option maxHeartbeats 4000000 in
set_option maxRecDepth 100000 in
theorem repeat_any (b n : Nat) (w : World) (hb : w.cell? ⟨b, 0, none⟩ = some (bv 255)) (h1 : 1 ≤ n) (h2 : n ≤ 8192) :
    Calls Tryz.prog 18 #[.slice (some ⟨b, 0, none⟩) 1 1, i64 n] w fun e w' => ∃ (junk : List Value) (m : Nat), e = .returned (.slice (some ⟨w.heap.size, 0, none⟩) n n) ∧ w' = (w.alloc (.cells (List.replicate n (bv 255) ++ junk).toArray 5)).drewN m := by
  have g0 := fun W => Lib.hid (mul_any n W (by omega))
  obtain ⟨cs, hrunM, hle, _⟩ := Lib.run_makeNoZero (P := Tryz.prog) w #[3] 38 5 Tryz.underlying38 n (by omega)
  have hcall : (callFunc 50 #[.int .i64 (n : Int)]).run Tryz.prog w = .ok (.value (.slice (some ⟨w.heap.size, 0, none⟩) n cs.size)) ((w.alloc (.cells cs 5)).drewN 2) := by
    rw [run_callFunc_extern Tryz.func50 (by kernel_rfl) (by kernel_rfl) (by kernel_rfl) (e := Extern.BytealgMakeNoZero.makeNoZero #[3] #[38]) (by kernel_rfl), hrunM]
    rfl
  clear hrunM
  have hinfo : (Tryz.prog.info? 5).map (·.size) = some 1 := by
    obtain ⟨i0, hi, hz0, hz1, hz2⟩ := info_parts info_u8
    rw [hi]; exact congrArg some hz1
  have hblt : b < w.heap.size := by
    unfold World.cell? at hb
    cases hx : w.heap[b]? with
    | none => rw [hx] at hb; simp at hb
    | some o => exact (Array.getElem?_eq_some_iff.1 hx).1
  -- the row, so far
  obtain ⟨R, hR⟩ : ∃ R : Nat → List Value, ∀ q, R q = List.replicate q (bv 255) ++ cs.toList.drop q := ⟨_, fun _ => rfl⟩
  have hRl : ∀ q, q ≤ n → (R q).length = cs.size := by intro q hq; rw [hR]; simp; omega
  have cp : ∀ (mm q src ln : Nat) (sb : Nat) (sc : Nat), q + ln ≤ n → ln ≤ src → (∀ j, j < ln → (((w.alloc (.cells (R q).toArray 5)).drewN mm).cell? ((⟨sb, 0, none⟩ : Addr).add j) = some (bv 255))) → (n - q ≤ ln ∨ src ≤ ln) →
      (Builtin.copy_ #[38, 38] 3 #[.slice (some ⟨w.heap.size, q, none⟩) (n - q) (n - q), .slice (some ⟨sb, 0, none⟩) src sc]).run Tryz.prog ((w.alloc (.cells (R q).toArray 5)).drewN mm) = .ok (goInt ln) ((w.alloc (.cells (R (q + ln)).toArray 5)).drewN mm) := by
    intro mm q src ln sb sc h3 h4 h5 h6
    have := run_copy_row (P := Tryz.prog) ((w.alloc (.cells (R q).toArray 5)).drewN mm) 38 38 3 5 w.heap.size q (n - q) (n - q) ⟨sb, 0, none⟩ src sc _ _ (List.replicate ln (bv 255)) Tryz.underlying38 hinfo (blk_new w _) (by rw [List.length_replicate]; show ln = min src (n - q); omega)
      (fun j v hj => by
        have hjl := (List.getElem?_eq_some_iff.1 hj).1
        rw [List.length_replicate] at hjl
        rw [List.getElem?_replicate, if_pos hjl] at hj
        injection hj with hj
        rw [← hj]
        exact h5 j hjl) (by simp; rw [hRl q (by omega)]; omega) (by intro v hv; rw [(List.mem_replicate.1 hv).2]; rfl)
    rw [this, List.length_replicate]
    congr 1
    show ((w.alloc (.cells (R q).toArray 5)).setRow w.heap.size _).drewN mm = _
    rw [World.setRow_alloc_new]
    congr 4
    simp only [hR]
    rw [List.take_left' (by simp), List.drop_append, List.length_replicate]
    have e1 : (List.replicate q (bv 255)).drop (q + ln) = [] := List.drop_eq_nil_of_le (by simp)
    rw [e1, List.nil_append, List.drop_drop, ← List.replicate_append_replicate]
    congr 2
    omega
  have hR0 : cs = (R 0).toArray := by rw [hR]; simp
  rw [hR0] at hcall
  rw [show (R 0).toArray.size = cs.size by rw [List.size_toArray, hRl 0 (by omega)]] at hcall
  have hcp0 := cp 2 0 1 1 b 1 (by omega) (by omega) (fun j hj => by
    obtain rfl : j = 0 := by omega
    have := World.cell?_alloc_lt w (.cells (R 0).toArray 5) ⟨b, 0, none⟩ hblt
    rw [show (((w.alloc (.cells (R 0).toArray 5)).drewN 2).cell? ((⟨b, 0, none⟩ : Addr).add 0)) = (w.alloc (.cells (R 0).toArray 5)).cell? ⟨b, 0, none⟩ from rfl, this]
    exact hb) (.inr (Nat.le_refl _))
  rw [Nat.sub_zero, Nat.zero_add] at hcp0
  have HRn := Lib.hid (hR n)
  have HR := Lib.hid hR
  have CP := Lib.hid cp
  generalize cs.size = cz at *
  clear hR hR0 hRl cp
  go_enter Tryz.func18, Tryz.ntmps18
  go_wp2_with fail
  refine (g0 _).out.mono ?_; rintro e x1 ⟨rfl, rfl⟩
  go_wp2_with fail
  go_loopw [10] (fun i wr => ∃ q m : Nat, 1 ≤ q ∧ q ≤ n ∧ i = .int .i64 q ∧ wr = (x1.alloc (.cells (R q).toArray 5)).drewN m) (fun i _ => n - (intOf i).toNat)
  case atStart => exact ⟨1, 2, Nat.le_refl _, h1, rfl, rfl⟩
  case round =>
    obtain ⟨q, m, hq1, hq, rfl, rfl⟩ := hrel
    by_cases hlt : q < n
    · have hcp := CP.out (m + 1) q q (min q (n - q)) x1.heap.size n (by omega) (by omega) (fun j hj => by
        rw [Addr.add_lit, Nat.zero_add]
        have := cell_blk (blk_new x1 (.cells (R q).toArray 5)) j
        rw [show ((x1.alloc (.cells (R q).toArray 5)).drewN (m + 1)).cell? ⟨x1.heap.size, j, none⟩ = (x1.alloc (.cells (R q).toArray 5)).cell? ⟨x1.heap.size, j, none⟩ from rfl, this]
        rw [HR.out q]
        rw [List.getElem?_toArray, List.getElem?_append_left (by rw [List.length_replicate]; omega), List.getElem?_replicate, if_pos (by omega)]) (by omega)
      have t1 : (q : Int) < (n : Int) := by omega
      have t2 : ¬ n = q := by omega
      have hgr : ((x1.alloc (.cells (R q).toArray 5)).drewN m).grownBy ((x1.alloc (.cells (R (q + min q (n - q))).toArray 5)).drewN (m + 1)) (some x1.heap.size) := by
        refine ⟨rfl, rfl, rfl, by simp, fun k hk hn => ?_⟩
        have hk' : k < x1.heap.size := by
          have h1 : ((x1.alloc (.cells (R q).toArray 5)).drewN m).heap.size = x1.heap.size + 1 := by simp
          have h2 : k ≠ x1.heap.size := fun e => hn (by rw [e])
          omega
        exact (heap_old x1 _ hk').trans (heap_old x1 _ hk').symm
      have hnx : q + min q (n - q) ≤ n := by omega
      have hnq : 1 ≤ min q (n - q) := by omega
      generalize min q (n - q) = r at *
      clear CP HR HRn hb hcall hcp0 g0
      go_wp2_with fail
      refine wp_region_ph (D := fun w' => ∃ p : GrOf _ (some x1.heap.size), w' = p.v) 8 [7] (by kernel_rfl) (by kernel_rfl) ⟨⟨_, grown_dr (grown_same _ _)⟩, rfl⟩ ?_
      simp only [List.take_succ_cons, List.take_zero, List.drop_succ_cons, List.drop_zero]
      have on0 := @on_rd0; have on1 := @on_rd1; have on2 := @on_rd2; have on3 := @on_new1; have on4 := @on_new2; have on5 := @gr_rd0
      repeat ((with_reducible refine head_quiet ?_ ?_); (focus rfl); (intro K hK); go_simp; first | ((with_reducible refine hK _ ?_); clear hK K) | (rw [if_neg (by intro h; cases h)]; (with_reducible refine hK _ ?_); clear hK K) | (apply Exists.intro; refine ⟨fun _ => ?_, hK _ ?_⟩; (fail); clear hK K))
      refine head_run (by rfl) rfl (goInt r) ((x1.alloc (.cells (R (q + r)).toArray 5)).drewN (m + 1)) ?_ ⟨⟨_, hgr⟩, rfl⟩ ?_
      · go_simp
      clear on0 on1 on2 on3 on4 on5
      with_reducible refine head_nil ?_
      with_reducible refine eq_intro ?_
      go_wp2_with fail
      exact ⟨⟨q + r, m + 1, by omega, hnx, by push_cast; rfl, rfl⟩, by simp [intOf]; omega⟩
    · obtain rfl : q = n := by omega
      go_wp2_with fail
      go_ret
      exact ⟨_, m, rfl, by rw [HRn.out]⟩
end Go.Proofs.YtokpoogcoeodkaaGreatDoor
