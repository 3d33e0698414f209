/- RingOrder: the walk. -/
import Derived.Test.YtbbiohgillhmnaaRingD
namespace Go.Proofs.Ytbbiohgillhmnaa
open Go.RowKit Flo
attribute [local go_sem] run_store_complex

theorem founds_len (l : List Found) : (l.flatMap Found.row).length = l.length * 11 := by
  induction l with
  | nil => rfl
  | cons f l ih =>
    have e : (f.row).length = 11 := rfl
    rw [List.flatMap_cons, List.length_append, ih, e, show (f :: l).length = l.length + 1 from rfl]
    omega
theorem founds_drop (l : List Found) : ∀ k, (l.flatMap Found.row).drop (k * 11) = (l.drop k).flatMap Found.row := by
  induction l with
  | nil => intro k; simp
  | cons f l ih =>
    intro k
    cases k with
    | zero => simp
    | succ k =>
      rw [List.drop_succ_cons, List.flatMap_cons, ← ih, Nat.add_mul, Nat.one_mul, Nat.add_comm, ← List.drop_drop, show List.drop 11 (f.row ++ List.flatMap Found.row l) = List.flatMap Found.row l from rfl]
theorem founds_take (l : List Found) : ∀ k, (l.flatMap Found.row).take (k * 11) = (l.take k).flatMap Found.row := by
  intro k
  have h := List.take_append_drop (k * 11) (l.flatMap Found.row)
  rw [founds_drop] at h
  have h2 : (l.take k).flatMap Found.row ++ (l.drop k).flatMap Found.row = l.flatMap Found.row := by rw [← List.flatMap_append, List.take_append_drop]
  exact List.append_cancel_right (h.trans h2.symm)
theorem founds_one (l : List Found) : ∀ u ∈ l.flatMap Found.row, u.oneCell' = true := by
  intro u hu
  obtain ⟨f, _, hf⟩ := List.mem_flatMap.1 hu
  simp only [List.mem_cons, List.not_mem_nil, or_false] at hf
  rcases hf with rfl | rfl | rfl | rfl | rfl | rfl | rfl | rfl | rfl | rfl | rfl <;> rfl
/-- The cells of a part of a row. -/
theorem founds_part {w : World} {g : Nat} {l : List Found} (hc : ∀ j u, (l.flatMap Found.row)[j]? = some u → w.cell? ⟨g, j, none⟩ = some u) (k : Nat) : ∀ j u, ((l.drop k).flatMap Found.row)[j]? = some u → w.cell? ((⟨g, k * 11, none⟩ : Addr).add j) = some u := by
  intro j u hj
  rw [← founds_drop, List.getElem?_drop] at hj
  rw [Addr.add_lit]
  exact hc _ _ hj

set_option maxHeartbeats 8000000 in
set_option maxRecDepth 100000 in
theorem order_makes (A : Option Addr) (n cap : Nat) (l : List Put) (by8 : Nat) (h8 : by8 ≤ 255) (w : World) (h : Puts w (.slice A n cap) l) : Makes 6 #[.slice A n cap, .int .u8 by8] w (.bool true) := by
  have gf := fun W => Lib.hid (fixed7 W)
  have n1 := h.len
  rw [List.length_map] at n1
  subst n1
  by_cases hl : 60 < l.length ∨ l.length = 0
  · obtain ⟨t1, ht1⟩ : ∃ t, decide ((60 : Int) < (l.length : Int)) = t := ⟨_, rfl⟩
    obtain ⟨t2, ht2⟩ : ∃ t, ((l.length : Int) == 0) = t := ⟨_, rfl⟩
    have hor : (t1 || t2) = true := by
      rw [← ht1, ← ht2, Bool.or_eq_true, beq_iff_eq, decide_eq_true_eq]
      omega
    clear hl h
    cases t1 <;> cases t2
    · cases hor
    all_goals
      clear hor
      go_enter Try.func6, Try.ntmps6
      go_wp2_with fail
      all_goals
        refine (gf _).out.mono ?_; rintro e w1 ⟨rfl, hb⟩
        go_wp2_with fail
        go_ret
        exact ⟨rfl, hb⟩
  · have t1 : decide ((60 : Int) < (l.length : Int)) = false := decide_eq_false (by omega)
    have t2 : ((l.length : Int) == 0) = false := by rw [beq_eq_false_iff_ne]; omega
    have t3 : ¬ 60 < l.length := by omega
    have t4 : l.length ≠ 0 := by omega
    have gfo := Lib.hid (found_any A l.length cap l w h (by omega))
    go_enter Try.func6, Try.ntmps6
    go_wp2_with fail
    refine gfo.out.mono ?_; rintro e w1 ⟨v, rfl, hown, hb1⟩
    have hmod : (by8 : Int).tmod (l.length : Int) = ((by8 % l.length : Nat) : Int) := by rw [Int.tmod_eq_emod_of_nonneg (by omega)]; push_cast; rfl
    have hklt : by8 % l.length < l.length := Nat.mod_lt _ (by omega)
    obtain ⟨g, cp, rfl, hg0, hg1, hcp, hcell⟩ := own_pos hown (by omega) (by decide)
    have OWN := Lib.hid hown
    have HC := Lib.hid hcell
    clear hown hcell
    generalize hk : by8 % l.length = k at *
    have hk1 : (k : Int) ≤ (l.length : Int) := by omega
    have hk2 : (k : Int) ≤ (cp : Int) := by omega
    have hk3 : k ≤ cp := by omega
    obtain ⟨i0, hi, hz0, hz1, hz2⟩ := info_parts info_Found
    have hfl : (l.map Put.found).length = l.length := List.length_map _
    generalize hfs : l.map Put.found = fs at *
    have hcells := fun (x : Obj) (j : Nat) (u : Value) (hj : (fs.flatMap Found.row)[j]? = some u) => (World.cell?_alloc_lt w1 x ⟨g, j, none⟩ hg1).trans (HC.out j u hj)
    go_wp2_with (at_builtin; go_must (refine wpList_append_own _ rfl _ _ 31 rfl w1.heap.size 37 i0 _ 11 120 Try.underlying31 hi hz0 hz1 hz2 rfl (by decide) _ _ _ rfl (World.ownsRow_made w1 #[] 0 (Nat.le_refl _) (Nat.zero_le _) rfl) ⟨g, k * 11, none⟩ (l.length - k) (cp - k) ((fs.drop k).flatMap Found.row) rfl ?c0 ?c1 (founds_one _) ?c3 ?c4 ?c5 ?_))
    case c0 => rw [founds_len, List.length_drop, hfl]
    case c1 => exact founds_part (hcells _) k
    case c3 => unfold maxLen; omega
    case c4 => omega
    case c5 => simp
    intro v2 w2 hown2 hgr2 _
    have hb2 := Base.gr (Base.al (Below.refl _ w1) (.cells #[] 37)) hgr2 (fun j hj => by simp [Value.ownBlock] at hj; omega)
    have OWN2 := Lib.hid hown2
    clear hown2 hgr2
    have hg2 : g < w2.heap.size := Nat.lt_of_lt_of_le hg1 hb2.size
    have hcells2 := fun (j : Nat) (u : Value) (hj : (fs.flatMap Found.row)[j]? = some u) => ((rd hb2).1 g j hg1).trans (HC.out j u hj)
    have hpart0 : ∀ j u, ((fs.take k).flatMap Found.row)[j]? = some u → w2.cell? ((⟨g, 0, none⟩ : Addr).add j) = some u := fun j u hj => by
      rw [Addr.add_lit, Nat.zero_add]
      rw [← founds_take, List.getElem?_take] at hj
      split at hj
      · exact hcells2 _ _ hj
      · cases hj
    clear hcells
    go_wp2_with (at_builtin; go_must (refine wpList_append_own _ rfl _ _ 31 rfl w1.heap.size 37 i0 _ 11 120 Try.underlying31 hi hz0 hz1 hz2 rfl (by decide) _ _ _ rfl OWN2.out ⟨g, 0, none⟩ k cp ((fs.take k).flatMap Found.row) rfl ?d0 hpart0 (founds_one _) ?d3 ?d4 ?d5 ?_))
    case d0 => rw [founds_len, List.length_take, hfl, Nat.min_eq_left (by omega)]
    case d3 => unfold maxLen; omega
    case d4 => omega
    case d5 => have := hb2.size; omega
    intro v3 w3 hown3 hgr3 _
    have hb3 := Base.gr hb2 hgr3 (fun j hj => (OWN2.out.lt j hj).1)
    have hlen3 : l.length - k + k = (turn fs k).length := by rw [turn_length, hfl]; omega
    have hrows3 : (fs.drop k).flatMap Found.row ++ (fs.take k).flatMap Found.row = (turn fs k).flatMap Found.row := by unfold turn; rw [List.flatMap_append]
    rw [hrows3, hlen3] at hown3
    have hS1 : Founds w1 (.slice (some ⟨g, 0, none⟩) l.length cp) fs := Sl.own _ (by intro y hy; obtain ⟨q, _, rfl⟩ := List.mem_map.1 hy; rfl) (by
      have := OWN.out
      rw [List.flatMap_def] at this
      rw [List.length_map, hfl]
      exact this)
    have hS3 : Founds w3 v3 (turn fs k) := Sl.own _ (by intro y hy; obtain ⟨q, _, rfl⟩ := List.mem_map.1 hy; rfl) (by
      have := hown3
      rw [List.flatMap_def] at this
      rw [List.length_map]
      exact this)
    obtain ⟨A3, cp3, hv3, _⟩ := hS3
    have hS3 : Founds w3 v3 (turn fs k) := Sl.own _ (by intro y hy; obtain ⟨q, _, rfl⟩ := List.mem_map.1 hy; rfl) (by
      have := hown3
      rw [List.flatMap_def] at this
      rw [List.length_map]
      exact this)
    rw [List.length_map, turn_length, hfl] at hv3
    subst hv3
    have c1 := fun W hW => Lib.hid (count_any (some ⟨g, 0, none⟩) l.length cp fs W (Sl.below (Sl.below hS1 hb3) hW) (by omega))
    have c2 := fun W hW => Lib.hid (count_any A3 l.length cp3 (turn fs k) W (Sl.below hS3 hW) (by rw [turn_length]; omega))
    have HT := Lib.hid (fun i => @count_turn fs k i)
    have hcl1 : (countB fs).length = l.length := by unfold countB; rw [List.length_map, hfl]
    have hcl2 : (countB (turn fs k)).length = l.length := by unfold countB; rw [List.length_map, turn_length, hfl]
    have hbw3 := Base.tr hb1 hb3
    have HFL := Lib.hid hfl
    clear hown3 hgr3 hS1 hS3 hlen3 hrows3 hpart0 hcells2 hfs hfl
    go_wp2_with fail
    refine (c1 _ (Below.refl _ _)).out.mono ?_; rintro e w4 ⟨va, rfl, howna, hb4⟩
    rw [HFL.out] at howna
    obtain ⟨ga, cpa, rfl, hga0, hga1, hcpa, hca⟩ := own_pos howna (by omega) (by decide)
    clear howna
    go_wp2_with fail
    refine (c2 _ hb4).out.mono ?_; rintro e w5 ⟨vb, rfl, hownb, hb5⟩
    rw [turn_length, HFL.out] at hownb
    obtain ⟨gb, cpb, rfl, hgb0, hgb1, hcpb, hcb⟩ := own_pos hownb (by omega) (by decide)
    clear hownb
    have hA : ∀ j u, ((countB fs).map Value.bool)[j]? = some u → w5.cell? ⟨ga, j, none⟩ = some u := fun j u hj => ((rd hb5).1 ga j hga1).trans (hca j u hj)
    have HA := Lib.hid hA
    have HB := Lib.hid hcb
    have hga5 : ga < w5.heap.size := Nat.lt_of_lt_of_le hga1 hb5.size
    have hbw5 := Base.tr (Base.tr hbw3 hb4) hb5
    clear hA hca hcb
    go_wp2_with fail
    go_loopw [55] (fun i wq => ∃ q : Nat, q ≤ l.length ∧ i = .int .i64 q ∧ Below w5.heap.size w5 wq) (fun i _ => l.length - (intOf i).toNat)
    case atStart => exact ⟨0, by omega, rfl, Below.refl _ _⟩
    case round =>
      obtain ⟨q, hq, rfl, hbq⟩ := hrel
      by_cases hlt : q < l.length
      · have ht := HT.out q (by have := HFL.out; omega) (by have := HFL.out; omega)
        rw [HFL.out] at ht
        have hmlt : (q + l.length - k) % l.length < l.length := Nat.mod_lt _ (by omega)
        have hx : ∃ x, (countB fs)[q]? = some x := ⟨_, List.getElem?_eq_getElem (by omega)⟩
        obtain ⟨x, hx⟩ := hx
        rw [hx] at ht
        have ca := ((rd hbq).1 ga q hga5).trans (HA.out q (.bool x) (by rw [List.getElem?_map, hx]; rfl))
        have cb := ((rd hbq).1 gb ((q + l.length - k) % l.length) hgb1).trans (HB.out _ (.bool x) (by rw [List.getElem?_map, ht]; rfl))
        have e1 : IntKind.i64.wrap ((q : Int) + (l.length : Int)) = (q : Int) + (l.length : Int) := by rw [IntKind.wrap_i64]; omega
        have e2 : IntKind.i64.wrap ((q : Int) + (l.length : Int) - (k : Int)) = ((q + l.length - k : Nat) : Int) := by rw [IntKind.wrap_i64]; omega
        have e3 : ((q + l.length - k : Nat) : Int).tmod (l.length : Int) = (((q + l.length - k) % l.length : Nat) : Int) := by rw [Int.tmod_eq_emod_of_nonneg (by omega)]; push_cast; rfl
        have hga6 : ga < wr.heap.size := Nat.lt_of_lt_of_le hga5 hbq.size
        have hgb6 : gb < wr.heap.size := Nat.lt_of_lt_of_le hgb1 hbq.size
        generalize hj : (q + l.length - k) % l.length = j at *
        generalize hz : q + l.length - k = z at *
        have hj1 : (j : Int) < (l.length : Int) := by omega
        have hq1 : (q : Int) < (l.length : Int) := by omega
        clear hj hx ht hk hz hmod
        go_wp2_with fail
        have on0 := @on_rd0; have on1 := @on_rd1; have on2 := @on_rd2; have on3 := @on_new1; have on4 := @on_new2
        refine wp_region_quiet_on (by kernel_rfl) (by kernel_rfl) ?_
        repeat ((with_reducible refine wpQuiet_step (fun K hK => ?_)); go_simp; first | ((with_reducible refine hK _ ?_); clear hK K) | (rw [if_neg (by intro h; cases h)]; (with_reducible refine hK _ ?_); clear hK K) | (apply Exists.intro; refine ⟨fun _ => ?_, hK _ ?_⟩; (fail); clear hK K))
        clear on0 on1 on2 on3 on4
        with_reducible refine wpQuiet_nil ?_
        intro _ hw'
        obtain ⟨pq, hw''⟩ := hw'
        subst hw''
        go_wp2_with fail
        exact ⟨⟨q + 1, by omega, by go_num, Base.tr hbq pq.h⟩, by simp [intOf]; omega⟩
      · have hke : q = l.length := by omega
        subst hke
        have hbw6 := Base.tr hbw5 hbq
        go_wp2_with fail
        refine (gf _).out.mono ?_; rintro e w6 ⟨rfl, hb6⟩
        go_wp2_with fail
        go_ret
        exact ⟨rfl, Base.tr hbw6 hb6⟩
end Go.Proofs.Ytbbiohgillhmnaa
