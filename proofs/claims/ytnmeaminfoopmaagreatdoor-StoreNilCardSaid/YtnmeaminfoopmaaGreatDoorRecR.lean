/- The reference's class of what stands at a place. -/
import Derived.Test.YtnmeaminfoopmaaGreatDoorMg10
import Derived.Test.YtnmeaminfoopmaaGreatDoorPh2
import Derived.Test.YtnmeaminfoopmaaGreatDoorMg9
namespace Go.Proofs.YtnmeaminfoopmaaGreatDoor
open Go.RowKit

theorem byt_empty (w : World) (A : Option Addr) : Byt w (.slice A 0 0) [] := ⟨A, 0, rfl, Nat.le_refl _, Nat.zero_le _, fun _ => rfl, fun h => absurd h (by decide)⟩
theorem take_two {l : List Nat} {i x y : Nat} (hx : l[i]? = some x) (hy : l[i + 1]? = some y) : (l.drop i).take 2 = [x, y] := by
  obtain ⟨h1, rfl⟩ := List.getElem?_eq_some_iff.1 hx
  obtain ⟨h2, rfl⟩ := List.getElem?_eq_some_iff.1 hy
  rw [List.drop_eq_getElem_cons h1, List.drop_eq_getElem_cons h2]
  rfl
/-- What flags say, case by case. -/
theorem state_cases (f : Nat) : (f = 127 ∧ recState f = 4) ∨ (f = 63 ∧ recState f = 5) ∨ (f = 95 ∧ recState f = 6) ∨ (f = 31 ∧ recState f = 6) ∨ (f ≠ 127 ∧ f ≠ 63 ∧ f ≠ 95 ∧ f ≠ 31 ∧ recState f = 3) := by
  by_cases h1 : f = 127
  · subst h1; exact .inl ⟨rfl, rfl⟩
  by_cases h2 : f = 63
  · subst h2; exact .inr (.inl ⟨rfl, rfl⟩)
  by_cases h3 : f = 95
  · subst h3; exact .inr (.inr (.inl ⟨rfl, rfl⟩))
  by_cases h4 : f = 31
  · subst h4; exact .inr (.inr (.inr (.inl ⟨rfl, rfl⟩)))
  exact .inr (.inr (.inr (.inr ⟨h1, h2, h3, h4, by unfold recState; rw [if_neg h1, if_neg h2, if_neg (by omega)]⟩)))

set_option maxHeartbeats 4000000 in
set_option maxRecDepth 100000 in
theorem refClass_any (A : Option Addr) (n cap : Nat) (l : List Nat) (a : Nat) (w : World) (h : Byt w (.slice A n cap) l) (hl : ∀ b ∈ l, b < 256) (hp : 0 < l.length) (hm : l.length ≤ 4900) (ha6 : a ≤ 100000) :
    Calls Tryz.prog 104 #[.slice A n cap, i64 a] w (RecPost w (recClass l a)) := by
  have hn := h.len
  rw [List.length_map] at hn
  subst hn
  have hcap : l.length ≤ cap ∧ cap ≤ maxLen := by
    obtain ⟨_, c', hv', hle, hmx, _⟩ := h
    injection hv' with _ _ hv'
    subst hv'
    rw [List.length_map] at hle
    exact ⟨hle, hmx⟩
  obtain ⟨hc1, hc2⟩ := hcap
  unfold maxLen at hc2
  obtain ⟨b, off, rfl, hb, hx⟩ := Byt.cell h hp
  have t1 : ¬ ((a : Int) < 0) := by omega
  have b0 : Below w.heap.size w (w.alloc (.cells #[] 5)) := Base.al (Below.refl _ _) _
  by_cases h1 : l.length < a
  · have hv : recClass l a = (3, [], 0) := by unfold recClass; rw [if_pos h1]
    rw [hv]
    clear hv hx
    go_enter Tryz.func104, Tryz.ntmps104
    go_wp2_with fail
    go_ret3
    exact ⟨_, _, _, rfl, byt_empty _ _, b0⟩
  have t2 : ¬ ((l.length : Int) < (a : Int)) := by omega
  obtain ⟨R, hR⟩ : ∃ R, blankB (l.drop a) = R := ⟨_, rfl⟩
  have HR := Lib.hid hR
  clear hR
  go_enter Tryz.func104, Tryz.ntmps104
  go_wp2_with fail
  generalize hx1 : w.alloc (.cells #[] 5) = x1 at *
  have hx8 : ∀ (j x : Nat), l[j]? = some x → x1.cell? ⟨b, off + j, none⟩ = some (bv x) := by
    intro j x hj
    have := hx j (bv x) (by rw [List.getElem?_map, hj]; rfl)
    rw [Addr.add_lit] at this
    rw [b0.cell hb]
    exact this
  have HX8 := Lib.hid hx8
  clear hx8
  have zb : b < x1.heap.size := Nat.lt_of_lt_of_le hb b0.size
  go_loopw [8, 9] (fun s8 s9 wr => ∃ (j : Nat) (bb : Bool), a ≤ j ∧ j ≤ l.length ∧ s9 = .int .i64 j ∧ s8 = .bool bb ∧ Hid ((bb && blankB (l.drop j)) = R) ∧ wr = x1) (fun _ s9 _ => l.length - (intOf s9).toNat)
  case atStart => exact ⟨a, true, Nat.le_refl _, by omega, rfl, rfl, Lib.hid (by rw [HR.out]; rfl), rfl⟩
  case round =>
    obtain ⟨j, bb, hj1, hj2, rfl, rfl, HB, rfl⟩ := hrel
    by_cases hlt : j < l.length
    · obtain ⟨x, hxj⟩ : ∃ x, l[j]? = some x := ⟨_, List.getElem?_eq_getElem hlt⟩
      have cx := HX8.out j x hxj
      have hbd := blankB_drop hxj
      cases bb
      · have HN : Hid ((false && blankB (l.drop (j + 1))) = R) := Lib.hid (by rw [← HB.out]; rfl)
        clear hbd hx hxj
        go_wp2_with fail
        exact ⟨⟨j + 1, false, by omega, by omega, by go_num, rfl, HN, trivial⟩, by simp [intOf]; omega⟩
      · by_cases hff : x = 255
        · subst hff
          have HN : Hid ((true && blankB (l.drop (j + 1))) = R) := Lib.hid (by rw [← HB.out, hbd]; rfl)
          clear hbd hx hxj
          go_wp2_with fail
          exact ⟨⟨j + 1, true, by omega, by omega, by go_num, rfl, HN, trivial⟩, by simp [intOf]; omega⟩
        · have hf1 : ((x : Int) == 255) = false := by rw [beq_eq_false_iff_ne]; omega
          have HN : Hid ((false && blankB (l.drop (j + 1))) = R) := Lib.hid (by rw [← HB.out, hbd, beq_eq_false_iff_ne.2 hff]; rfl)
          clear hbd hx hxj
          go_wp2_with fail
          exact ⟨⟨j + 1, false, by omega, by omega, by go_num, rfl, HN, trivial⟩, by simp [intOf]; omega⟩
    · obtain rfl : j = l.length := by omega
      have hbb : bb = R := by rw [← HB.out, List.drop_eq_nil_of_le (Nat.le_refl _)]; cases bb <;> rfl
      subst hbb
      cases bb
      · have h4 : a < l.length := by
          rcases Nat.lt_or_ge a l.length with h | h
          · exact h
          · have := HR.out
            rw [List.drop_eq_nil_of_le h] at this
            exact absurd this (by decide)
        obtain ⟨f, hf⟩ : ∃ f, l[a]? = some f := ⟨_, List.getElem?_eq_getElem h4⟩
        have hgf : l.getD a 0 = f := by rw [List.getD_eq_getElem?_getD, hf]; rfl
        have cf := HX8.out a f hf
        have hv : recClass l a = if recState f = 3 ∨ (pGet l (a + 1) 2).2.2 ≠ 0 then (3, [], 0)
            else if (pGet l (a + 3) 4).2.2 ≠ 0 ∨ l.length ≤ a + 7 + (pGet l (a + 1) 2).1 ∨ l.getD (a + 7 + (pGet l (a + 1) 2).1) 0 ≠ 0 then (3, [], 0)
            else if checkedB ((l.drop (a + 7)).take (pGet l (a + 1) 2).1) ≠ (pGet l (a + 3) 4).1 then (3, [], 0)
            else (recState f, (l.drop (a + 7)).take (pGet l (a + 1) 2).1, a + 7 + (pGet l (a + 1) 2).1 + 1) := by
          unfold recClass
          rw [if_neg h1, if_neg (by rw [HR.out]; decide), hgf]
        clear hx hgf hf
        have ks : IntKind.i64.wrap ((l.length : Int) - (a : Int)) = (l.length : Int) - (a : Int) := by rw [IntKind.wrap_i64]; omega
        by_cases h8 : l.length < a + 8
        · have hv2 : recClass l a = (3, [], 0) := by
            rw [hv]
            split
            · rfl
            · rename_i hn
              rw [not_or] at hn
              by_cases h7 : l.length < a + 3 + 4
              · rw [if_pos (.inl (by unfold pGet; rw [if_pos h7]; decide))]
              · rw [if_pos (.inr (.inl (by omega)))]
          have HV := Lib.hid hv2
          have h9 : (l.length : Int) - (a : Int) < 8 := by omega
          clear hv hv2
          rcases state_cases f with ⟨rfl, -⟩ | ⟨rfl, -⟩ | ⟨rfl, -⟩ | ⟨rfl, -⟩ | ⟨n1, n2, n3, n4, -⟩
          all_goals
            first
            | (have e1 : ((f : Int) == 127) = false := by rw [beq_eq_false_iff_ne]; omega
               have e2 : ((f : Int) == 63) = false := by rw [beq_eq_false_iff_ne]; omega
               have e3 : ((f : Int) == 95) = false := by rw [beq_eq_false_iff_ne]; omega
               have e4 : ((f : Int) == 31) = false := by rw [beq_eq_false_iff_ne]; omega)
            | skip
            go_wp2_with fail
            go_ret3
            rw [HV.out]
            exact ⟨_, _, _, rfl, byt_empty _ _, b0⟩
        · have h9 : ¬ ((l.length : Int) - (a : Int) < 8) := by omega
          obtain ⟨p1, hp1⟩ : ∃ x, l[a + 1]? = some x := ⟨_, List.getElem?_eq_getElem (by omega)⟩
          obtain ⟨p2, hp2⟩ : ∃ x, l[a + 1 + 1]? = some x := ⟨_, List.getElem?_eq_getElem (by omega)⟩
          have c1 := HX8.out (a + 1) p1 hp1
          have c2 := HX8.out (a + 2) p2 hp2
          have hp18 := hl p1 (List.mem_of_getElem? hp1)
          have hp28 := hl p2 (List.mem_of_getElem? hp2)
          have htk := take_two hp1 hp2
          have hpg : pGet l (a + 1) 2 = (256 * p1 + p2, a + 3, 0) := by
            unfold pGet
            rw [if_neg (by omega), htk]
            have : beVal [p1, p2] = 256 * p1 + p2 := by simp [beVal]; omega
            rw [this]
          have q1 := fun q => on_cell (w := wr) zb c1 q
          have q2 := fun q => on_cell (w := wr) zb c2 q
          have k1 : ((a : Int) + 1).toNat = a + 1 := by omega
          have k2 : ((a : Int) + 2).toNat = a + 2 := by omega
          have k3 : (a : Int) + 1 < (l.length : Int) := by omega
          have k4 : (a : Int) + 2 < (l.length : Int) := by omega
          have k5 : (0 : Int) ≤ (a : Int) + 1 := by omega
          have k6 : (0 : Int) ≤ (a : Int) + 2 := by omega
          have kw1 : IntKind.i64.wrap ((a : Int) + 1) = (a : Int) + 1 := by rw [IntKind.wrap_i64]; omega
          have kw2 : IntKind.i64.wrap ((a : Int) + 2) = (a : Int) + 2 := by rw [IntKind.wrap_i64]; omega
          have kw3 : IntKind.i64.wrap (p1 : Int) = (p1 : Int) := by rw [IntKind.wrap_i64]; omega
          have kw4 : IntKind.i64.wrap (p2 : Int) = (p2 : Int) := by rw [IntKind.wrap_i64]; omega
          have kw5 : IntKind.i64.wrap (256 * (p1 : Int)) = 256 * (p1 : Int) := by rw [IntKind.wrap_i64]; omega
          have kw6 : IntKind.i64.wrap (256 * (p1 : Int) + (p2 : Int)) = 256 * (p1 : Int) + (p2 : Int) := by rw [IntKind.wrap_i64]; omega
          rw [hpg] at hv
          have HPT := Lib.hid (And.intro hp1 hp2)
          clear hpg hp1 hp2
          obtain ⟨n1, hn1⟩ : ∃ n1, 256 * p1 + p2 = n1 := ⟨_, rfl⟩
          rw [hn1] at hv
          simp only [] at hv
          by_cases h10 : l.length ≤ a + 7 + n1
          · have hv2 : recClass l a = (3, [], 0) := by
              rw [hv]
              split
              · rfl
              · rw [if_pos (.inr (.inl h10))]
            have HV := Lib.hid hv2
            have h11 : (l.length : Int) - (a : Int) - 8 < 256 * (p1 : Int) + (p2 : Int) := by omega
            have ks2 : IntKind.i64.wrap ((l.length : Int) - (a : Int) - 8) = (l.length : Int) - (a : Int) - 8 := by rw [IntKind.wrap_i64]; omega
            clear hv hv2
            rcases state_cases f with ⟨rfl, -⟩ | ⟨rfl, -⟩ | ⟨rfl, -⟩ | ⟨rfl, -⟩ | ⟨m1, m2, m3, m4, -⟩
            all_goals
              try (have e1 : ((f : Int) == 127) = false := by rw [beq_eq_false_iff_ne]; omega)
              try (have e2 : ((f : Int) == 63) = false := by rw [beq_eq_false_iff_ne]; omega)
              try (have e3 : ((f : Int) == 95) = false := by rw [beq_eq_false_iff_ne]; omega)
              try (have e4 : ((f : Int) == 31) = false := by rw [beq_eq_false_iff_ne]; omega)
              go_wp2_with fail
              first
              | (go_ret3
                 rw [HV.out]
                 exact ⟨_, _, _, rfl, byt_empty _ _, b0⟩)
              | skip
            all_goals
              have on0 := @on_rd0; have on1 := @on_rd1; have on2 := @on_rd2; have on3 := @on_new1; have on4 := @on_new2
              refine wp_region_quiet_on (by kernel_rfl) (by kernel_rfl) ?_
              repeat ((with_reducible refine wpQuiet_step (fun K hK => ?_)); go_simp; first | ((with_reducible refine hK _ ?_); clear hK K) | (rw [if_neg (by intro h; cases h)]; (with_reducible refine hK _ ?_); clear hK K) | (apply Exists.intro; refine ⟨fun _ => ?_, hK _ ?_⟩; (fail); clear hK K))
              clear on0 on1 on2 on3 on4
              with_reducible refine wpQuiet_nil ?_
              intro _ hw'
              obtain ⟨pq, hw''⟩ := hw'
              subst hw''
              have hx6 := Base.tr b0 pq.h
              go_wp2_with fail
              go_ret3
              rw [HV.out]
              exact ⟨_, _, _, rfl, byt_empty _ _, hx6⟩
          · obtain ⟨x, hx0⟩ : ∃ x, l[a + 7 + n1]? = some x := ⟨_, List.getElem?_eq_getElem (by omega)⟩
            have hgx : l.getD (a + 7 + n1) 0 = x := by rw [List.getD_eq_getElem?_getD, hx0]; rfl
            have cx := HX8.out (a + 7 + n1) x hx0
            have hx8 := hl x (List.mem_of_getElem? hx0)
            rw [hgx] at hv
            have h11 : ¬ ((l.length : Int) - (a : Int) - 8 < 256 * (p1 : Int) + (p2 : Int)) := by omega
            have ks2 : IntKind.i64.wrap ((l.length : Int) - (a : Int) - 8) = (l.length : Int) - (a : Int) - 8 := by rw [IntKind.wrap_i64]; omega
            have kx1 : (a : Int) + 7 + (256 * (p1 : Int) + (p2 : Int)) < (l.length : Int) := by omega
            have kx2 : (0 : Int) ≤ (a : Int) + 7 + (256 * (p1 : Int) + (p2 : Int)) := by omega
            have kx3 : ((a : Int) + 7 + (256 * (p1 : Int) + (p2 : Int))).toNat = a + 7 + n1 := by omega
            clear hx0 hgx
            by_cases hx0 : x = 0
            · subst hx0
              have hby0 := Byt.piece h (a + 7) n1 (cap - (a + 7)) (by omega) (by omega) (by unfold maxLen; omega)
              obtain ⟨rc, hrc⟩ : ∃ rc, (l.drop (a + 7)).take n1 = rc := ⟨_, rfl⟩
              have hrl : rc.length = n1 := by rw [← hrc, List.length_take, List.length_drop]; omega
              have hr8 : ∀ y ∈ rc, y < 256 := fun y hy => by rw [← hrc] at hy; exact hl y (List.mem_of_mem_drop (List.mem_of_mem_take hy))
              obtain ⟨wt, hwt, hwl⟩ : ∃ wt, pGet l (a + 3) 4 = (wt, a + 3 + 4, 0) ∧ wt < 4294967296 := by
                refine ⟨_, by unfold pGet; rw [if_neg (by omega)], ?_⟩
                have := beVal_lt ((l.drop (a + 3)).take 4) (fun b hb => hl b (List.mem_of_mem_drop (List.mem_of_mem_take hb)))
                rw [List.length_take, List.length_drop, Nat.min_eq_left (by omega)] at this
                exact this
              have hsum : checkedB rc = sumB (p1 :: p2 :: rc) := by
                unfold checkedB
                have : be 2 rc.length = [p1, p2] := by rw [hrl, ← hn1]; simp [be]; omega
                rw [this]
                rfl
              have hg3 := fun W (hW : Below w.heap.size w W) => rGet_any (some ⟨b, off, none⟩) l.length cap l (a + 3) 4 W (Sl.below h hW) hl (by omega) (by decide) (by decide) (by omega)
              rw [hwt] at hg3
              rw [hrc, hwt] at hv
              rw [hrc] at hby0
              have hv2 : recClass l a = if recState f = 3 then (3, [], 0) else if sumB (p1 :: p2 :: rc) ≠ wt then (3, [], 0) else (recState f, rc, a + 7 + n1 + 1) := by
                rw [hv, ← hsum]
                by_cases h3 : recState f = 3
                · rw [if_pos (.inl h3), if_pos h3]
                · rw [if_neg (by rintro (hh | hh); exact h3 hh; exact hh rfl), if_neg h3, if_neg (by rintro (hh | hh | hh); exact hh rfl; exact h10 hh; exact hh rfl)]
              have hck : sumB (p1 :: p2 :: rc) < 4294967296 := by
                unfold sumB sumNum
                have := adler_lt (1, 0) (p1 :: p2 :: rc)
                omega
              have hl2 : ∀ y ∈ p1 :: p2 :: rc, y < 256 := by
                intro y hy
                rcases List.mem_cons.1 hy with rfl | hy
                · exact hp18
                · rcases List.mem_cons.1 hy with rfl | hy
                  · exact hp28
                  · exact hr8 y hy
              have HV := Lib.hid hv2
              have HG3 := Lib.hid hg3
              obtain ⟨i0, hi, hz0, hz1, hz2⟩ := info_parts info_u8
              have s1 : (0 : Int) ≤ (a : Int) + 1 ∧ (a : Int) + 1 ≤ (a : Int) + 3 := by omega
              have s2 : (0 : Int) ≤ (a : Int) + 3 ∧ (a : Int) + 3 ≤ (cap : Int) := by omega
              have s3 : ((a : Int) + 3).toNat = a + 3 := by omega
              have s4 : a + 3 - (a + 1) = 2 := by omega
              have s5 : ¬ cap = a + 1 := by omega
              have s6 : ((a : Int) + 7).toNat = a + 7 := by omega
              have s7 : (0 : Int) ≤ (a : Int) + 7 ∧ (a : Int) + 7 ≤ (a : Int) + 7 + (256 * (p1 : Int) + (p2 : Int)) := by omega
              have s8 : (0 : Int) ≤ (a : Int) + 7 + (256 * (p1 : Int) + (p2 : Int)) ∧ (a : Int) + 7 + (256 * (p1 : Int) + (p2 : Int)) ≤ (cap : Int) := by omega
              have s9 : a + 7 + n1 - (a + 7) = n1 := by omega
              have s10 : ¬ cap = a + 7 := by omega
              clear hv hv2 hwt hg3 hsum hrc h
              rcases state_cases f with ⟨rfl, hst⟩ | ⟨rfl, hst⟩ | ⟨rfl, hst⟩ | ⟨rfl, hst⟩ | ⟨m1, m2, m3, m4, hst⟩
              all_goals
                try (have e1 : ((f : Int) == 127) = false := by rw [beq_eq_false_iff_ne]; omega)
                try (have e2 : ((f : Int) == 63) = false := by rw [beq_eq_false_iff_ne]; omega)
                try (have e3 : ((f : Int) == 95) = false := by rw [beq_eq_false_iff_ne]; omega)
                try (have e4 : ((f : Int) == 31) = false := by rw [beq_eq_false_iff_ne]; omega)
                have HST := Lib.hid hst
                clear hst
                go_wp2_with fail
                first
                | (go_ret3
                   rw [HV.out, if_pos HST.out]
                   exact ⟨_, _, _, rfl, byt_empty _ _, b0⟩)
                | skip
              all_goals
                have on0 := @on_rd0; have on1 := @on_rd1; have on2 := @on_rd2; have on3 := @on_new1; have on4 := @on_new2
                refine wp_region_quiet_on (by kernel_rfl) (by kernel_rfl) ?_
                repeat ((with_reducible refine wpQuiet_step (fun K hK => ?_)); go_simp; first | ((with_reducible refine hK _ ?_); clear hK K) | (rw [if_neg (by intro h; cases h)]; (with_reducible refine hK _ ?_); clear hK K) | (apply Exists.intro; refine ⟨fun _ => ?_, hK _ ?_⟩; (fail); clear hK K))
                clear on0 on1 on2 on3 on4
                with_reducible refine wpQuiet_nil ?_
                intro _ hw'
                obtain ⟨pq, hw''⟩ := hw'
                subst hw''
                have hx6 := Base.tr b0 pq.h
                have cx' : pq.v.cell? ⟨b, off + (a + 7 + n1), none⟩ = some (bv 0) := by rw [pq.h.cell zb]; exact cx
                have d1 : pq.v.cell? ⟨b, off + (a + 1), none⟩ = some (bv p1) := by rw [pq.h.cell zb]; exact c1
                have d2 : pq.v.cell? ⟨b, off + (a + 2), none⟩ = some (bv p2) := by rw [pq.h.cell zb]; exact c2
                have zo : b < pq.v.heap.size := Nat.lt_of_lt_of_le zb pq.h.size
                generalize pq.v = wo at *
                have hnews : ∀ j u, [bv p1, bv p2][j]? = some u → (wo.alloc (.cells #[] 5)).cell? ((⟨b, off + (a + 1), none⟩ : Addr).add j) = some u := by
                  intro j u hj
                  rw [(Base.al (Below.refl wo.heap.size wo) _).cell (by rw [block_add]; exact zo), Addr.add_lit]
                  match j, hj with
                  | 0, hj =>
                    obtain rfl : bv p1 = u := by simpa using hj
                    exact d1
                  | 1, hj =>
                    obtain rfl : bv p2 = u := by simpa using hj
                    exact d2
                  | j + 2, hj => simp at hj
                go_wp2_with (at_builtin; refine wpList_append_own _ rfl _ _ 95 rfl wo.heap.size 5 i0 _ 1 1 Tryz.underlying95 hi hz0 hz1 hz2 rfl (by decide) _ _ _ rfl (own_empty _ _) ⟨b, off + (a + 1), none⟩ 2 (cap - (a + 1)) [bv p1, bv p2] rfl rfl hnews ?c2 ?c3 ?c4 ?c5 ?_)
                case c2 => simp [Value.oneCell']
                case c3 => unfold maxLen; omega
                case c4 => omega
                case c5 => simp
                intro v1 w2 own2 gr2 _
                have hb2 := Base.gr (Base.al (Below.refl wo.heap.size wo) _) gr2 (fun g hg => ((own_empty wo 5).lt g hg).1)
                have hw2 := Base.tr hx6 hb2
                have by2 := Sl.below hby0 hw2
                have hs2 := Byt.src by2
                have hl1 : (rc.map bv).length = n1 * 1 := by rw [List.length_map, Nat.mul_one]; exact hrl
                have ho1 : ∀ u ∈ rc.map bv, u.oneCell' = true := by intro v hv; obtain ⟨x, _, rfl⟩ := List.mem_map.1 hv; rfl
                have hb2s := hb2.size
                go_wp2_with (at_builtin; refine wpList_append_own _ rfl _ _ 95 rfl wo.heap.size 5 i0 _ 1 1 Tryz.underlying95 hi hz0 hz1 hz2 rfl (by decide) _ _ _ rfl own2 ⟨b, off + (a + 7), none⟩ n1 (cap - (a + 7)) (rc.map bv) rfl hl1 hs2 ho1 ?c3 ?c4 hb2s ?_)
                case c3 => unfold maxLen; omega
                case c4 => omega
                intro v2 w3 own3 gr3 _
                have hb3 := Base.gr hb2 gr3 (fun g hg => (own2.lt g hg).1)
                have hw3 := Base.tr hx6 hb3
                have HG := Lib.hid (HG3.out w3 hw3)
                have own4 : w3.ownsRow wo.heap.size 5 1 v2 (n1 + 1 + 1) ((p1 :: p2 :: rc).map bv) := by
                  have : 2 + n1 = n1 + 1 + 1 := by omega
                  rw [← this]
                  exact own3
                have hll : (p1 :: p2 :: rc).length = n1 + 1 + 1 := by simp [hrl]
                have by4 : Byt w3 v2 (p1 :: p2 :: rc) := own_Byt (by rw [hll]; exact own4)
                obtain ⟨g, cp, rfl, hcp, hcp2⟩ : ∃ g cp, v2 = .slice (some ⟨g, 0, none⟩) (n1 + 1 + 1) cp ∧ n1 + 1 + 1 ≤ cp ∧ cp ≤ maxLen := by
                  rcases own4.2 with ⟨_, h0⟩ | ⟨g, cp, cur, h0, _, _, hnc, hcm, _⟩
                  · omega
                  · exact ⟨g, cp, h0, hnc, hcm⟩
                have HS := rsumSum_any (some ⟨g, 0, none⟩) (n1 + 1 + 1) cp (p1 :: p2 :: rc) w3 by4 hl2 (by omega)
                obtain ⟨sm, hsm⟩ : ∃ sm, sumB (p1 :: p2 :: rc) = sm := ⟨_, rfl⟩
                rw [hsm] at HS
                have HS := Lib.hid HS
                have HSM := Lib.hid hsm
                have hsl : sm < 4294967296 := by rw [← hsm]; exact hck
                have kwS : IntKind.u64.wrap (sm : Int) = (sm : Int) := by rw [IntKind.wrap_u64]; omega
                clear hnews own2 gr2 own3 gr3 by2 hs2 own4 hsm hll
                go_wp2_with fail
                refine HG.out.mono ?_; rintro e x7 ⟨rfl, rfl⟩
                go_wp2_with fail
                refine HS.out.mono ?_; rintro e x7 ⟨rfl, rfl⟩
                by_cases hcw : sm = wt
                · subst hcw
                  unfold maxLen at hcp2
                  have kwE : IntKind.i64.wrap ((a : Int) + 8 + (256 * (p1 : Int) + (p2 : Int))) = (a : Int) + 8 + (256 * (p1 : Int) + (p2 : Int)) := by rw [IntKind.wrap_i64]; omega
                  have kwF : IntKind.i64.wrap ((a : Int) + 8) = (a : Int) + 8 := by rw [IntKind.wrap_i64]; omega
                  by_cases hc2 : cp = 2
                  · subst hc2
                    have hn0 : n1 = 0 := by omega
                    have hrc0 : rc = [] := List.eq_nil_of_length_eq_zero (by omega)
                    go_wp2_with fail
                    have on0 := @on_rd0; have on1 := @on_rd1; have on2 := @on_rd2; have on3 := @on_new1; have on4 := @on_new2
                    refine wp_region_quiet_on (by kernel_rfl) (by kernel_rfl) ?_
                    repeat ((with_reducible refine wpQuiet_step (fun K hK => ?_)); go_simp; first | ((with_reducible refine hK _ ?_); clear hK K) | (rw [if_neg (by intro h; cases h)]; (with_reducible refine hK _ ?_); clear hK K) | (apply Exists.intro; refine ⟨fun _ => ?_, hK _ ?_⟩; (fail); clear hK K))
                    clear on0 on1 on2 on3 on4
                    with_reducible refine wpQuiet_nil ?_
                    intro _ hw'
                    obtain ⟨pq, hw''⟩ := hw'
                    subst hw''
                    go_wp2_with fail
                    go_ret3
                    rw [HV.out, HST.out, if_neg (by decide), if_neg (by rw [HSM.out]; exact fun hh => hh rfl), hrc0]
                    refine ⟨some ⟨g, 0, none⟩, 0, 0, ?_, byt_empty _ _, Base.tr hw3 pq.h⟩
                    show _ = Ending.returned (.tuple #[i64 _, .slice (some ⟨g, 0, none⟩) 0 0, .int .i64 ((a + 7 + n1 + 1 : Nat) : Int)])
                    rw [show ((a + 7 + n1 + 1 : Nat) : Int) = (a : Int) + 8 + (256 * (p1 : Int) + (p2 : Int)) by omega]
                    rfl
                  · have s11 : ¬ cp = 2 := hc2
                    have s12 : (2 : Int) ≤ (n1 : Int) + 1 + 1 := by omega
                    have s13 : n1 + 1 + 1 - 2 = n1 := by omega
                    have by5 := Byt.piece by4 2 n1 (cp - 2) (by simp [hrl]; omega) (by omega) (by unfold maxLen; omega)
                    go_wp2_with fail
                    have on0 := @on_rd0; have on1 := @on_rd1; have on2 := @on_rd2; have on3 := @on_new1; have on4 := @on_new2
                    refine wp_region_quiet_on (by kernel_rfl) (by kernel_rfl) ?_
                    repeat ((with_reducible refine wpQuiet_step (fun K hK => ?_)); go_simp; first | ((with_reducible refine hK _ ?_); clear hK K) | (rw [if_neg (by intro h; cases h)]; (with_reducible refine hK _ ?_); clear hK K) | (apply Exists.intro; refine ⟨fun _ => ?_, hK _ ?_⟩; (fail); clear hK K))
                    clear on0 on1 on2 on3 on4
                    with_reducible refine wpQuiet_nil ?_
                    intro _ hw'
                    obtain ⟨pq, hw''⟩ := hw'
                    subst hw''
                    go_wp2_with fail
                    go_ret3
                    rw [HV.out, HST.out, if_neg (by decide), if_neg (by rw [HSM.out]; exact fun hh => hh rfl)]
                    refine ⟨some ⟨g, 2, none⟩, n1, cp - 2, ?_, ?_, Base.tr hw3 pq.h⟩
                    · show _ = Ending.returned (.tuple #[i64 _, .slice (some ⟨g, 2, none⟩) n1 (cp - 2), .int .i64 ((a + 7 + n1 + 1 : Nat) : Int)])
                      rw [show ((a + 7 + n1 + 1 : Nat) : Int) = (a : Int) + 8 + (256 * (p1 : Int) + (p2 : Int)) by omega]
                      rfl
                    · have hd2 : ((p1 :: p2 :: rc).drop 2).take n1 = rc := by rw [← hrl]; simp
                      rw [hd2] at by5
                      exact Sl.below by5 pq.h
                · have hw1 : ((sm : Int) == (wt : Int)) = false := by rw [beq_eq_false_iff_ne]; omega
                  have hw3' : ((sm : Int) != (wt : Int)) = true := by rw [bne_iff_ne]; omega
                  go_wp2_with fail
                  go_ret3
                  rw [HV.out, HST.out, if_neg (by decide), if_pos (by rw [HSM.out]; exact hcw)]
                  exact ⟨_, _, _, rfl, byt_empty _ _, hw3⟩
            · have hv2 : recClass l a = (3, [], 0) := by
                rw [hv]
                split
                · rfl
                · rw [if_pos (.inr (.inr hx0))]
              have HV := Lib.hid hv2
              have hx1 : ((x : Int) == 0) = false := by rw [beq_eq_false_iff_ne]; omega
              have hx2 : ((x : Int) != 0) = true := by rw [bne_iff_ne]; omega
              clear hv hv2
              rcases state_cases f with ⟨rfl, -⟩ | ⟨rfl, -⟩ | ⟨rfl, -⟩ | ⟨rfl, -⟩ | ⟨m1, m2, m3, m4, -⟩
              all_goals
                try (have e1 : ((f : Int) == 127) = false := by rw [beq_eq_false_iff_ne]; omega)
                try (have e2 : ((f : Int) == 63) = false := by rw [beq_eq_false_iff_ne]; omega)
                try (have e3 : ((f : Int) == 95) = false := by rw [beq_eq_false_iff_ne]; omega)
                try (have e4 : ((f : Int) == 31) = false := by rw [beq_eq_false_iff_ne]; omega)
                go_wp2_with fail
                first
                | (go_ret3
                   rw [HV.out]
                   exact ⟨_, _, _, rfl, byt_empty _ _, b0⟩)
                | skip
              all_goals
                have on0 := @on_rd0; have on1 := @on_rd1; have on2 := @on_rd2; have on3 := @on_new1; have on4 := @on_new2
                refine wp_region_quiet_on (by kernel_rfl) (by kernel_rfl) ?_
                repeat ((with_reducible refine wpQuiet_step (fun K hK => ?_)); go_simp; first | ((with_reducible refine hK _ ?_); clear hK K) | (rw [if_neg (by intro h; cases h)]; (with_reducible refine hK _ ?_); clear hK K) | (apply Exists.intro; refine ⟨fun _ => ?_, hK _ ?_⟩; (fail); clear hK K))
                clear on0 on1 on2 on3 on4
                with_reducible refine wpQuiet_nil ?_
                intro _ hw'
                obtain ⟨pq, hw''⟩ := hw'
                subst hw''
                have hx6 := Base.tr b0 pq.h
                have cx' : pq.v.cell? ⟨b, off + (a + 7 + n1), none⟩ = some (bv x) := by rw [pq.h.cell zb]; exact cx
                generalize pq.v = wo at *
                go_wp2_with fail
                go_ret3
                rw [HV.out]
                exact ⟨_, _, _, rfl, byt_empty _ _, hx6⟩
      · have hv : recClass l a = (0, [], 0) := by unfold recClass; rw [if_neg h1, if_pos HR.out]
        have HV := Lib.hid hv
        clear hv hx
        go_wp2_with fail
        go_ret3
        rw [HV.out]
        exact ⟨_, _, _, rfl, byt_empty _ _, b0⟩
end Go.Proofs.YtnmeaminfoopmaaGreatDoor
