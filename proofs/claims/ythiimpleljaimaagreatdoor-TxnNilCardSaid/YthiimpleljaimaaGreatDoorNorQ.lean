/- The device programmed, erased. -/
import Derived.Test.YthiimpleljaimaaGreatDoorMg6
namespace Go.Proofs.YthiimpleljaimaaGreatDoor
open Go.RowKit Flo

theorem info_bytesE : (Tryz.prog.info? 22).map (fun i => (i.zero, i.size, i.bytes)) = some (some (.slice none 0 0), 1, 24) := by kernel_rfl
theorem zero_bool (w : World) : (zeroValue 4).run Tryz.prog w = .ok (.bool false) w := by
  obtain ⟨i, hi⟩ : ∃ i, Tryz.prog.info? 4 = some i := Option.isSome_iff_exists.1 (by kernel_rfl)
  have hz : i.zero = some (.bool false) := by
    have : (Tryz.prog.info? 4).bind (fun i => i.zero) = some (.bool false) := by kernel_rfl
    rw [hi] at this
    exact this
  simp [zeroValue, typeInfo, hi, hz]
def Nor.isBad (N : Nor) (s : Nat) : Bool := (mget N.bad (s : Int)).isSome
theorem mget_mem {l : List (Int × Value)} {x : Int} {v : Value} (h : mget l x = some v) : ∃ p ∈ l, p.2 = v := by
  unfold mget at h
  obtain ⟨p, hp, rfl⟩ := Option.map_eq_some_iff.1 h
  exact ⟨p, List.mem_of_find?_eq_some hp, rfl⟩
theorem DevR.lookBad {O : Nat → Prop} {w : World} {N : Nor} (h : DevR O w N) (K : KeyLaws Tryz.prog 3 (Value.int .i64)) (s : Nat) :
    (Instr.lookup 86 (.map (some N.MB)) (.int .i64 s) false).run Tryz.prog w = .ok (.bool (N.isBad s)) w := by
  rw [h.hM.lookup K Tryz.underlying86 (zero_bool w) s false]
  have : (mget N.bad (s : Int)).getD (.bool false) = .bool (N.isBad s) := by
    unfold Nor.isBad
    cases hm : mget N.bad (s : Int) with
    | none => rfl
    | some v =>
      obtain ⟨p, hp, rfl⟩ := mget_mem hm
      exact h.badt p hp
  simp [this]
noncomputable def Nor.prog (N : Nor) (a b : Nat) (lb : List Nat) : Nat × Nor :=
  if N.off then (7, N) else if lb.length = 0 then (1, N) else if withinB N.S N.Z a b lb.length = false then (1, N) else if N.isBad ((part? a).getD 0) then (8, N)
  else N.act ((part? a).getD 0) ((part? b).getD 0) lb.length (fun i m old => pUp (lb.getD i 0) m old)

set_option maxHeartbeats 4000000 in
set_option maxRecDepth 100000 in
theorem prog_nil (a b : Nat) (A : Option Addr) (n c : Nat) (w : World) : Makes 208 #[nilD, cx a b, .slice A n c] w (i64 7) := by
  have g0 := fun W => Lib.hid (isOn_nil W)
  go_enter Tryz.func208, Tryz.ntmps208
  go_wp2_with fail
  refine (g0 _).out.mono ?_; rintro e x1 ⟨rfl, rfl⟩
  go_wp2_with fail
  go_ret
  exact ⟨rfl, Base.al (Below.refl _ _) _⟩

theorem progStepOK {O : Nat → Prop} {w : World} {N : Nor} {lv sv s o c bb cap : Nat} {A : Option Addr} {lb : List Nat} (hl : w.cell? ⟨lv, 0, none⟩ = some (.slice (some ⟨bb, o, none⟩) lb.length c)) (hs : w.cell? ⟨sv, 0, none⟩ = some (.slice A lb.length cap))
    (n1 : ¬ O lv) (n2 : ¬ O sv) (hy : Byt w (.slice A lb.length cap) lb) (hl8 : ∀ x ∈ lb, x < 256) (hfar : Far O (.slice A lb.length cap)) (hbk : N.bk[s]? = some bb) (hz : o + lb.length ≤ N.Z) (l1 : sv < w.heap.size) (l2 : lv < w.heap.size) :
    StepOK O w N 256 #[.pointer (some ⟨lv, 0, none⟩), .pointer (some ⟨sv, 0, none⟩)] s o lb.length (fun i m old => pUp (lb.getD i 0) m old) := by
  intro W M l i m hd e1 e2 ho hdl hi hm
  have hbkM : M.bk[s]? = some bb := by rw [e1]; exact hbk
  have hsS : s < M.S := by have := (List.getElem?_eq_some_iff.1 hdl).1; rwa [hd.dl] at this
  obtain ⟨l', bb', hl', hbk', hda, hll, hl8', hO, hblt, hcells, hfz⟩ := hd.row_at hsS
  obtain rfl : l' = l := by rw [hdl] at hl'; injection hl' with e; exact e.symm
  obtain rfl : bb' = bb := by rw [hbkM] at hbk'; injection hbk' with e; exact e.symm
  have hlen : o + i < l'.length := by omega
  have hy' := Sl.out hy hfar ho
  obtain ⟨sb, so, rfl, hsb, hsx⟩ := Byt.cell hy' (by omega)
  have hcx : W.cell? ⟨sb, so + i, none⟩ = some (bv lb[i]) := by
    have := hsx i (bv lb[i]) (by simp [hi])
    rwa [Addr.add_lit] at this
  have hlW : W.cell? ⟨lv, 0, none⟩ = some (.slice (some ⟨bb', o, none⟩) lb.length c) := by
    rw [← hl]
    exact cell_heap (ho.block lv l2 n1)
  have hsW : W.cell? ⟨sv, 0, none⟩ = some (.slice (some ⟨sb, so, none⟩) lb.length cap) := by
    rw [← hs]
    exact cell_heap (ho.block sv l1 n2)
  have hold : l'[o + i] < 256 := hl8' _ (List.getElem_mem hlen)
  have h0 := hcells (o + i) (bv l'[o + i]) (by simp [hlen])
  refine (progStep W i m lb[i] l'[o + i] lv sv bb' o lb.length c sb so lb.length cap hm (hl8 _ (List.getElem_mem hi)) hold hlW hsW hi hi h0 hcx (hfz _)).mono ?_
  rintro e W' ⟨rfl, rfl⟩
  have hg : l'.getD (o + i) 0 = l'[o + i] := by simp [hlen]
  have hg2 : lb.getD i 0 = lb[i] := by simp [hi]
  rw [hg]
  simp only []
  rw [hg2]
  exact ⟨trivial, (hd.setR hbkM hdl (o + i) _ (by omega) (pUp_lt hold)).dr, ((Out.refl O W).set hO _ _).then (Base.dr (Below.refl _ _))⟩

set_option maxHeartbeats 8000000 in
set_option maxRecDepth 100000 in
theorem prog_any {O : Nat → Prop} {w : World} {N : Nor} (h : DevR O w N) (h1 : N.acts ≤ 1000000) (h2 : N.offs ≤ 1000000) (hcm : ∀ c, N.cut = some c → c.1 ≤ 9223372036854775807) (a b : Nat) (A : Option Addr) (nb cap : Nat) (lb : List Nat)
    (hy : Byt w (.slice A nb cap) lb) (hl8 : ∀ x ∈ lb, x < 256) (hfar : Far O (.slice A nb cap)) (hm : lb.length ≤ 100000) :
    Calls Tryz.prog 208 #[ptrD N, cx a b, .slice A nb cap] w fun e w' => e = .returned (i64 (N.prog a b lb).1) ∧ DevR O w' (N.prog a b lb).2 ∧ Out O w w' := by
  have g0 := fun W (hW : DevR O W N) => Lib.hid (isOn_any hW)
  have hw0 := h.al (.cells #[.slice A nb cap] 22)
  have b0 : Below w.heap.size w (w.alloc (.cells #[.slice A nb cap] 22)) := Base.al (Below.refl _ _) _
  obtain ⟨q1, q2, q3, q4⟩ := h.geoI
  have hn := hy.len
  rw [List.length_map] at hn
  subst hn
  cases hoff : N.off
  case true =>
    have hv : N.prog a b lb = (7, N) := by unfold Nor.prog; rw [hoff]; rfl
    rw [hv]
    rw [hoff] at g0
    clear hv
    go_enter Tryz.func208, Tryz.ntmps208
    go_wp2_with fail
    refine (g0 _ hw0).out.mono ?_; rintro e x1 ⟨rfl, rfl⟩
    go_wp2_with fail
    go_ret
    exact ⟨rfl, hw0, Out.of_below b0⟩
  case false =>
    rw [hoff] at g0
    have hlt := h.ltD
    have c0 : w.cell? ⟨N.D, 0, none⟩ = some (i64 N.S) := h.at 0
    have c1 : w.cell? ⟨N.D, 1, none⟩ = some (i64 N.Z) := h.at 1
    have g1 := fun W => Lib.hid (within_any (N.S : Int) N.Z a b lb.length W (by omega) (by omega))
    by_cases hz : lb.length = 0
    · have hv : N.prog a b lb = (1, N) := by unfold Nor.prog; rw [hoff, if_neg (by decide), if_pos hz]
      have hz2 : ((lb.length : Int) == 0) = true := by rw [beq_iff_eq]; omega
      rw [hv]
      clear hv hz
      go_enter Tryz.func208, Tryz.ntmps208
      go_wp2_with fail
      refine (g0 _ hw0).out.mono ?_; rintro e x1 ⟨rfl, rfl⟩
      go_wp2_with fail
      have on0 := @on_rd0; have on1 := @on_rd1; have on2 := @on_rd2; have on3 := @on_new1; have on4 := @on_new2
      refine wp_region_quiet_on (by kernel_rfl) (by kernel_rfl) ?_
      repeat ((with_reducible refine wpQuiet_step (fun K hK => ?_)); go_simp; first | ((with_reducible refine hK _ ?_); clear hK K) | (rw [if_neg (by intro h; cases h)]; (with_reducible refine hK _ ?_); clear hK K) | (apply Exists.intro; refine ⟨fun _ => ?_, hK _ ?_⟩; (fail); clear hK K))
      clear on0 on1 on2 on3 on4
      with_reducible refine wpQuiet_nil ?_
      intro _ hw'
      obtain ⟨pq, hw''⟩ := hw'
      subst hw''
      go_wp2_with fail
      go_ret
      exact ⟨rfl, hw0.below pq.h, Out.of_below (Base.tr b0 pq.h)⟩
    · have hz2 : ((lb.length : Int) == 0) = false := by rw [beq_eq_false_iff_ne]; omega
      cases hwi : withinB N.S N.Z a b lb.length
      · have hv : N.prog a b lb = (1, N) := by unfold Nor.prog; rw [hoff, if_neg (by decide), if_neg hz, if_pos hwi]
        rw [hv]
        rw [hwi] at g1
        clear hv
        go_enter Tryz.func208, Tryz.ntmps208
        go_wp2_with fail
        refine (g0 _ hw0).out.mono ?_; rintro e x1 ⟨rfl, rfl⟩
        go_wp2_with fail
        have on0 := @on_rd0; have on1 := @on_rd1; have on2 := @on_rd2; have on3 := @on_new1; have on4 := @on_new2
        refine wp_region_quiet_on (by kernel_rfl) (by kernel_rfl) ?_
        repeat ((with_reducible refine wpQuiet_step (fun K hK => ?_)); go_simp; first | ((with_reducible refine hK _ ?_); clear hK K) | (rw [if_neg (by intro h; cases h)]; (with_reducible refine hK _ ?_); clear hK K) | (apply Exists.intro; refine ⟨fun _ => ?_, hK _ ?_⟩; ((with_reducible exact on_of (g1 _).out)); clear hK K))
        clear on0 on1 on2 on3 on4
        with_reducible refine wpQuiet_nil ?_
        intro _ hw'
        obtain ⟨pq, hw''⟩ := hw'
        subst hw''
        go_wp2_with fail
        go_ret
        exact ⟨rfl, hw0.below pq.h, Out.of_below (Base.tr b0 pq.h)⟩
      · obtain ⟨k, o, ha, hb⟩ : ∃ k o, part? a = some k ∧ part? b = some o := by
          cases h1 : part? a <;> cases h2 : part? b <;> first | exact ⟨_, _, rfl, rfl⟩ | (rw [within_no (by simp [h1, h2])] at hwi; cases hwi)
        have hin := hwi
        rw [within_yes ha hb] at hin
        simp only [Bool.and_eq_true, decide_eq_true_eq] at hin
        obtain ⟨⟨⟨i1, i2⟩, i3⟩, i4⟩ := hin
        rw [hwi] at g1
        have g2 := fun W => Lib.hid (parts_yes W ha hb)
        have K := keys_int (P := Tryz.prog) (k := 3) (q := .i64) Tryz.underlying3
        have LK := fun W (hW : DevR O W N) => Lib.hid (hW.lookBad K k)
        have hpv : N.prog a b lb = if N.isBad k then (8, N) else N.act k o lb.length (fun i m old => pUp (lb.getD i 0) m old) := by unfold Nor.prog; rw [hoff, if_neg (by decide), if_neg hz, if_neg (by rw [hwi]; decide), ha, hb]; rfl
        have HPV := Lib.hid hpv
        clear hpv hwi ha hb
        go_enter Tryz.func208, Tryz.ntmps208
        go_wp2_with fail
        refine (g0 _ hw0).out.mono ?_; rintro e x1 ⟨rfl, rfl⟩
        go_wp2_with fail
        have on0 := @on_rd0; have on1 := @on_rd1; have on2 := @on_rd2; have on3 := @on_new1; have on4 := @on_new2
        refine wp_region_quiet_on (by kernel_rfl) (by kernel_rfl) ?_
        repeat ((with_reducible refine wpQuiet_step (fun K hK => ?_)); go_simp; first | ((with_reducible refine hK _ ?_); clear hK K) | (rw [if_neg (by intro h; cases h)]; (with_reducible refine hK _ ?_); clear hK K) | (apply Exists.intro; refine ⟨fun _ => ?_, hK _ ?_⟩; ((with_reducible exact on_of (g1 _).out)); clear hK K))
        clear on0 on1 on2 on3 on4
        with_reducible refine wpQuiet_nil ?_
        intro _ hw'
        obtain ⟨pq, hw''⟩ := hw'
        subst hw''
        have h3 := hw0.below pq.h
        have b3 := Base.tr b0 pq.h
        have v3 := blk_below (blk_new w (.cells #[.slice A lb.length cap] 22)) pq.h
        generalize pq.v = w3 at *
        have lk := (LK w3 h3).out
        cases hbad : N.isBad k
        all_goals
          have HBAD := Lib.hid hbad
          rw [hbad] at lk
          clear hbad
          have d4 : w3.cell? ⟨N.D, 4, none⟩ = some (.map (some N.MB)) := h3.at 4
          go_wp2_with fail
          refine (g2 _).out.mono ?_; rintro e x3 ⟨rfl, rfl⟩
          go_wp2_with fail
        · obtain ⟨l, bb, hl, hbk, hda, hll, hl8', hO, hblt, hcells, hfz⟩ := h3.row_at (s := k) (by omega)
          have d2 : x3.cell? ⟨N.D, 2, none⟩ = some (.slice (some ⟨N.DA, 0, none⟩) N.S N.cd) := h3.at 2
          have dv : x3.cell? ⟨w.heap.size, 0, none⟩ = some (.slice A lb.length cap) := cell_blk v3 0
          have z1 : N.D < x3.heap.size := h3.ltD
          have z2 : N.DA < x3.heap.size := blt hda
          have z3 : w.heap.size < x3.heap.size := blt dv
          have p2 := fun p => on_cell (w := x3) z1 d2 p
          have pa := fun p => on_cell (w := x3) z2 hda p
          have pv := fun p => on_cell (w := x3) z3 dv p
          have k1 : (0 : Int) ≤ (o : Int) + (lb.length : Int) ∧ (o : Int) + (lb.length : Int) ≤ (N.Z : Int) := by omega
          have k2 : ¬ N.Z = o := by omega
          have k3 : (o : Int) ≤ (o : Int) + (lb.length : Int) := by omega
          have k4 : ((o : Int) + (lb.length : Int)).toNat = o + lb.length := by omega
          have k5 : o + lb.length - o = lb.length := by omega
          have k6 : k < N.S := by omega
          have kw : IntKind.i64.wrap ((o : Int) + (lb.length : Int)) = (o : Int) + (lb.length : Int) := by rw [IntKind.wrap_i64]; omega
          obtain ⟨i1, hi, hz0, hz1, hz2'⟩ := info_parts info_bytesE
          refine wp_region_ph (D := fun w' => ∃ p : OnOf _, w' = p.v) 14 [13] (by kernel_rfl) (by kernel_rfl) ⟨⟨_, Base.dr (Below.refl _ _)⟩, rfl⟩ ?_
          simp only [List.take_succ_cons, List.take_zero, List.drop_succ_cons, List.drop_zero]
          have on0 := @on_rd0; have on1 := @on_rd1; have on2 := @on_rd2; have on3 := @on_new1; have on4 := @on_new2
          repeat (first | ((with_reducible refine head_alloc ?_ 22 hi hz0 ⟨⟨_, Base.al (by repeat (first | exact Base.dr (Below.refl _ _) | refine Base.al ?_ _)) _⟩, rfl⟩ ?_); (focus rfl)) | ((with_reducible refine head_quiet ?_ ?_); (focus rfl); (intro K hK); go_simp; first | ((with_reducible refine hK _ ?_); clear hK K) | (rw [if_neg (by intro h; cases h)]; (with_reducible refine hK _ ?_); clear hK K) | (apply Exists.intro; refine ⟨fun _ => ?_, hK _ ?_⟩; (fail); clear hK K)))
          clear on0 on1 on2 on3 on4
          with_reducible refine head_nil ?_
          rintro _ rfl
          clear p2 pa pv
          go_wp2_with fail
          have h4 := (h3.al (.cells #[.slice (some ⟨bb, o, none⟩) lb.length (N.Z - o)] 22)).dr
          have b4 : Below w.heap.size w (x3.alloc (.cells #[.slice (some ⟨bb, o, none⟩) lb.length (N.Z - o)] 22)).drew := Base.dr (Base.al b3 _)
          have hst := progStepOK (O := O) (w := (x3.alloc (.cells #[.slice (some ⟨bb, o, none⟩) lb.length (N.Z - o)] 22)).drew) (N := N) (lv := x3.heap.size) (sv := w.heap.size) (s := k) (o := o) (c := N.Z - o) (bb := bb) (cap := cap) (A := A) (lb := lb)
            (by have := cell_blk (blk_new x3 (.cells #[.slice (some ⟨bb, o, none⟩) lb.length (N.Z - o)] 22)) 0; exact this) (by have := cell_blk (blk_old (x := .cells #[.slice (some ⟨bb, o, none⟩) lb.length (N.Z - o)] 22) v3) 0; exact this)
            (fun hq => Nat.lt_irrefl _ (h3.lim _ hq)) (fun hq => Nat.lt_irrefl _ (h.lim _ hq)) (Sl.below hy b4) hl8 hfar hbk (by omega) (by have := b4.size; simp; omega) (by simp)
          have HA := Lib.hid (act_any h4 hoff h1 h2 k o lb.length k6 hm 256 #[.pointer (some ⟨x3.heap.size, 0, none⟩), .pointer (some ⟨w.heap.size, 0, none⟩)] (fun _ _ => rfl) _ hst hcm)
          clear hst hl hbk hda d2 d4 dv hcells hfz lk LK g0 g1 g2 hi hz0 hz1 hz2'
          generalize (x3.alloc (.cells #[.slice (some ⟨bb, o, none⟩) lb.length (N.Z - o)] 22)).drew = x4 at *
          refine HA.out.mono ?_; rintro e x5 ⟨rfl, hd5, ho5⟩
          go_wp2_with fail
          go_ret
          rw [HPV.out, HBAD.out]
          exact ⟨rfl, hd5, (Out.of_below b4).trans ho5⟩
        · go_ret
          rw [HPV.out, HBAD.out]
          exact ⟨rfl, h3, Out.of_below b3⟩

/-- Erased. -/
def Nor.erase (N : Nor) (s : Int) : Nat × Nor :=
  if N.off then (7, N) else if s < 0 ∨ (N.S : Int) ≤ s then (1, N) else if N.isBad s.toNat then (8, N)
  else Nor.act { N with wear := N.wear.set s.toNat (N.wear.getD s.toNat 0 + 1) } s.toNat 0 N.Z (fun _ m old => eUp m old)
set_option maxHeartbeats 4000000 in
set_option maxRecDepth 100000 in
theorem erase_nil (s : Int) (w : World) : Gives 253 #[nilD, i64 s] w (i64 7) := by
  have g0 := fun W => Lib.hid (isOn_nil W)
  go_enter Tryz.func253, Tryz.ntmps253
  go_wp2_with fail
  refine (g0 _).out.mono ?_; rintro e x1 ⟨rfl, rfl⟩
  go_wp2_with fail
  go_ret
  exact ⟨rfl, rfl⟩
theorem eraseStepOK {O : Nat → Prop} {w : World} {N : Nor} {lv s n c bb : Nat} (hl : w.cell? ⟨lv, 0, none⟩ = some (.slice (some ⟨bb, 0, none⟩) n c)) (n1 : ¬ O lv) (hbk : N.bk[s]? = some bb) (hz : n ≤ N.Z) (l2 : lv < w.heap.size) :
    StepOK O w N 282 #[.pointer (some ⟨lv, 0, none⟩)] s 0 n (fun _ m old => eUp m old) := by
  intro W M l i m hd e1 e2 ho hdl hi hm
  have hbkM : M.bk[s]? = some bb := by rw [e1]; exact hbk
  have hsS : s < M.S := by have := (List.getElem?_eq_some_iff.1 hdl).1; rwa [hd.dl] at this
  obtain ⟨l', bb', hl', hbk', hda, hll, hl8', hO, hblt, hcells, hfz⟩ := hd.row_at hsS
  obtain rfl : l' = l := by rw [hdl] at hl'; injection hl' with e; exact e.symm
  obtain rfl : bb' = bb := by rw [hbkM] at hbk'; injection hbk' with e; exact e.symm
  have hlen : 0 + i < l'.length := by omega
  have hlW : W.cell? ⟨lv, 0, none⟩ = some (.slice (some ⟨bb', 0, none⟩) n c) := by
    rw [← hl]
    exact cell_heap (ho.block lv l2 n1)
  have hold : l'[0 + i] < 256 := hl8' _ (List.getElem_mem hlen)
  have h0 := hcells (0 + i) (bv l'[0 + i]) (by rw [List.getElem?_map, List.getElem?_eq_getElem hlen]; rfl)
  refine (eraseStep W i m l'[0 + i] lv bb' 0 n c hm hold hlW hi h0 (hfz _)).mono ?_
  rintro e W' ⟨rfl, rfl⟩
  have hg : l'.getD (0 + i) 0 = l'[0 + i] := by rw [List.getD_eq_getElem?_getD, List.getElem?_eq_getElem hlen]; rfl
  rw [hg]
  exact ⟨rfl, hd.setR hbkM hdl (0 + i) _ (by omega) (eUp_lt hold hm), (Out.refl O W).set hO _ _⟩

set_option maxHeartbeats 8000000 in
set_option maxRecDepth 100000 in
theorem erase_any {O : Nat → Prop} {w : World} {N : Nor} (h : DevR O w N) (h1 : N.acts ≤ 1000000) (h2 : N.offs ≤ 1000000) (h3 : ∀ n ∈ N.wear, n ≤ 1000000) (hcm : ∀ c, N.cut = some c → c.1 ≤ 9223372036854775807) (s : Int) :
    Calls Tryz.prog 253 #[ptrD N, i64 s] w fun e w' => e = .returned (i64 (N.erase s).1) ∧ DevR O w' (N.erase s).2 ∧ Out O w w' := by
  have g0 := fun W (hW : DevR O W N) => Lib.hid (isOn_any hW)
  obtain ⟨q1, q2, q3, q4⟩ := h.geoI
  cases hoff : N.off
  case true =>
    have hv : N.erase s = (7, N) := by unfold Nor.erase; rw [hoff]; rfl
    rw [hv]
    rw [hoff] at g0
    clear hv
    go_enter Tryz.func253, Tryz.ntmps253
    go_wp2_with fail
    refine (g0 _ h).out.mono ?_; rintro e x1 ⟨rfl, rfl⟩
    go_wp2_with fail
    go_ret
    exact ⟨rfl, h, Out.refl _ _⟩
  case false =>
    rw [hoff] at g0
    have c0 : w.cell? ⟨N.D, 0, none⟩ = some (i64 N.S) := h.at 0
    by_cases hin : s < 0 ∨ (N.S : Int) ≤ s
    · have hv : N.erase s = (1, N) := by unfold Nor.erase; rw [hoff, if_neg (by decide), if_pos hin]
      rw [hv]
      clear hv
      go_enter Tryz.func253, Tryz.ntmps253
      go_wp2_with fail
      refine (g0 _ h).out.mono ?_; rintro e x1 ⟨rfl, rfl⟩
      go_wp2_with fail
      all_goals first
        | (exfalso; omega)
        | (go_ret; exact ⟨rfl, h, Out.refl _ _⟩)
    · obtain ⟨k, rfl⟩ : ∃ k : Nat, s = k := ⟨s.toNat, by omega⟩
      have hk : k < N.S := by omega
      have K := keys_int (P := Tryz.prog) (k := 3) (q := .i64) Tryz.underlying3
      have lk := h.lookBad K k
      have hpv : N.erase k = if N.isBad k then (8, N) else Nor.act { N with wear := N.wear.set k (N.wear.getD k 0 + 1) } k 0 N.Z (fun _ m old => eUp m old) := by unfold Nor.erase; rw [hoff, if_neg (by decide), if_neg hin]; rfl
      have HPV := Lib.hid hpv
      have c4 : w.cell? ⟨N.D, 4, none⟩ = some (.map (some N.MB)) := h.at 4
      have t1 : ¬ ((k : Int) < 0) := by omega
      have t2 : ¬ ((N.S : Int) ≤ k) := by omega
      clear hpv hin
      cases hbad : N.isBad k
      · have HBAD := Lib.hid hbad
        rw [hbad] at lk
        clear hbad
        have hkw : k < N.wear.length := by rw [h.wl]; exact hk
        have c3 : w.cell? ⟨N.D, 3, none⟩ = some (.slice (some ⟨N.WB, 0, none⟩) N.S N.S) := h.at 3
        have cw : w.cell? ⟨N.WB, k, none⟩ = some (i64 (N.wear.getD k 0 : Nat)) := by
          rw [cell_blk h.hW]
          simp [hkw]
        have fw := frozen_blk h.hW k
        have hwb : N.wear.getD k 0 ≤ 1000000 := by rw [List.getD_eq_getElem?_getD, List.getElem?_eq_getElem hkw]; exact h3 _ (List.getElem_mem hkw)
        obtain ⟨l, bb, hl, hbk, hda, hll, hl8', hO, hblt, hcells, hfz⟩ := h.row_at (s := k) hk
        have d2 : w.cell? ⟨N.D, 2, none⟩ = some (.slice (some ⟨N.DA, 0, none⟩) N.S N.cd) := h.at 2
        have hsw := h.setW k (N.wear.getD k 0 + 1)
        have hap := h.apart
        simp only [List.nodup_cons, List.mem_cons, not_or] at hap
        obtain ⟨⟨a1, a2, a3⟩, ⟨a4, a5⟩, a6, a7⟩ := hap
        have hOW := h.ownW
        have hlW : ∀ q, O q → q < w.heap.size := h.lim
        rw [show ((N.wear.getD k 0 + 1 : Nat) : Int) = (N.wear.getD k 0 : Int) + 1 from rfl] at hsw
        obtain ⟨x, hx⟩ : ∃ x, N.wear.getD k 0 = x := ⟨_, rfl⟩
        rw [hx] at cw hwb hsw HPV
        clear hx hkw a1 a3 a5 a6 a7 hcells hfz
        go_enter Tryz.func253, Tryz.ntmps253
        go_wp2_with fail
        refine (g0 _ h).out.mono ?_; rintro e x1 ⟨rfl, rfl⟩
        go_wp2_with fail
        have hsz : (x1.setCell ⟨N.WB, k, none⟩ (.int .i64 ((x : Int) + 1))).heap.size = x1.heap.size := by simp [World.setCell]
        have hnew := blk_new (x1.setCell ⟨N.WB, k, none⟩ (.int .i64 ((x : Int) + 1))) (.cells #[.slice (some ⟨bb, 0, none⟩) N.Z N.Z] 22)
        rw [hsz] at hnew
        have h4 := hsw.al (.cells #[.slice (some ⟨bb, 0, none⟩) N.Z N.Z] 22)
        have o4 := ((Out.refl O x1).set hOW k (.int .i64 ((x : Int) + 1))).then (Base.al (Below.refl _ _) (.cells #[.slice (some ⟨bb, 0, none⟩) N.Z N.Z] 22))
        have hst := eraseStepOK (O := O) (lv := x1.heap.size) (s := k) (n := N.Z) (c := N.Z) (bb := bb) (N := { N with wear := N.wear.set k (x + 1) }) (cell_blk hnew 0) (fun hq => Nat.lt_irrefl _ (hlW _ hq)) hbk (Nat.le_refl _) (Array.getElem?_eq_some_iff.1 hnew).1
        have HA := Lib.hid (act_any h4 hoff h1 h2 k 0 N.Z hk (by omega) 282 #[.pointer (some ⟨x1.heap.size, 0, none⟩)] (fun _ _ => rfl) _ hst hcm)
        clear hoff
        refine HA.out.mono ?_; rintro e x5 ⟨rfl, hd5, ho5⟩
        go_wp2_with fail
        go_ret
        rw [HPV.out, HBAD.out]
        exact ⟨rfl, hd5, o4.trans ho5⟩
      · have HBAD := Lib.hid hbad
        rw [hbad] at lk
        clear hbad
        go_enter Tryz.func253, Tryz.ntmps253
        go_wp2_with fail
        refine (g0 _ h).out.mono ?_; rintro e x1 ⟨rfl, rfl⟩
        go_wp2_with fail
        go_ret
        rw [HPV.out, HBAD.out]
        exact ⟨rfl, h, Out.refl _ _⟩
end Go.Proofs.YthiimpleljaimaaGreatDoor
