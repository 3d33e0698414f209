/- The document's device: bytes as bits. -/
import Derived.Test.YtokpoogcoeodkaaGreatDoorNorQ
import Derived.Test.YtokpoogcoeodkaaGreatDoorMg19
import Derived.Test.YtokpoogcoeodkaaGreatDoorMg6
namespace Go.Proofs.YtokpoogcoeodkaaGreatDoor
open Go.RowKit Flo

def bitB (x i : Nat) : Bool := x / 2 ^ i % 2 == 1
/-- What the bits of both come to. -/
def rBits (old other mask : Nat) (down : Bool) : Nat := if down then pUp other mask old else eUp mask old
def oneB (old other mask : Nat) (down : Bool) (i : Nat) : Bool := if bitB mask i then (if down then bitB old i && bitB other i else true) else bitB old i
theorem bitB_test (x i : Nat) : bitB x i = x.testBit i := by
  unfold bitB
  rw [Nat.testBit_eq_decide_div_mod_eq]
  by_cases h : x / 2 ^ i % 2 = 1 <;> simp [h]
theorem rBits_bit (old other mask : Nat) (down : Bool) (i : Nat) (hi : i < 8) (hm : mask < 256) : (rBits old other mask down).testBit i = oneB old other mask down i := by
  unfold rBits oneB
  simp only [bitB_test]
  cases down
  · simp only [Bool.false_eq_true, if_false]
    unfold eUp
    rw [Nat.testBit_or]
    cases old.testBit i <;> cases mask.testBit i <;> rfl
  · simp only [if_true]
    unfold pUp
    rw [Nat.testBit_and, Nat.testBit_or, show 255 - mask = 2 ^ 8 - (mask + 1) by omega, Nat.testBit_two_pow_sub_succ (show mask < 2 ^ 8 from hm)]
    simp only [hi, decide_true, Bool.true_and]
    cases old.testBit i <;> cases mask.testBit i <;> cases other.testBit i <;> rfl
theorem low_step (x i : Nat) : x % 2 ^ (i + 1) = x % 2 ^ i + (if x.testBit i then 2 ^ i else 0) := by
  rw [Nat.testBit_eq_decide_div_mod_eq, Nat.pow_succ, Nat.mod_mul]
  have : x / 2 ^ i % 2 < 2 := Nat.mod_lt _ (by decide)
  rcases (by omega : x / 2 ^ i % 2 = 0 ∨ x / 2 ^ i % 2 = 1) with h | h
  · simp [h]
  · simp [h]

set_option maxHeartbeats 4000000 in
set_option maxRecDepth 100000 in
theorem rbits_any (old other mask : Nat) (down : Bool) (w : World) (h1 : old < 256) (h3 : mask < 256) :
    Gives 55 #[.int .u8 old, .int .u8 other, .int .u8 mask, .bool down] w (.int .u8 (rBits old other mask down)) := by
  go_enter Tryz.func55, Tryz.ntmps55
  go_wp2_with fail
  have hR : rBits old other mask down < 256 := by unfold rBits; cases down; exact eUp_lt h1 h3; exact pUp_lt h1
  have hbit := fun i hi => Lib.hid (rBits_bit old other mask down i hi h3)
  obtain ⟨R, hRR⟩ : ∃ R, rBits old other mask down = R := ⟨_, rfl⟩
  rw [hRR] at hR hbit
  have HRR := Lib.hid hRR
  clear hRR
  go_loopw [9, 10, 11] (fun s9 s10 s11 wr => ∃ j : Nat, j ≤ 8 ∧ s11 = .int .i64 j ∧ s9 = .int .u8 (R % 2 ^ j : Nat) ∧ s10 = .int .u8 (2 ^ j % 256 : Nat) ∧ wr = w) (fun _ _ s11 _ => 8 - (intOf s11).toNat)
  case atStart => exact ⟨0, by decide, rfl, by simp [Nat.mod_one], rfl, rfl⟩
  case round =>
    obtain ⟨j, hj, rfl, rfl, rfl, rfl⟩ := hrel
    by_cases hlt : j < 8
    · have hb := (hbit j hlt).out
      have hst := low_step R j
      rw [hb] at hst
      have hPn : 2 ^ (j + 1) % 256 = 2 ^ j * 2 % 256 := by rw [Nat.pow_succ]
      have hPm : 2 ^ j % 256 = 2 ^ j := Nat.mod_eq_of_lt (Nat.lt_of_lt_of_le (Nat.pow_lt_pow_right (by decide) hlt) (by decide))
      have hlow : R % 2 ^ j < 2 ^ j := Nat.mod_lt _ (Nat.pow_pos (by decide))
      have hP0 : 0 < 2 ^ j := Nat.pow_pos (by decide)
      have hP8 : 2 ^ j < 256 := by rw [← hPm]; exact Nat.mod_lt _ (by decide)
      have hdv : ∀ x : Nat, (((x : Int) / ((2 ^ j : Nat) : Int)) % 2 == 1) = bitB x j := by
        intro x
        unfold bitB
        rw [show ((x : Int) / ((2 ^ j : Nat) : Int)) % 2 = ((x / 2 ^ j % 2 : Nat) : Int) by push_cast; rfl]
        by_cases hq : x / 2 ^ j % 2 = 1
        · rw [hq]; rfl
        · rw [beq_eq_false_iff_ne.2 hq, beq_eq_false_iff_ne.2 (by omega)]
      have d1 := hdv old
      have d2 := hdv other
      have d3 := hdv mask
      rw [hPm]
      have hsum : R % 2 ^ (j + 1) ≤ R := Nat.mod_le _ _
      rw [hst] at hsum
      have HST := Lib.hid hst
      have HPN := Lib.hid hPn
      clear hst hPn hPm hdv hbit
      unfold oneB at HST hsum
      generalize 2 ^ j = Q at *
      generalize R % Q = L at *
      cases e3 : bitB mask j <;> cases down <;> cases e1 : bitB old j <;> cases e2 : bitB other j
      all_goals
        rw [e1] at d1
        rw [e2] at d2
        rw [e3] at d3
        simp only [e1, e2, e3, if_true, if_false, Bool.false_eq_true, Bool.and_true, Bool.and_false, Nat.add_zero] at HST hsum
        go_wp2_with fail
        exact ⟨⟨j + 1, by omega, by go_num, by (rw [HST.out]; try (first | rfl | (push_cast; rfl))), by (rw [HPN.out]; try (push_cast; rfl)), trivial⟩, by simp [intOf]; omega⟩
    · obtain rfl : j = 8 := by omega
      go_wp2_with fail
      go_ret
      exact ⟨by rw [HRR.out, show R % 2 ^ 8 = R from Nat.mod_eq_of_lt hR]; rfl, rfl⟩
end Go.Proofs.YtokpoogcoeodkaaGreatDoor

/- The document's device in memory: off, cut, spoilt. -/
namespace Go.Proofs.YtokpoogcoeodkaaGreatDoor
open Go.RowKit Flo

theorem info_boolV : (Tryz.prog.info? 4).map (fun i => (i.zero, i.size, i.bytes)) = some (some (.bool false), 1, 1) := by kernel_rfl
structure RV where
  dA : Option Addr
  wA : Option Addr
  bA : Option Addr
  dc : Nat
  wc : Nat
  bc : Nat
  left : Nat
  whole : Nat
  mask : Nat
  rows : List Value
def RV.cells (R : RV) (N : Nor) : Array Value := #[i64 N.S, i64 N.Z, .slice R.dA N.S R.dc, .slice R.wA N.S R.wc, .slice R.bA N.S R.bc, .bool N.off, i64 N.offs, i64 N.acts, .bool N.cut.isSome, i64 R.left, i64 R.whole, .int .u8 R.mask]
abbrev RV.val (R : RV) (N : Nor) : Value := .agg (R.cells N)
/-- The document's device, that lies in none of the blocks O, says the same. -/
structure RefR (O : Nat → Prop) (w : World) (R : RV) (N : Nor) : Prop where
  cut : ∀ c, N.cut = some c → R.left = c.1 ∧ R.whole = c.2.1 ∧ R.mask = c.2.2
  data : Sl w 1 (.slice R.dA N.S R.dc) (R.rows.map fun r => [r])
  dfar : Far O (.slice R.dA N.S R.dc)
  len : R.rows.length = N.S
  row : ∀ (i : Nat) (r : Value) (l : List Nat), R.rows[i]? = some r → N.data[i]? = some l → Byt w r l ∧ Far O r ∧ ∃ ad n c, r = .slice (some ad) n c
  wear : Ints w (.slice R.wA N.S R.wc) (N.wear.map fun n : Nat => (n : Int))
  wfar : Far O (.slice R.wA N.S R.wc)
  bad : Sl w 1 (.slice R.bA N.S R.bc) ((List.range N.S).map fun i => [Value.bool (N.isBad i)])
  bfar : Far O (.slice R.bA N.S R.bc)
  dl : N.data.length = N.S
  wl : N.wear.length = N.S
  all : ∀ l ∈ N.data, l.length = N.Z ∧ ∀ b ∈ l, b < 256
  geo : geoB N.S N.Z = true
  badn : (N.bad.map Prod.fst).Nodup
theorem RefR.out {O : Nat → Prop} {w w' : World} {R : RV} {N : Nor} (h : RefR O w R N) (hb : Out O w w') : RefR O w' R N :=
  { h with data := Sl.out h.data h.dfar hb, row := fun i r l h1 h2 => by { obtain ⟨a, b, c⟩ := h.row i r l h1 h2; exact ⟨Sl.out a b hb, b, c⟩ }, wear := Sl.out h.wear h.wfar hb, bad := Sl.out h.bad h.bfar hb }
theorem RefR.below {O : Nat → Prop} {w w' : World} {R : RV} {N : Nor} (h : RefR O w R N) (hb : Below w.heap.size w w') : RefR O w' R N := h.out (Out.of_below hb)
/-- The blocks may be fewer, or more that are new. -/
theorem Far.sub {O Q : Nat → Prop} {v : Value} (h : Far O v) (hq : ∀ k, Q k → O k) : Far Q v := fun b off n c e hb => h b off n c e (hq b hb)

set_option maxHeartbeats 4000000 in
set_option maxRecDepth 100000 in
theorem rturn_any {w : World} {R : RV} {N : Nor} (hlim : N.offs ≤ 1000000) :
    Calls Tryz.prog 37 #[R.val N] w fun e w' => e = .returned (R.val N.turn) ∧ Below w.heap.size w w' := by
  unfold Nor.turn
  cases hoff : N.off
  · simp only [Bool.false_eq_true, if_false]
    unfold RV.val RV.cells
    rw [hoff]
    go_enter Tryz.func37, Tryz.ntmps37
    go_wp2_with fail
    exact bodyPost_ret (v := .agg #[i64 N.S, i64 N.Z, .slice R.dA N.S R.dc, .slice R.wA N.S R.wc, .slice R.bA N.S R.bc, .bool true, i64 (N.offs + 1 : Nat), i64 N.acts, .bool false, i64 R.left, i64 R.whole, .int .u8 R.mask]) (by simp [results, Tryz.results37, go_sem]) rfl ⟨rfl, Base.al (Base.al (Below.refl _ _) _) _⟩
  · simp only [if_true]
    unfold RV.val RV.cells
    rw [hoff]
    go_enter Tryz.func37, Tryz.ntmps37
    go_wp2_with fail
    exact bodyPost_ret (v := .agg #[i64 N.S, i64 N.Z, .slice R.dA N.S R.dc, .slice R.wA N.S R.wc, .slice R.bA N.S R.bc, .bool true, i64 N.offs, i64 N.acts, .bool N.cut.isSome, i64 R.left, i64 R.whole, .int .u8 R.mask]) (by simp [results, Tryz.results37, go_sem]) rfl ⟨rfl, Base.al (Base.al (Below.refl _ _) _) _⟩
theorem RefR.turn {O : Nat → Prop} {w : World} {R : RV} {N : Nor} (h : RefR O w R N) : RefR O w R N.turn := by
  unfold Nor.turn
  split
  · exact h
  · exact { h with cut := fun c hc => by cases hc }

set_option maxHeartbeats 4000000 in
set_option maxRecDepth 100000 in
theorem rcut_any (w : World) (R : RV) (N : Nor) (a b : Int) (m g : Nat) :
    Calls Tryz.prog 35 #[R.val N, i64 a, i64 b, .int .u8 m] w fun e w' => e = .returned (({ R with left := a.toNat, whole := b.toNat, mask := m } : RV).val (N.cutAt a b m g)) ∧ Below w.heap.size w w' := by
  have hmx : ∀ x : Int, 0 ≤ x → ((x.toNat : Nat) : Int) = x := fun x hx => by omega
  have hmn : ∀ x : Int, x < 0 → ((x.toNat : Nat) : Int) = 0 := fun x hx => by omega
  unfold RV.val RV.cells
  rcases Int.lt_or_le a 0 with ha | ha <;> rcases Int.lt_or_le b 0 with hb | hb
  all_goals
    first | rw [hmx a ha] | rw [hmn a ha]
    first | rw [hmx b hb] | rw [hmn b hb]
    clear hmx hmn
    go_enter Tryz.func35, Tryz.ntmps35
    go_wp2_with fail
  all_goals (try (exfalso; omega))
  · exact bodyPost_ret (v := .agg #[i64 N.S, i64 N.Z, .slice R.dA N.S R.dc, .slice R.wA N.S R.wc, .slice R.bA N.S R.bc, .bool N.off, i64 N.offs, i64 N.acts, .bool true, i64 0, i64 0, .int .u8 m]) (by simp [results, Tryz.results35, go_sem]) rfl ⟨rfl, Base.al (Base.al (Below.refl _ _) _) _⟩
  · exact bodyPost_ret (v := .agg #[i64 N.S, i64 N.Z, .slice R.dA N.S R.dc, .slice R.wA N.S R.wc, .slice R.bA N.S R.bc, .bool N.off, i64 N.offs, i64 N.acts, .bool true, i64 0, i64 b, .int .u8 m]) (by simp [results, Tryz.results35, go_sem]) rfl ⟨rfl, Base.al (Base.al (Below.refl _ _) _) _⟩
  · exact bodyPost_ret (v := .agg #[i64 N.S, i64 N.Z, .slice R.dA N.S R.dc, .slice R.wA N.S R.wc, .slice R.bA N.S R.bc, .bool N.off, i64 N.offs, i64 N.acts, .bool true, i64 a, i64 0, .int .u8 m]) (by simp [results, Tryz.results35, go_sem]) rfl ⟨rfl, Base.al (Base.al (Below.refl _ _) _) _⟩
  · exact bodyPost_ret (v := .agg #[i64 N.S, i64 N.Z, .slice R.dA N.S R.dc, .slice R.wA N.S R.wc, .slice R.bA N.S R.bc, .bool N.off, i64 N.offs, i64 N.acts, .bool true, i64 a, i64 b, .int .u8 m]) (by simp [results, Tryz.results35, go_sem]) rfl ⟨rfl, Base.al (Base.al (Below.refl _ _) _) _⟩
theorem RefR.cutAt {O : Nat → Prop} {w : World} {R : RV} {N : Nor} (h : RefR O w R N) (a b : Int) (m g : Nat) : RefR O w { R with left := a.toNat, whole := b.toNat, mask := m } (N.cutAt a b m g) :=
  { h with cut := fun c hc => by { injection hc with hc; subst hc; exact ⟨rfl, rfl, rfl⟩ } }

theorem isBad_spoil (N : Nor) (hn : (N.bad.map Prod.fst).Nodup) (s : Int) (i : Nat) : (N.spoil s).isBad i = (decide ((i : Int) = s) || N.isBad i) := by
  unfold Nor.isBad Nor.spoil
  simp only []
  rw [mget_mput hn]
  by_cases h : (i : Int) = s
  · simp [h]
  · simp [h]

/-- One cell each. -/
theorem Sl.src1 {w : World} {ad : Addr} {n cap : Nat} {xs : List Value} (h : Sl w 1 (.slice (some ad) n cap) (xs.map fun x => [x])) : ∀ j u, xs[j]? = some u → w.cell? (ad.add j) = some u := by
  intro j u hj
  have hn := h.len
  rw [List.length_map] at hn
  have hjl := (List.getElem?_eq_some_iff.1 hj).1
  obtain ⟨b, off, hA, hb, hx⟩ := h.at (by omega)
  injection hA with hA
  subst hA
  have := (hx j [u] (by rw [List.getElem?_map, hj]; rfl)).2 0 u rfl
  rw [Addr.add_lit, show off + j = off + j * 1 + 0 by omega]
  exact this
theorem Sl.some {w : World} {A : Option Addr} {k n cap : Nat} {xs : List (List Value)} (h : Sl w k (.slice A n cap) xs) (hp : 0 < n) : ∃ ad, A = some ad := by
  obtain ⟨b, off, hA, _⟩ := h.at hp
  exact ⟨_, hA⟩
theorem RefR.bad' {O : Nat → Prop} {w w' : World} {R : RV} {N : Nor} (h : RefR O w R N) (s : Int) (lim : ∀ k, O k → k < w.heap.size) (hb : Below w.heap.size w w') {g cp : Nat} {D : List Value} (hg : w'.heap[g]? = some (.cells D.toArray 4 (0, 0)))
    (hD : D.take N.S = (List.range N.S).map fun i => Value.bool ((N.spoil s).isBad i)) (n1 : w.heap.size ≤ g) (hc : N.S ≤ cp) (hm : cp ≤ maxLen) :
    RefR O w' { R with bA := some ⟨g, 0, none⟩, bc := cp } (N.spoil s) := by
  have hw := h.below hb
  refine { hw with bad := ?_, bfar := far_new lim n1 _ _ _, badn := mput_nodup h.badn s _ }
  have := Sl.of_blk hg hD (by simp) hc hm
  rw [List.map_map] at this
  exact this

set_option maxHeartbeats 4000000 in
set_option maxRecDepth 100000 in
theorem rspoil_any {O : Nat → Prop} {w : World} {R : RV} {N : Nor} (h : RefR O w R N) (s : Int) (lim : ∀ k, O k → k < w.heap.size) :
    Calls Tryz.prog 40 #[R.val N, i64 s] w fun e w' => ∃ R', e = .returned (R'.val (N.spoil s)) ∧ RefR O w' R' (N.spoil s) ∧ Below w.heap.size w w' := by
  have hg := geoB_yes h.geo
  obtain ⟨ad, hbA⟩ := h.bad.some (by omega)
  have hbd := h.bad
  rw [hbA] at hbd
  have hbl : ((List.range N.S).map fun i => [Value.bool (N.isBad i)]) = (((List.range N.S).map fun i => Value.bool (N.isBad i)).map fun x => [x]) := by rw [List.map_map]; rfl
  rw [hbl] at hbd
  have hsrc : ∀ (X Y Z : Obj) j u, ((List.range N.S).map fun i => Value.bool (N.isBad i))[j]? = some u → (((w.alloc X).alloc Y).alloc Z).cell? (ad.add j) = some u := fun X Y Z => Sl.src1 (Sl.below hbd (Base.al (Base.al (Base.al (Below.refl _ _) X) Y) Z))
  obtain ⟨i1, hi, hz0, hz1, hz2⟩ := info_parts info_boolV
  have hspoil := isBad_spoil N h.badn s
  have hS64 : N.S ≤ 64 := by omega
  have hS6 : 0 < N.S := by omega
  unfold RV.val RV.cells
  rw [hbA]
  go_enter Tryz.func40, Tryz.ntmps40
  go_wp2_with (at_builtin; refine wpList_append_fresh _ rfl _ _ 31 rfl 4 i1 _ Tryz.underlying31 hi hz0 hz1 ?c2 ⟨w.heap.size + 1 + 1, 0, none⟩ rfl ad N.S R.bc ((List.range N.S).map fun i => Value.bool (N.isBad i)) rfl ?c0 hS6 ?c3 (hsrc _ _ _) ?_)
  case c2 => omega
  case c0 => simp
  case c3 => omega
  intro cp junk hcp hcm
  obtain ⟨C, hC⟩ : ∃ C, ((List.range N.S).map fun i => Value.bool (N.isBad i)) ++ junk = C := ⟨_, rfl⟩
  rw [hC]
  have hCt : C.take N.S = (List.range N.S).map fun i => Value.bool (N.isBad i) := by rw [← hC]; exact List.take_left' (by simp)
  have HCT := Lib.hid hCt
  clear hC
  by_cases hin : 0 ≤ s ∧ s < N.S
  · obtain ⟨k, rfl⟩ : ∃ k : Nat, s = k := ⟨s.toNat, by omega⟩
    have hk : k < N.S := by omega
    have hck : C[k]? = some (.bool (N.isBad k)) := by
      have := congrArg (fun l => l[k]?) hCt
      simp only [List.getElem?_take_of_lt hk] at this
      rw [this]
      simp [hk]
    have t1 : ¬ ((k : Int) < 0) := by omega
    have hset : (C.set k (.bool true)).take N.S = (List.range N.S).map fun i => Value.bool ((N.spoil k).isBad i) := by
      rw [List.take_set, hCt]
      apply List.ext_getElem
      · simp
      · intro i h1 h2
        rw [List.getElem_set]
        simp only [List.getElem_map, List.getElem_range, hspoil]
        by_cases hik : k = i
        · subst hik; simp
        · rw [if_neg hik, decide_eq_false (by omega), Bool.false_or]
    have HSET := Lib.hid hset
    clear hCt hin hsrc hbd hset hspoil
    go_wp2_with fail
    refine bodyPost_ret (v := .agg #[i64 N.S, i64 N.Z, .slice R.dA N.S R.dc, .slice R.wA N.S R.wc, .slice (some ⟨w.heap.size + 1 + 1 + 1, 0, none⟩) N.S cp, .bool N.off, i64 N.offs, i64 N.acts, .bool N.cut.isSome, i64 R.left, i64 R.whole, .int .u8 R.mask]) (by simp [results, Tryz.results40, go_sem]) rfl ⟨{ R with bA := some ⟨w.heap.size + 1 + 1 + 1, 0, none⟩, bc := cp }, rfl, ?_, ?_⟩
    · exact h.bad' k lim (Base.dr (Base.al (Base.al (Base.al (Base.al (Below.refl _ _) _) _) _) _)) (blk_new3 w _ _ _ _) HSET.out (by omega) hcp hcm
    · exact Base.dr (Base.al (Base.al (Base.al (Base.al (Below.refl _ _) _) _) _) _)
  · have hset : C.take N.S = (List.range N.S).map fun i => Value.bool ((N.spoil s).isBad i) := by
      rw [hCt]
      refine List.map_congr_left fun i hi => ?_
      rw [hspoil, decide_eq_false (fun e => hin (by have := List.mem_range.1 hi; omega)), Bool.false_or]
    have HSET := Lib.hid hset
    clear hCt hsrc hbd hset hspoil
    go_wp2_with fail
    all_goals
      refine bodyPost_ret (v := .agg #[i64 N.S, i64 N.Z, .slice R.dA N.S R.dc, .slice R.wA N.S R.wc, .slice (some ⟨w.heap.size + 1 + 1 + 1, 0, none⟩) N.S cp, .bool N.off, i64 N.offs, i64 N.acts, .bool N.cut.isSome, i64 R.left, i64 R.whole, .int .u8 R.mask]) (by simp [results, Tryz.results40, go_sem]) rfl ⟨{ R with bA := some ⟨w.heap.size + 1 + 1 + 1, 0, none⟩, bc := cp }, rfl, ?_, ?_⟩
      · exact h.bad' s lim (Base.dr (Base.al (Base.al (Base.al (Base.al (Below.refl _ _) _) _) _) _)) (blk_new3 w _ _ _ _) HSET.out (by omega) hcp hcm
      · exact Base.dr (Base.al (Base.al (Base.al (Base.al (Below.refl _ _) _) _) _) _)
end Go.Proofs.YtokpoogcoeodkaaGreatDoor

