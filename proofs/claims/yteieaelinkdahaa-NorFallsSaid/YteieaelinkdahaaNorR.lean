/- The device read. -/
import Derived.Test.YteieaelinkdahaaNorST
import Derived.Test.YteieaelinkdahaaClone
namespace Go.Proofs.Yteieaelinkdahaa
open Go.RowKit Flo

theorem DevR.geoI {O : Nat → Prop} {w : World} {N : Nor} (h : DevR O w N) : 6 ≤ N.S ∧ N.S ≤ 64 ∧ 512 ≤ N.Z ∧ N.Z ≤ 4096 := by have := geoB_yes h.geo; omega

set_option maxHeartbeats 4000000 in
set_option maxRecDepth 100000 in
theorem read_nil (a b : Nat) (n : Int) (w : World) : Gives 15 #[nilD, cx a b, i64 n] w (.tuple #[.slice none 0 0, i64 7]) := by
  have g0 := fun W => Lib.hid (isOn_nil W)
  go_enter Try.func15, Try.ntmps15
  go_wp2_with fail
  refine (g0 _).out.mono ?_; rintro e x1 ⟨rfl, rfl⟩
  go_wp2_with fail
  go_ret2
  exact ⟨rfl, rfl⟩

/-- A piece of a sector. -/
theorem DevR.row_at {O : Nat → Prop} {w : World} {N : Nor} (h : DevR O w N) {s : Nat} (hs : s < N.S) :
    ∃ (l : List Nat) (b : Nat), N.data[s]? = some l ∧ N.bk[s]? = some b ∧ w.cell? ⟨N.DA, s, none⟩ = some (.slice (some ⟨b, 0, none⟩) N.Z N.Z) ∧ l.length = N.Z ∧ (∀ x ∈ l, x < 256) ∧ O b ∧ b < w.heap.size ∧
      (∀ j u, (l.map bv)[j]? = some u → w.cell? ⟨b, j, none⟩ = some u) ∧ ∀ j, w.frozen? ⟨b, j, none⟩ = false := by
  have hsd : s < N.data.length := by rw [h.dl]; exact hs
  have hl : N.data[s]? = some N.data[s] := List.getElem?_eq_getElem hsd
  obtain ⟨b, junk, h1, h2⟩ := h.hR s _ hl
  obtain ⟨arr, ha1, ha2⟩ := h.hA
  refine ⟨_, b, hl, h1, ?_, (h.row _ (List.mem_of_getElem? hl)).1, (h.row _ (List.mem_of_getElem? hl)).2, h.ownR b (List.mem_of_getElem? h1), (Array.getElem?_eq_some_iff.1 h2).1, ?_, fun j => frozen_blk h2 j⟩
  · rw [cell_blk ha1]
    simpa using ha2 s b h1
  · intro j u hj
    rw [cell_blk h2]
    have hjl := (List.getElem?_eq_some_iff.1 hj).1
    simp only [List.getElem?_toArray]
    rw [List.getElem?_append_left hjl]
    exact hj
theorem piece_Byt {w : World} {b cap : Nat} {l : List Nat} (hb : b < w.heap.size) (hx : ∀ j u, (l.map bv)[j]? = some u → w.cell? ⟨b, j, none⟩ = some u) (a n : Nat) (hn : a + n ≤ l.length) (hc : n ≤ cap) (hcm : cap ≤ maxLen) :
    Byt w (.slice (some ⟨b, a, none⟩) n cap) ((l.drop a).take n) := by
  have hlen : (((l.drop a).take n).map fun x => [bv x]).length = n := by rw [List.length_map, List.length_take, List.length_drop]; omega
  refine ⟨some ⟨b, a, none⟩, cap, by rw [hlen], by rw [hlen]; exact hc, hcm, (fun h => by cases h), fun _ => ⟨b, a, rfl, hb, ?_⟩⟩
  intro i x hi
  rw [List.getElem?_map] at hi
  obtain ⟨y, hy, rfl⟩ := Option.map_eq_some_iff.1 hi
  refine ⟨rfl, fun j u hj => ?_⟩
  cases j with
  | succ j => cases hj
  | zero =>
    have hil : i < n := by have := (List.getElem?_eq_some_iff.1 hy).1; rw [List.length_take] at this; omega
    rw [List.getElem?_take_of_lt hil, List.getElem?_drop] at hy
    have : u = bv y := by simpa using hj.symm
    subst this
    have := hx (a + i) (bv y) (by rw [List.getElem?_map, hy]; rfl)
    rw [show a + i * 1 + 0 = a + i by omega]
    exact this

/-- What is read. -/
noncomputable def Nor.got (N : Nor) (a b : Nat) (n : Int) : List Nat × Nat :=
  if N.off then ([], 7) else if withinB N.S N.Z a b n then (((N.data.getD ((part? a).getD 0) []).drop ((part? b).getD 0)).take n.toNat, 0) else ([], 1)
/-- What a reading call gives. -/
abbrev ReadPost (w : World) (l : List Nat) (e : Nat) (en : Ending) (w' : World) : Prop :=
  ∃ v, en = .returned (.tuple #[v, i64 e]) ∧ w'.ownsRow w.heap.size 5 1 v l.length (l.map bv) ∧ Below w.heap.size w w'
theorem own_none (w : World) (base : Nat) (e : TypeId) : w.ownsRow base e 1 (.slice none 0 0) 0 [] := ⟨rfl, .inl ⟨rfl, rfl⟩⟩

set_option maxHeartbeats 4000000 in
set_option maxRecDepth 100000 in
theorem read_any {O : Nat → Prop} {w : World} {N : Nor} (h : DevR O w N) (a b : Nat) (n : Int) :
    Calls Try.prog 15 #[ptrD N, cx a b, i64 n] w (ReadPost w (N.got a b n).1 (N.got a b n).2) := by
  have g0 := fun W (hW : DevR O W N) => Lib.hid (isOn_any hW)
  obtain ⟨q1, q2, q3, q4⟩ := h.geoI
  cases hoff : N.off
  case true =>
    have hv : N.got a b n = ([], 7) := by unfold Nor.got; rw [hoff]; rfl
    rw [hv]
    rw [hoff] at g0
    clear hv
    go_enter Try.func15, Try.ntmps15
    go_wp2_with fail
    refine (g0 _ h).out.mono ?_; rintro e x1 ⟨rfl, rfl⟩
    go_wp2_with fail
    go_ret2
    exact ⟨_, rfl, own_none _ _ _, Below.refl _ _⟩
  case false =>
    rw [hoff] at g0
    have c0 : w.cell? ⟨N.D, 0, none⟩ = some (i64 N.S) := h.at 0
    have c1 : w.cell? ⟨N.D, 1, none⟩ = some (i64 N.Z) := h.at 1
    have hlt := h.ltD
    have g1 := fun W => Lib.hid (within_any (N.S : Int) N.Z a b n W (by omega) (by omega))
    cases hwi : withinB N.S N.Z a b n
    · have hv : N.got a b n = ([], 1) := by unfold Nor.got; rw [hoff, hwi]; rfl
      rw [hv]
      rw [hwi] at g1
      clear hv
      go_enter Try.func15, Try.ntmps15
      go_wp2_with fail
      refine (g0 _ h).out.mono ?_; rintro e x1 ⟨rfl, rfl⟩
      go_wp2_with fail
      refine (g1 _).out.mono ?_; rintro e x2 ⟨rfl, hb2⟩
      go_wp2_with fail
      go_ret2
      exact ⟨_, rfl, own_none _ _ _, hb2⟩
    · obtain ⟨k, o, ha, hb⟩ : ∃ k o, part? a = some k ∧ part? b = some o := by
        cases h1 : part? a <;> cases h2 : part? b <;> first | exact ⟨_, _, rfl, rfl⟩ | (rw [within_no (by simp [h1, h2])] at hwi; cases hwi)
      have hin := hwi
      rw [within_yes ha hb] at hin
      simp only [Bool.and_eq_true, decide_eq_true_eq] at hin
      obtain ⟨⟨⟨i1, i2⟩, i3⟩, i4⟩ := hin
      obtain ⟨m, rfl⟩ : ∃ m : Nat, n = m := ⟨n.toNat, by omega⟩
      obtain ⟨l, bb, hl, hbk, -, hll, hlt8, hO, -, -, -⟩ := h.row_at (s := k) (by omega)
      have hv : N.got a b m = ((l.drop o).take m, 0) := by
        unfold Nor.got
        rw [hoff, hwi, ha, hb]
        simp [List.getD_eq_getElem?_getD, hl]
      rw [hv]
      rw [hwi] at g1
      have g2 := fun W => Lib.hid (parts_yes W ha hb)
      clear hv hwi ha hb
      go_enter Try.func15, Try.ntmps15
      go_wp2_with fail
      refine (g0 _ h).out.mono ?_; rintro e x1 ⟨rfl, rfl⟩
      go_wp2_with fail
      refine (g1 _).out.mono ?_; rintro e x2 ⟨rfl, hb2⟩
      go_wp2_with fail
      refine (g2 _).out.mono ?_; rintro e x3 ⟨rfl, rfl⟩
      have h3 := h.below hb2
      have d2 : x3.cell? ⟨N.D, 2, none⟩ = some (.slice (some ⟨N.DA, 0, none⟩) N.S N.cd) := h3.at 2
      obtain ⟨l', bb', hl', hbk', hda, -, -, -, hblt, hcells, -⟩ := h3.row_at (s := k) (by omega)
      obtain rfl : l' = l := by rw [hl] at hl'; injection hl' with e; exact e.symm
      obtain rfl : bb' = bb := by rw [hbk] at hbk'; injection hbk' with e; exact e.symm
      have k1 : (0 : Int) ≤ (o : Int) + (m : Int) ∧ (o : Int) + (m : Int) ≤ (N.Z : Int) := by omega
      have k3 : (o : Int) ≤ (o : Int) + (m : Int) := by omega
      have k4 : ((o : Int) + (m : Int)).toNat = o + m := by omega
      have k5 : o + m - o = m := by omega
      have k6 : k < N.S := by omega
      clear g0 g1 g2 hl' hbk' hl hbk c0 c1 h h3
      by_cases ho : N.Z = o
      · obtain rfl : m = 0 := by omega
        have hcl := clone_any ⟨bb', 0, none⟩ 0 0 [] x3 ⟨some ⟨bb', 0, none⟩, 0, rfl, Nat.zero_le _, by unfold maxLen; omega, (fun h => by cases h), fun h => absurd h (by decide)⟩ (by simp)
        have HCL := Lib.hid hcl
        clear hcl hcells
        go_wp2_with fail
        refine HCL.out.mono ?_; rintro e x4 ⟨v, rfl, hown, -, hb4⟩
        go_wp2_with fail
        go_ret2
        exact ⟨_, rfl, by simpa using own_base hown hb2.size, Base.tr hb2 hb4⟩
      · have hby := piece_Byt (cap := N.Z - o) hblt hcells o m (by omega) (by omega) (by unfold maxLen; omega)
        have hcl := clone_any ⟨bb', o, none⟩ m (N.Z - o) _ x3 hby (by rw [List.length_take, List.length_drop]; omega)
        have HCL := Lib.hid hcl
        clear hcl hcells hby
        go_wp2_with fail
        refine HCL.out.mono ?_; rintro e x4 ⟨v, rfl, hown, -, hb4⟩
        go_wp2_with fail
        go_ret2
        exact ⟨_, rfl, own_base hown hb2.size, Base.tr hb2 hb4⟩
end Go.Proofs.Yteieaelinkdahaa
