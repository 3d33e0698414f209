/- The operations of the law: as many as are gone through. -/
import Derived.Test.YteieaelinkdahaaNorF
namespace Go.Proofs.Yteieaelinkdahaa
open Go.RowKit Flo

structure OpV where
  kind : Int
  sector : Int
  offset : Int
  A : Option Addr
  bn : Nat
  bc : Nat
  n : Int
  k : Int
  mask : Nat
def OpV.row (o : OpV) : List Value := [i64 o.kind, i64 o.sector, i64 o.offset, .slice o.A o.bn o.bc, i64 o.n, i64 o.k, bv o.mask]
abbrev OpV.val (o : OpV) : Value := .agg #[i64 o.kind, i64 o.sector, i64 o.offset, .slice o.A o.bn o.bc, i64 o.n, i64 o.k, bv o.mask]
abbrev Ops (w : World) (v : Value) (l : List OpV) : Prop := Sl w 7 v (l.map OpV.row)
def cutGo : Nat → Nat → List Nat → Nat
  | i, _, [] => i
  | i, n, x :: xs => if 60 ≤ i ∨ 6000 < n + min x 90000 then i else cutGo (i + 1) (n + min x 90000) xs
theorem cutGo_le : ∀ (l : List Nat) (i n : Nat), cutGo i n l ≤ i + l.length
  | [], i, n => Nat.le_refl _
  | x :: xs, i, n => by
    unfold cutGo
    split
    · simp
    · have := cutGo_le xs (i + 1) (n + min x 90000)
      simp only [List.length_cons]; omega
theorem cutGo_ge : ∀ (l : List Nat) (i n : Nat), i ≤ cutGo i n l
  | [], i, n => Nat.le_refl _
  | x :: xs, i, n => by
    unfold cutGo
    split
    · exact Nat.le_refl _
    · have := cutGo_ge xs (i + 1) (n + min x 90000)
      omega
/-- What is gone through is short. -/
theorem cutGo_small : ∀ (l : List Nat) (i n j : Nat), j < cutGo i n l - i → ∃ x, l[j]? = some x ∧ x ≤ 6000
  | [], i, n, j, h => by simp [cutGo] at h
  | x :: xs, i, n, j, h => by
    unfold cutGo at h
    split at h
    · omega
    · rename_i hc
      cases j with
      | zero => exact ⟨x, rfl, by omega⟩
      | succ j =>
        have := cutGo_ge xs (i + 1) (n + min x 90000)
        have h2 : j < cutGo (i + 1) (n + min x 90000) xs - (i + 1) := by omega
        simpa using cutGo_small xs (i + 1) _ j h2
theorem cutGo_60 : ∀ (l : List Nat) (i n : Nat), i ≤ 60 → cutGo i n l ≤ 60
  | [], i, n, h => h
  | x :: xs, i, n, h => by
    unfold cutGo
    split
    · exact h
    · rename_i hc
      exact cutGo_60 xs (i + 1) _ (by omega)

theorem cutGo_stop {l : List Nat} {j n x : Nat} (hx : l[j]? = some x) (h : 60 ≤ j ∨ 6000 < n + min x 90000) : cutGo j n (l.drop j) = j := by
  rw [List.drop_eq_getElem_cons (List.getElem?_eq_some_iff.1 hx).1, (List.getElem?_eq_some_iff.1 hx).2]
  unfold cutGo
  rw [if_pos h]
theorem cutGo_next {l : List Nat} {j n x : Nat} (hx : l[j]? = some x) (h : ¬ (60 ≤ j ∨ 6000 < n + min x 90000)) : cutGo j n (l.drop j) = cutGo (j + 1) (n + min x 90000) (l.drop (j + 1)) := by
  rw [List.drop_eq_getElem_cons (List.getElem?_eq_some_iff.1 hx).1, (List.getElem?_eq_some_iff.1 hx).2]
  conv => lhs; unfold cutGo
  rw [if_neg h]
theorem Ops.at {w : World} {A : Option Addr} {n cap : Nat} {l : List OpV} (h : Ops w (.slice A n cap) l) (hp : 0 < l.length) :
    ∃ b off, A = some ⟨b, off, none⟩ ∧ b < w.heap.size ∧ ∀ (i : Nat) (o : OpV), l[i]? = some o → ∀ (j : Nat) (u : Value), o.row[j]? = some u → w.cell? ⟨b, off + i * 7 + j, none⟩ = some u := by
  have hn := h.len
  rw [List.length_map] at hn
  obtain ⟨b, off, hA, hb, hx⟩ := Sl.at h (by omega)
  refine ⟨b, off, hA, hb, fun i o ho j u hj => (hx i o.row (by rw [List.getElem?_map, ho]; rfl)).2 j u hj⟩

set_option maxHeartbeats 4000000 in
set_option maxRecDepth 100000 in
theorem cut_law (A : Option Addr) (n cap : Nat) (l : List OpV) (w : World) (h : Ops w (.slice A n cap) l) (hb : ∀ o ∈ l, o.bn ≤ 9223372036854775807) :
    Calls Try.prog 8 #[.slice A n cap] w fun e w' => e = .returned (.slice A (cutGo 0 0 (l.map OpV.bn)) cap) ∧ Below w.heap.size w w' := by
  have hn := h.len
  rw [List.length_map] at hn
  subst hn
  have hm := h.max
  rw [List.length_map] at hm
  unfold maxLen at hm
  go_enter Try.func8, Try.ntmps8
  go_wp2_with fail
  go_loopw [3, 8] (fun s3 s8 wr => ∃ j nn : Nat, j ≤ l.length ∧ s8 = .int .i64 j ∧ s3 = .int .i64 nn ∧ nn ≤ 6000 ∧ Hid (cutGo 0 0 (l.map OpV.bn) = cutGo j nn ((l.map OpV.bn).drop j)) ∧ Below w.heap.size w wr) (fun _ s8 _ => l.length - (intOf s8).toNat)
  case atStart => exact ⟨0, 0, Nat.zero_le _, rfl, rfl, by decide, rfl, Below.refl _ _⟩
  case round =>
    obtain ⟨j, nn, hj, rfl, rfl, hnn, HC, hbw⟩ := hrel
    by_cases hlt : j < l.length
    · obtain ⟨b, off, rfl, hbs, hc⟩ := Ops.at (Sl.below h hbw) (by omega)
      have hlj : l[j]? = some l[j] := List.getElem?_eq_getElem hlt
      have c0 := hc j _ hlj 0 _ rfl
      have c1 := hc j _ hlj 1 _ rfl
      have c2 := hc j _ hlj 2 _ rfl
      have c3 := hc j _ hlj 3 _ rfl
      have c4 := hc j _ hlj 4 _ rfl
      have c5 := hc j _ hlj 5 _ rfl
      have c6 := hc j _ hlj 6 _ rfl
      rw [Nat.add_zero] at c0
      have hbn := hb _ (List.mem_of_getElem? hlj)
      have hxl : (l.map OpV.bn)[j]? = some l[j].bn := by rw [List.getElem?_map, hlj]; rfl
      generalize l[j] = o at *
      have hst := fun n => Lib.hid (cutGo_stop (n := n) hxl)
      have hnx := fun n => Lib.hid (cutGo_next (n := n) hxl)
      have hcap : j ≤ cap := by
        obtain ⟨_, c', he, hle, _⟩ := h
        injection he with _ _ he
        subst he
        rw [List.length_map] at hle
        omega
      clear hc hlj hxl
      go_wp2_with fail
      all_goals first
        | (go_ret
           refine ⟨?_, Base.al hbw _⟩
           rw [HC.out, (hst nn).out (by omega)]
           rfl)
        | exact ⟨⟨j + 1, nn + min o.bn 90000, by omega, by go_num, by (congr 1; first | omega | (unfold wrap64; omega)), by omega, Lib.hid (by rw [HC.out]; exact (hnx nn).out (by omega)), Base.al hbw _⟩, by simp [intOf]; omega⟩
    · obtain rfl : j = l.length := by omega
      go_wp2_with fail
      go_ret
      refine ⟨?_, hbw⟩
      rw [HC.out, List.drop_eq_nil_of_le (by simp)]
      rfl
end Go.Proofs.Yteieaelinkdahaa

/- The walk of NorNil: whatever is asked of a nil device. -/
namespace Go.Proofs.Yteieaelinkdahaa
open Go.RowKit Flo

noncomputable def ofPl (a b : Int) : Nat × Nat := if a < 0 ∨ 2147483647 < a ∨ b < 0 ∨ 2147483647 < b then (0, 0) else (near a, near b)
theorem of_any (a b : Int) (w : World) : Gives 10 #[i64 a, i64 b] w (cx (ofPl a b).1 (ofPl a b).2) := by
  unfold ofPl
  split
  · rename_i h; exact of_out a b w h
  · rename_i h; exact of_in a b w (by omega) (by omega) (by omega) (by omega)
theorem rof_any (a b : Int) (w : World) : Gives 79 #[i64 a, i64 b] w (cx (ofPl a b).1 (ofPl a b).2) := by
  unfold ofPl
  split
  · rename_i h; exact rof_out a b w h
  · rename_i h; exact rof_in a b w (by omega) (by omega) (by omega) (by omega)

set_option maxHeartbeats 8000000 in
set_option maxRecDepth 100000 in
theorem norNil_makes (o : OpV) (w : World) (hb : o.bn ≤ 9223372036854775807) : Makes 3 #[o.val] w (.bool true) := by
  have G0 := fun W => Lib.hid (fixed4_any W)
  have hops : Ops ((w.alloc (.cells #[i64 o.kind, i64 o.sector, i64 o.offset, .slice o.A o.bn o.bc, i64 o.n, i64 o.k, bv o.mask] 24)).alloc (.cells #[i64 o.kind, i64 o.sector, i64 o.offset, .slice o.A o.bn o.bc, i64 o.n, i64 o.k, bv o.mask] 24)) (.slice (some ⟨w.heap.size + 1, 0, none⟩) 1 1) [o] :=
    Sl.lit (k := 7) ([o].map OpV.row) (g := w.heap.size + 1) (t := 24) (n := 1) (blk_new1 w _ _) (by simp [OpV.row]) (by simp) (by intro x hx; simp at hx; subst hx; rfl) (by simp)
  have G1 := Lib.hid (cut_law _ _ _ _ _ hops (by simpa using hb))
  have P0 := fun W => Lib.hid (of_any o.sector o.offset W)
  generalize ofPl o.sector o.offset = pl at *
  obtain ⟨pa, pb⟩ := pl
  simp only at P0
  have C1 := fun W => Lib.hid (spoil_nil o.sector W)
  have C2 := fun W => Lib.hid (cut_nil o.n o.k o.mask W)
  have C3 := fun W => Lib.hid (off_nil W)
  have C4 := fun W => Lib.hid (on_nil W)
  have C5 := fun W => Lib.hid (read_nil pa pb o.n W)
  have C6 := fun W => Lib.hid (prog_nil pa pb o.A o.bn o.bc W)
  have C7 := fun W => Lib.hid (erase_nil o.sector W)
  have C8 := fun W => Lib.hid (wear_nil o.sector W)
  have C9 := fun W => Lib.hid (acts_nil W)
  have CA := fun W => Lib.hid (isOn_nil W)
  have CB := fun W => Lib.hid (offs_nil W)
  have CC := fun W => Lib.hid (geom_nil W)
  have hb0 : Below w.heap.size w ((w.alloc (.cells #[i64 o.kind, i64 o.sector, i64 o.offset, .slice o.A o.bn o.bc, i64 o.n, i64 o.k, bv o.mask] 24)).alloc (.cells #[i64 o.kind, i64 o.sector, i64 o.offset, .slice o.A o.bn o.bc, i64 o.n, i64 o.k, bv o.mask] 24)) := Base.al (Base.al (Below.refl _ _) _) _
  have hpar : ((w.alloc (.cells #[i64 o.kind, i64 o.sector, i64 o.offset, .slice o.A o.bn o.bc, i64 o.n, i64 o.k, bv o.mask] 24)).alloc (.cells #[i64 o.kind, i64 o.sector, i64 o.offset, .slice o.A o.bn o.bc, i64 o.n, i64 o.k, bv o.mask] 24)).heap[w.heap.size]? = some (Obj.cells #[i64 o.kind, i64 o.sector, i64 o.offset, .slice o.A o.bn o.bc, i64 o.n, i64 o.k, bv o.mask] 24 (0, 0)) := blk_old (blk_new w _)
  go_enter Try.func3, Try.ntmps3
  go_wp2_with fail
  refine G1.out.mono ?_; rintro e x1 ⟨rfl, hb1⟩
  have hB1 := Base.tr hb0 hb1
  have hp1 := blk_below hpar hb1
  clear G1 hpar hops hb1 hb0
  by_cases hc : o.bn ≤ 6000
  · have hcv : cutGo 0 0 ([o].map OpV.bn) = 1 := by
      show cutGo 0 0 [o.bn] = 1
      unfold cutGo
      rw [if_neg (by omega)]
      rfl
    rw [hcv]
    have f1 := cell_blk hp1 1
    have f2 := cell_blk hp1 2
    have f4 := cell_blk hp1 4
    have f5 := cell_blk hp1 5
    have f6 := cell_blk hp1 6
    have f3 := cell_blk hp1 3
    simp at f1 f2 f3 f4 f5 f6
    clear hcv
    go_wp2_with fail
    refine (P0 _).out.mono ?_; rintro e x2 ⟨rfl, rfl⟩
    go_wp2_with fail
    refine (C1 _).out.mono ?_; rintro e x2 ⟨rfl, rfl⟩
    go_wp2_with fail
    refine (C2 _).out.mono ?_; rintro e x2 ⟨rfl, rfl⟩
    go_wp2_with fail
    refine (C3 _).out.mono ?_; rintro e x2 ⟨rfl, rfl⟩
    go_wp2_with fail
    refine (C4 _).out.mono ?_; rintro e x2 ⟨rfl, rfl⟩
    go_wp2_with fail
    refine (C5 _).out.mono ?_; rintro e x2 ⟨rfl, rfl⟩
    go_wp2_with fail
    refine (G0 _).out.mono ?_; rintro e x3 ⟨rfl, hb3⟩
    have hp3 := blk_below hp1 hb3
    have hB3 := Base.tr hB1 hb3
    clear f1 f2 f3 f4 f5 f6
    have f3 := cell_blk hp3 3
    simp at f3
    go_wp2_with fail
    refine (C6 _).out.mono ?_; rintro e x4 ⟨rfl, hb4⟩
    have hp4 := blk_below hp3 hb4
    have hB4 := Base.tr hB3 hb4
    clear f3
    have f1 := cell_blk hp4 1
    simp at f1
    go_wp2_with fail
    refine (C7 _).out.mono ?_; rintro e x5 ⟨rfl, rfl⟩
    go_wp2_with fail
    refine (C8 _).out.mono ?_; rintro e x5 ⟨rfl, rfl⟩
    go_wp2_with fail
    refine (C9 _).out.mono ?_; rintro e x5 ⟨rfl, rfl⟩
    go_wp2_with fail
    refine (CA _).out.mono ?_; rintro e x5 ⟨rfl, rfl⟩
    go_wp2_with fail
    refine (CB _).out.mono ?_; rintro e x5 ⟨rfl, rfl⟩
    go_wp2_with fail
    refine (CC _).out.mono ?_; rintro e x6 ⟨rfl, hb6⟩
    go_wp2_with fail
    go_ret
    exact ⟨rfl, Base.tr hB4 hb6⟩
  · have hcv : cutGo 0 0 ([o].map OpV.bn) = 0 := by
      show cutGo 0 0 [o.bn] = 0
      unfold cutGo
      rw [if_pos (by omega)]
    rw [hcv]
    clear hcv
    go_wp2_with fail
    refine (G0 _).out.mono ?_; rintro e x2 ⟨rfl, hb2⟩
    go_wp2_with fail
    go_ret
    exact ⟨rfl, Base.tr hB1 hb2⟩
end Go.Proofs.Yteieaelinkdahaa

