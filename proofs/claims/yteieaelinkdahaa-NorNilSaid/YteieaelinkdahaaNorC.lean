/- The operations of the law: as many as are gone through. -/
import Derived.Test.YteieaelinkdahaaNorF
namespace Go.Proofs.Yteieaelinkdahaa
open Go.RowKit Flo

structure OpV where
  kind : Int
  sector : Int
  offset : Int
  A : Option Addr
  bn : Nat
  bc : Nat
  n : Int
  k : Int
  mask : Nat
def OpV.row (o : OpV) : List Value := [i64 o.kind, i64 o.sector, i64 o.offset, .slice o.A o.bn o.bc, i64 o.n, i64 o.k, bv o.mask]
abbrev OpV.val (o : OpV) : Value := .agg #[i64 o.kind, i64 o.sector, i64 o.offset, .slice o.A o.bn o.bc, i64 o.n, i64 o.k, bv o.mask]
abbrev Ops (w : World) (v : Value) (l : List OpV) : Prop := Sl w 7 v (l.map OpV.row)
def cutGo : Nat → Nat → List Nat → Nat
  | i, _, [] => i
  | i, n, x :: xs => if 60 ≤ i ∨ 6000 < n + min x 90000 then i else cutGo (i + 1) (n + min x 90000) xs
theorem cutGo_le : ∀ (l : List Nat) (i n : Nat), cutGo i n l ≤ i + l.length
  | [], i, n => Nat.le_refl _
  | x :: xs, i, n => by
    unfold cutGo
    split
    · simp
    · have := cutGo_le xs (i + 1) (n + min x 90000)
      simp only [List.length_cons]; omega
theorem cutGo_ge : ∀ (l : List Nat) (i n : Nat), i ≤ cutGo i n l
  | [], i, n => Nat.le_refl _
  | x :: xs, i, n => by
    unfold cutGo
    split
    · exact Nat.le_refl _
    · have := cutGo_ge xs (i + 1) (n + min x 90000)
      omega
/-- What is gone through is short. -/
theorem cutGo_small : ∀ (l : List Nat) (i n j : Nat), j < cutGo i n l - i → ∃ x, l[j]? = some x ∧ x ≤ 6000
  | [], i, n, j, h => by simp [cutGo] at h
  | x :: xs, i, n, j, h => by
    unfold cutGo at h
    split at h
    · omega
    · rename_i hc
      cases j with
      | zero => exact ⟨x, rfl, by omega⟩
      | succ j =>
        have := cutGo_ge xs (i + 1) (n + min x 90000)
        have h2 : j < cutGo (i + 1) (n + min x 90000) xs - (i + 1) := by omega
        simpa using cutGo_small xs (i + 1) _ j h2
theorem cutGo_60 : ∀ (l : List Nat) (i n : Nat), i ≤ 60 → cutGo i n l ≤ 60
  | [], i, n, h => h
  | x :: xs, i, n, h => by
    unfold cutGo
    split
    · exact h
    · rename_i hc
      exact cutGo_60 xs (i + 1) _ (by omega)

theorem cutGo_stop {l : List Nat} {j n x : Nat} (hx : l[j]? = some x) (h : 60 ≤ j ∨ 6000 < n + min x 90000) : cutGo j n (l.drop j) = j := by
  rw [List.drop_eq_getElem_cons (List.getElem?_eq_some_iff.1 hx).1, (List.getElem?_eq_some_iff.1 hx).2]
  unfold cutGo
  rw [if_pos h]
theorem cutGo_next {l : List Nat} {j n x : Nat} (hx : l[j]? = some x) (h : ¬ (60 ≤ j ∨ 6000 < n + min x 90000)) : cutGo j n (l.drop j) = cutGo (j + 1) (n + min x 90000) (l.drop (j + 1)) := by
  rw [List.drop_eq_getElem_cons (List.getElem?_eq_some_iff.1 hx).1, (List.getElem?_eq_some_iff.1 hx).2]
  conv => lhs; unfold cutGo
  rw [if_neg h]
theorem Ops.at {w : World} {A : Option Addr} {n cap : Nat} {l : List OpV} (h : Ops w (.slice A n cap) l) (hp : 0 < l.length) :
    ∃ b off, A = some ⟨b, off, none⟩ ∧ b < w.heap.size ∧ ∀ (i : Nat) (o : OpV), l[i]? = some o → ∀ (j : Nat) (u : Value), o.row[j]? = some u → w.cell? ⟨b, off + i * 7 + j, none⟩ = some u := by
  have hn := h.len
  rw [List.length_map] at hn
  obtain ⟨b, off, hA, hb, hx⟩ := Sl.at h (by omega)
  refine ⟨b, off, hA, hb, fun i o ho j u hj => (hx i o.row (by rw [List.getElem?_map, ho]; rfl)).2 j u hj⟩

set_option maxHeartbeats 4000000 in
set_option maxRecDepth 100000 in
theorem cut_law (A : Option Addr) (n cap : Nat) (l : List OpV) (w : World) (h : Ops w (.slice A n cap) l) (hb : ∀ o ∈ l, o.bn ≤ 9223372036854775807) :
    Calls Try.prog 8 #[.slice A n cap] w fun e w' => e = .returned (.slice A (cutGo 0 0 (l.map OpV.bn)) cap) ∧ Below w.heap.size w w' := by
  have hn := h.len
  rw [List.length_map] at hn
  subst hn
  have hm := h.max
  rw [List.length_map] at hm
  unfold maxLen at hm
  go_enter Try.func8, Try.ntmps8
  go_wp2_with fail
  go_loopw [3, 8] (fun s3 s8 wr => ∃ j nn : Nat, j ≤ l.length ∧ s8 = .int .i64 j ∧ s3 = .int .i64 nn ∧ nn ≤ 6000 ∧ Hid (cutGo 0 0 (l.map OpV.bn) = cutGo j nn ((l.map OpV.bn).drop j)) ∧ Below w.heap.size w wr) (fun _ s8 _ => l.length - (intOf s8).toNat)
  case atStart => exact ⟨0, 0, Nat.zero_le _, rfl, rfl, by decide, rfl, Below.refl _ _⟩
  case round =>
    obtain ⟨j, nn, hj, rfl, rfl, hnn, HC, hbw⟩ := hrel
    by_cases hlt : j < l.length
    · obtain ⟨b, off, rfl, hbs, hc⟩ := Ops.at (Sl.below h hbw) (by omega)
      have hlj : l[j]? = some l[j] := List.getElem?_eq_getElem hlt
      have c0 := hc j _ hlj 0 _ rfl
      have c1 := hc j _ hlj 1 _ rfl
      have c2 := hc j _ hlj 2 _ rfl
      have c3 := hc j _ hlj 3 _ rfl
      have c4 := hc j _ hlj 4 _ rfl
      have c5 := hc j _ hlj 5 _ rfl
      have c6 := hc j _ hlj 6 _ rfl
      rw [Nat.add_zero] at c0
      have hbn := hb _ (List.mem_of_getElem? hlj)
      have hxl : (l.map OpV.bn)[j]? = some l[j].bn := by rw [List.getElem?_map, hlj]; rfl
      generalize l[j] = o at *
      have hst := fun n => Lib.hid (cutGo_stop (n := n) hxl)
      have hnx := fun n => Lib.hid (cutGo_next (n := n) hxl)
      have hcap : j ≤ cap := by
        obtain ⟨_, c', he, hle, _⟩ := h
        injection he with _ _ he
        subst he
        rw [List.length_map] at hle
        omega
      clear hc hlj hxl
      go_wp2_with fail
      all_goals first
        | (go_ret
           refine ⟨?_, Base.al hbw _⟩
           rw [HC.out, (hst nn).out (by omega)]
           rfl)
        | exact ⟨⟨j + 1, nn + min o.bn 90000, by omega, by go_num, by (congr 1; first | omega | (unfold wrap64; omega)), by omega, Lib.hid (by rw [HC.out]; exact (hnx nn).out (by omega)), Base.al hbw _⟩, by simp [intOf]; omega⟩
    · obtain rfl : j = l.length := by omega
      go_wp2_with fail
      go_ret
      refine ⟨?_, hbw⟩
      rw [HC.out, List.drop_eq_nil_of_le (by simp)]
      rfl
end Go.Proofs.Yteieaelinkdahaa
