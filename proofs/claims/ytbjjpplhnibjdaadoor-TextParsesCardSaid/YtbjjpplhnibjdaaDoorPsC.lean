/- The document's reading: a field. -/
import Derived.Test.YtbjjpplhnibjdaaDoorPsB
import Derived.Test.YtbjjpplhnibjdaaDoorPsA
import Derived.Test.YtbjjpplhnibjdaaDoorPs7
namespace Go.Proofs.YtbjjpplhnibjdaaDoor
open Go Go.RowKit

def dTextV (t : List Nat × Nat × Nat) : Value := .tuple #[.string (toB t.1), i64 t.2.1, i64 t.2.2]
def dNumV (t : Int × Nat × Nat) : Value := .tuple #[i64 t.1, i64 t.2.1, i64 t.2.2]
theorem dText_le {l : List Nat} {a e : Nat} (ha : a ≤ l.length) (he : e ≤ 5) : (dText l a e).2.1 ≤ l.length ∧ (dText l a e).2.2 ≤ 5 := by
  unfold dText
  split
  · exact ⟨ha, he⟩
  · split
    · rename_i k hn
      have := tNeed_err hn
      exact ⟨Nat.zero_le _, by show k ≤ 5; omega⟩
    · split
      · rename_i k hn
        have := tQuoted_err hn
        exact ⟨Nat.zero_le _, by show k ≤ 5; omega⟩
      · rename_i x c hq
        exact ⟨(tQuoted_le hq).1, by show 0 ≤ 5; omega⟩
theorem dNum_le {l : List Nat} {a e : Nat} (ha : a ≤ l.length) (he : e ≤ 5) : (dNum l a e).2.1 ≤ l.length ∧ (dNum l a e).2.2 ≤ 5 := by
  unfold dNum
  split
  · exact ⟨ha, he⟩
  · split
    · rename_i k hn
      have := tNeed_err hn
      exact ⟨Nat.zero_le _, by show k ≤ 5; omega⟩
    · rename_i b hn
      have hb := tNeed_ok hn
      split
      · rename_i k hn
        have := tNumber_err hn
        exact ⟨Nat.zero_le _, by show k ≤ 5; omega⟩
      · rename_i x c hq
        exact ⟨tNumber_le hq (by omega), by show 0 ≤ 5; omega⟩

set_option maxHeartbeats 8000000 in
set_option maxRecDepth 100000 in
theorem dText_any (s : ByteArray) (a e : Nat) (w : World) (hm : s.size ≤ 3000) (ha : a ≤ s.size) (he : e ≤ 5) : Makes 25 #[.string s, i64 a, i64 e] w (dTextV (dText (sb s) a e)) := by
  unfold dText
  by_cases h0 : e = 0
  · subst h0
    rw [if_neg (by decide)]
    have GB := fun W => rblank_any s a W hm ha
    cases hn : tNeed (sb s) a 32 with
    | error k =>
      rw [hn] at GB
      have G : ∀ W, Hid (Gives 36 #[.string s, i64 a] W (.tuple #[i64 0, i64 k])) := fun W => Lib.hid (GB W)
      have hk := tNeed_err hn
      have t1 : ((k : Int) == 0) = false := by rw [beq_eq_false_iff_ne]; omega
      clear GB hk hn
      go_enter Tryd.func25, Tryd.ntmps25
      go_wp2_with fail
      refine (G _).out.mono ?_; rintro e1 w1 ⟨rfl, rfl⟩
      go_wp2_with fail
      go_ret3
      exact ⟨rfl, Below.refl _ _⟩
    | ok b =>
      rw [hn] at GB
      have G : ∀ W, Hid (Gives 36 #[.string s, i64 a] W (.tuple #[i64 b, i64 0])) := fun W => Lib.hid (GB W)
      have hb := tNeed_ok hn
      dsimp only
      rw [sb_len] at hb
      have GQ := fun W => rquoted_any s b W hm (by omega)
      cases hq : tQuoted (sb s) b with
      | error k =>
        rw [hq] at GQ
        have Q : ∀ W, Hid (Makes 37 #[.string s, i64 b] W (.tuple #[.string (toB []), i64 0, i64 k])) := fun W => Lib.hid (GQ W)
        clear GB GQ hb hn hq
        go_enter Tryd.func25, Tryd.ntmps25
        go_wp2_with fail
        refine (G _).out.mono ?_; rintro e1 w1 ⟨rfl, rfl⟩
        go_wp2_with fail
        refine (Q _).out.mono ?_; rintro e2 w2 ⟨rfl, hb2⟩
        go_wp2_with fail
        go_ret3
        exact ⟨rfl, hb2⟩
      | ok y =>
        obtain ⟨x, c⟩ := y
        rw [hq] at GQ
        have Q : ∀ W, Hid (Makes 37 #[.string s, i64 b] W (.tuple #[.string (toB x), i64 c, i64 0])) := fun W => Lib.hid (GQ W)
        clear GB GQ hb hn hq
        go_enter Tryd.func25, Tryd.ntmps25
        go_wp2_with fail
        refine (G _).out.mono ?_; rintro e1 w1 ⟨rfl, rfl⟩
        go_wp2_with fail
        refine (Q _).out.mono ?_; rintro e2 w2 ⟨rfl, hb2⟩
        go_wp2_with fail
        go_ret3
        exact ⟨rfl, hb2⟩
  · rw [if_pos h0]
    have t1 : ((e : Int) == 0) = false := by rw [beq_eq_false_iff_ne]; omega
    clear h0
    go_enter Tryd.func25, Tryd.ntmps25
    go_wp2_with fail
    go_ret3
    exact ⟨rfl, Below.refl _ _⟩

set_option maxHeartbeats 8000000 in
set_option maxRecDepth 100000 in
theorem dNum_any (s : ByteArray) (a e : Nat) (w : World) (hm : s.size ≤ 3000) (ha : a ≤ s.size) (he : e ≤ 5) : Gives 26 #[.string s, i64 a, i64 e] w (dNumV (dNum (sb s) a e)) := by
  unfold dNum
  by_cases h0 : e = 0
  · subst h0
    rw [if_neg (by decide)]
    have GB := fun W => rblank_any s a W hm ha
    cases hn : tNeed (sb s) a 32 with
    | error k =>
      rw [hn] at GB
      have G : ∀ W, Hid (Gives 36 #[.string s, i64 a] W (.tuple #[i64 0, i64 k])) := fun W => Lib.hid (GB W)
      have hk := tNeed_err hn
      have t1 : ((k : Int) == 0) = false := by rw [beq_eq_false_iff_ne]; omega
      clear GB hk hn
      go_enter Tryd.func26, Tryd.ntmps26
      go_wp2_with fail
      refine (G _).out.mono ?_; rintro e1 w1 ⟨rfl, rfl⟩
      go_wp2_with fail
      go_ret3
      exact ⟨rfl, rfl⟩
    | ok b =>
      rw [hn] at GB
      have G : ∀ W, Hid (Gives 36 #[.string s, i64 a] W (.tuple #[i64 b, i64 0])) := fun W => Lib.hid (GB W)
      have hb := tNeed_ok hn
      dsimp only
      rw [sb_len] at hb
      have GQ := fun W => rnumber_any s b W hm (by omega)
      cases hq : tNumber (sb s) b with
      | error k =>
        rw [hq] at GQ
        have Q : ∀ W, Hid (Gives 38 #[.string s, i64 b] W (.tuple #[i64 0, i64 0, i64 k])) := fun W => Lib.hid (GQ W)
        clear GB GQ hb hn hq
        go_enter Tryd.func26, Tryd.ntmps26
        go_wp2_with fail
        refine (G _).out.mono ?_; rintro e1 w1 ⟨rfl, rfl⟩
        go_wp2_with fail
        refine (Q _).out.mono ?_; rintro e2 w2 ⟨rfl, rfl⟩
        go_wp2_with fail
        go_ret3
        exact ⟨rfl, rfl⟩
      | ok y =>
        obtain ⟨x, c⟩ := y
        rw [hq] at GQ
        have Q : ∀ W, Hid (Gives 38 #[.string s, i64 b] W (.tuple #[i64 x, i64 c, i64 0])) := fun W => Lib.hid (GQ W)
        clear GB GQ hb hn hq
        go_enter Tryd.func26, Tryd.ntmps26
        go_wp2_with fail
        refine (G _).out.mono ?_; rintro e1 w1 ⟨rfl, rfl⟩
        go_wp2_with fail
        refine (Q _).out.mono ?_; rintro e2 w2 ⟨rfl, rfl⟩
        go_wp2_with fail
        go_ret3
        exact ⟨rfl, rfl⟩
  · rw [if_pos h0]
    have t1 : ((e : Int) == 0) = false := by rw [beq_eq_false_iff_ne]; omega
    clear h0
    go_enter Tryd.func26, Tryd.ntmps26
    go_wp2_with fail
    go_ret3
    exact ⟨rfl, rfl⟩
end Go.Proofs.YtbjjpplhnibjdaaDoor

/- '[]byte(s)': bytes of its own. -/
namespace Go.Proofs.YtbjjpplhnibjdaaDoor
open Go Go.RowKit

theorem row_at {x : List Nat} (hx : ∀ b ∈ x, b < 256) (c i : Nat) (h : i < x.length) : (bytesRow (toB x) c)[i]? = some (bv (x[i])) := by
  have h1 : i < ((toB x).data.map (fun b => Value.int .u8 b.toNat)).size := by rw [Array.size_map]; unfold toB; simpa using h
  unfold bytesRow
  rw [Array.getElem?_append_left h1, Array.getElem?_map]
  unfold toB
  simp only [List.getElem?_toArray, List.getElem?_map, List.getElem?_eq_getElem h, Option.map_some]
  have hb := hx x[i] (List.getElem_mem h)
  rw [show ((UInt8.ofNat x[i]).toNat : Nat) = x[i] by simp; omega]
theorem conv_bytes (x : List Nat) (hx : ∀ b ∈ x, b < 256) (hl : x.length ≤ 60000) (w : World) :
    ∃ v w', (convert 9 23 (.string (toB x))).run Tryd.prog w = .ok v w' ∧ (∃ A n c, v = .slice A n c) ∧ (∀ W : World, (∀ o, w'.heap[w.heap.size]? = some o → W.heap[w.heap.size]? = some o) → Byt W v x) ∧ Below w.heap.size w w' := by
  have hr := run_bytes_of_string (P := Tryd.prog) w 9 23 5 (toB x) Tryd.underlying9 Tryd.underlying23 Tryd.underlying5
  rw [toB_size] at hr
  have hge := grownCap_ge w x.length 0 5
  have hle := grownCap_le_maxLen w x.length 0 5 (by unfold maxLen; omega)
  generalize grownCap w x.length 0 5 = c at *
  refine ⟨_, _, hr, ⟨_, _, _, rfl⟩, ?_, ?_⟩
  · intro W hW
    have hb := hW _ (blk_new w.drew _)
    refine ⟨some ⟨w.heap.size, 0, none⟩, c, by rw [List.length_map], by rw [List.length_map]; exact hge, hle, fun h => (by cases h), fun _ => ⟨w.heap.size, 0, rfl, ?_, fun i y hi => ?_⟩⟩
    · exact (Array.getElem?_eq_some_iff.1 hb).1
    · rw [List.getElem?_map] at hi
      cases hxi : x[i]? with
      | none => rw [hxi] at hi; cases hi
      | some z =>
        rw [hxi] at hi
        injection hi with hi
        subst hi
        refine ⟨rfl, fun j u hj => ?_⟩
        match j, hj with
        | 0, hj =>
          injection hj with hj
          subst hj
          obtain ⟨h1, h2⟩ := List.getElem?_eq_some_iff.1 hxi
          have := cell_blk hb (0 + i * 1 + 0)
          rw [show 0 + i * 1 + 0 = i by omega] at this ⊢
          rw [row_at hx c i h1, h2] at this
          exact this
        | j + 1, hj => cases hj
  · exact Base.al (Base.dr (Below.refl _ w)) _
theorem dText_fit {l : List Nat} (hl : ∀ b ∈ l, b < 256) (a e : Nat) : (dText l a e).1.length ≤ l.length ∧ ∀ b ∈ (dText l a e).1, b < 256 := by
  unfold dText
  split
  · exact ⟨Nat.zero_le _, by simp⟩
  · split
    · exact ⟨Nat.zero_le _, by simp⟩
    · split
      · exact ⟨Nat.zero_le _, by simp⟩
      · rename_i x c hq
        exact tQuoted_fit hl hq
end Go.Proofs.YtbjjpplhnibjdaaDoor

