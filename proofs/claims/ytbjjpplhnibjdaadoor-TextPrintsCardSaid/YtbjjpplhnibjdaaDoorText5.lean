/- Package text: which fields a line has; an operation. -/
import Derived.Test.YtbjjpplhnibjdaaDoorText4
import Derived.Laws.RangeString
namespace Go.Proofs.YtbjjpplhnibjdaaDoor
open Go Go.RowKit

/-- The fields of a kind's line: p 112, o 111, h 104, f 102, n 110, d 100. -/
def partsL (k : Nat) : List Nat :=
  if k = 4 ∨ k = 5 ∨ k = 6 ∨ k = 13 ∨ k = 14 ∨ k = 15 ∨ k = 16 then [112] else if k = 11 ∨ k = 12 then [112, 111] else if k = 7 then [104] else if k = 8 then [104, 102, 110] else if k = 9 then [104, 102, 100] else if k = 10 then [104, 110] else []
set_option maxHeartbeats 4000000 in
set_option maxRecDepth 100000 in
theorem parts_any (k : Nat) (w : World) (hk : k ≤ 16) : Gives 19 #[bv k] w (.string (toB (partsL k))) := by
  have h : k = 0 ∨ k = 1 ∨ k = 2 ∨ k = 3 ∨ k = 4 ∨ k = 5 ∨ k = 6 ∨ k = 7 ∨ k = 8 ∨ k = 9 ∨ k = 10 ∨ k = 11 ∨ k = 12 ∨ k = 13 ∨ k = 14 ∨ k = 15 ∨ k = 16 := by omega
  rcases h with rfl | rfl | rfl | rfl | rfl | rfl | rfl | rfl | rfl | rfl | rfl | rfl | rfl | rfl | rfl | rfl | rfl
  all_goals
    go_enter Tryd.func19, Tryd.ntmps19
    go_wp2_with fail
    go_ret
    exact ⟨rfl, rfl⟩

theorem ret_i {a b : Int} (h : a = b) : Ending.returned (i64 a) = Ending.returned (i64 b) := by rw [h]
/-- The words of all kinds. -/
def wordsL : List (List Nat) := [[], [98, 101, 103, 105, 110], [99, 111, 109, 109, 105, 116], [97, 98, 111, 114, 116], [99, 114, 101, 97, 116, 101], [109, 107, 100, 105, 114], [111, 112, 101, 110], [99, 108, 111, 115, 101], [114, 101, 97, 100], [119, 114, 105, 116, 101], [116, 114, 117, 110, 99, 97, 116, 101], [114, 101, 110, 97, 109, 101], [108, 105, 110, 107], [117, 110, 108, 105, 110, 107], [114, 109, 100, 105, 114], [114, 101, 97, 100, 100, 105, 114], [115, 116, 97, 116]]
/-- The words in memory: the package's variable. -/
structure WordsIn (w : World) : Prop where
  cell : ∀ i x, wordsL[i]? = some x → w.cell? ⟨0, i, none⟩ = some (.string (toB x))
  size : 0 < w.heap.size
theorem WordsIn.below {w w' : World} (h : WordsIn w) (hb : Below w.heap.size w w') : WordsIn w' :=
  ⟨fun i x hi => (hb.cell (p := ⟨0, i, none⟩) h.size).trans (h.cell i x hi), Nat.lt_of_lt_of_le h.size hb.size⟩
theorem WordsIn.grown {w w' : World} {r : Nat} (h : WordsIn w) (hg : w.grownBy w' (some r)) (hr : r ≠ 0) : WordsIn w' :=
  ⟨fun i x hi => (by
    have := hg.block 0 h.size (fun e => by injection e with e; omega)
    rw [show w'.cell? ⟨0, i, none⟩ = w.cell? ⟨0, i, none⟩ by simp [World.cell?, this]]
    exact h.cell i x hi), Nat.lt_of_lt_of_le h.size hg.size⟩
/-- Which kind's word is it? -/
def wordIdx (l : List Nat) : Option Nat := wordsL.tail.findIdx? (· == l)
def wordI (l : List Nat) : Int := match wordIdx l with | some i => (i : Int) | none => -1
theorem words_ok : ∀ x ∈ wordsL, ∀ b ∈ x, b < 256 := by decide

set_option maxHeartbeats 4000000 in
set_option maxRecDepth 100000 in
theorem index_words (l : List Nat) (hl : ∀ b ∈ l, b < 256) (cap : Nat) (w : World) (hw : WordsIn w) :
    Gives 28 #[.slice (some ⟨0, 1, none⟩) 16 cap, .string (toB l)] w (i64 (wordI l)) := by
  have hcell : ∀ i x, wordsL.tail[i]? = some x → w.cell? ⟨0, 1 + i, none⟩ = some (.string (toB x)) := fun i x hi => hw.cell (1 + i) x (by rw [Nat.add_comm, ← List.getElem?_tail]; exact hi)
  have hlen : wordsL.tail.length = 16 := rfl
  have hmem : ∀ x ∈ wordsL.tail, ∀ b ∈ x, b < 256 := fun x hx => words_ok x (List.mem_of_mem_tail hx)
  unfold wordI wordIdx
  generalize wordsL.tail = L at *
  have HC := Lib.hid hcell
  have HM := Lib.hid hmem
  have HLN := Lib.hid hlen
  clear hcell hmem hlen hw
  obtain ⟨X, hX⟩ : ∃ X, (match L.findIdx? (· == l) with | some i => (i : Int) | none => -1) = X := ⟨_, rfl⟩
  rw [hX]
  have HX := Lib.hid hX
  clear hX
  go_enter Tryd.func28, Tryd.ntmps28
  go_wp2_with fail
  go_loopw [8] (fun iv wr => ∃ i : Nat, iv = .int .i64 i ∧ i ≤ 16 ∧ Hid (∀ x ∈ L.take i, x ≠ l) ∧ wr = w) (fun iv _ => 16 - (intOf iv).toNat)
  case atStart => exact ⟨0, rfl, by omega, Lib.hid (by intro x hx; simp at hx), rfl⟩
  case round =>
    obtain ⟨i, rfl, hi, hno, rfl⟩ := hrel
    by_cases hlt : i < 16
    · obtain ⟨x, hx⟩ : ∃ x, L[i]? = some x := ⟨_, List.getElem?_eq_getElem (by rw [HLN.out]; exact hlt)⟩
      have c0 := HC.out i x hx
      have hq : ((toB l).toList == (toB x).toList) = decide (x = l) := by
        rw [Bool.eq_iff_iff, beq_iff_eq, decide_eq_true_iff]
        refine ⟨fun e => ?_, fun e => by rw [e]⟩
        rw [ByteArray.toList_eq, ByteArray.toList_eq] at e
        have := congrArg sb (ByteArray.ext (Array.toList_inj.1 e))
        rw [sb_toB _ hl, sb_toB _ (HM.out x (List.mem_of_getElem? hx))] at this
        exact this.symm
      by_cases he : x = l
      · have hv : X = (i : Int) := by
          rw [← HX.out]
          have : L.findIdx? (· == l) = some i := by
            obtain ⟨h1, h2⟩ := List.getElem?_eq_some_iff.1 hx
            rw [List.findIdx?_eq_some_iff_getElem]
            refine ⟨h1, by rw [h2, he]; simp, fun j hj => ?_⟩
            have := hno.out L[j] (List.mem_take_iff_getElem.2 ⟨j, by omega, rfl⟩)
            simpa using this
          rw [this]
        rw [decide_eq_true he] at hq
        have HV := Lib.hid hv
        clear hv hx he hno
        go_wp2_with fail
        go_ret
        exact ⟨ret_i HV.out.symm, rfl⟩
      · rw [decide_eq_false he] at hq
        have hno2 : Hid (∀ y ∈ L.take (i + 1), y ≠ l) := Lib.hid (by
          obtain ⟨h1, h2⟩ := List.getElem?_eq_some_iff.1 hx
          intro y hy
          rw [List.take_succ_eq_append_getElem h1, List.mem_append] at hy
          rcases hy with hy | hy
          · exact hno.out y hy
          · rw [List.mem_singleton.1 hy, h2]; exact he)
        clear hx he hno
        go_wp2_with fail
        exact ⟨⟨i + 1, by go_num, by omega, hno2, trivial⟩, by simp [intOf]; omega⟩
    · have hie : i = 16 := by omega
      subst hie
      have hv : X = -1 := by
        rw [← HX.out]
        have : L.findIdx? (· == l) = none := by
          rw [List.findIdx?_eq_none_iff]
          intro y hy
          have := hno.out y (by rw [List.take_of_length_le (by rw [HLN.out]; decide)]; exact hy)
          simpa using this
        rw [this]
      have HV := Lib.hid hv
      clear hv hno
      go_wp2_with fail
      go_ret
      exact ⟨ret_i HV.out.symm, rfl⟩
end Go.Proofs.YtbjjpplhnibjdaaDoor
