/- flintlaw26.fixed: the chapter's example; a long line. -/
import Derived.Test.YtbjjpplhnibjdaaDoorText8
namespace Go.Proofs.YtbjjpplhnibjdaaDoor
open Go Go.RowKit

set_option maxHeartbeats 2000000 in
set_option maxRecDepth 100000 in
theorem word_any (k : Nat) (hk : k ≤ 16) (x : List Nat) (hx : wordsL[k]? = some x) (w : World) (hw : WordsIn w) : Gives 11 #[bv k] w (.string (toB x)) := by
  have c0 := hw.cell k x hx
  have t1 : decide ((17 : Int) ≤ (k : Int)) = false := decide_eq_false (by omega)
  have hk17 : (k : Int) < 17 := by omega
  have kw : IntKind.i64.wrap (k : Int) = (k : Int) := by rw [IntKind.wrap_i64]; omega
  clear hx
  go_enter Tryd.func11, Tryd.ntmps11
  go_wp2_with fail
  go_ret
  exact ⟨rfl, rfl⟩

abbrev fixS : ByteArray := { data := #[119, 114, 105, 116, 101, 32, 48, 32, 51, 32, 34, 97, 37, 48, 48, 34] }
theorem fix_parse : tParse (sb fixS) = .ok ⟨9, [], [], 0, 3, 0, [97, 0]⟩ := by kernel_rfl

set_option maxHeartbeats 4000000 in
set_option maxRecDepth 100000 in
theorem fixed26 (w : World) (hw : WordsIn w) : Makes 7 #[] w (.bool true) := by
  have GP := Lib.hid (parse_any fixS w hw (by decide))
  rw [fix_parse] at GP
  have GW := fun W hW => Lib.hid (word_any 16 (by decide) [115, 116, 97, 116] rfl W hW)
  have hq1 : ((toB [97, 0]).toList == [97, 0]) = true := by rw [beq_iff_eq, ByteArray.toList_eq]; rfl
  have hq2 : ((toB [115, 116, 97, 116]).toList == [115, 116, 97, 116]) = true := by rw [beq_iff_eq, ByteArray.toList_eq]; rfl
  go_enter Tryd.func7, Tryd.ntmps7
  go_wp2_with fail
  refine GP.out.mono ?_; rintro e1 w1 ⟨v, rfl, hown, hb1⟩
  obtain ⟨A, c, rfl⟩ := own_val3 hown
  have hcv : (convert 23 9 (.slice A 2 c)).run Tryd.prog (w1.alloc (.cells #[.int .u8 9, .string (toB []), .string (toB []), .int .i64 0, .int .i64 3, .int .i64 0, .slice A 2 c] 25)) = .ok (.string (toB [97, 0])) (w1.alloc (.cells #[.int .u8 9, .string (toB []), .string (toB []), .int .i64 0, .int .i64 3, .int .i64 0, .slice A 2 c] 25)) := conv_any (Sl.below (own_Byt (l := [97, 0]) hown) (Base.al (Below.refl _ w1) _))
  have hw2 := hw.below (Base.al hb1 (.cells #[.int .u8 9, .string (toB []), .string (toB []), .int .i64 0, .int .i64 3, .int .i64 0, .slice A 2 c] 25))
  simp only [OpT.cells]
  go_wp2_with fail
  refine (GW _ hw2).out.mono ?_; rintro e2 w2 ⟨rfl, rfl⟩
  go_wp2_with fail
  go_ret
  exact ⟨rfl, Base.al hb1 _⟩

/-- A line 'stat "aa..a"'. -/
def longL (m : Nat) : List Nat := [115, 116, 97, 116, 32, 34] ++ List.replicate m 97 ++ [34]
theorem longL_len (m : Nat) : (longL m).length = m + 7 := by unfold longL; simp
theorem long_quoted (m : Nat) : ∀ (k j : Nat), j ≤ m → m - j < k → quotedGo (longL m) k (6 + j) (List.replicate j 97) = .ok (List.replicate m 97, m + 7)
  | 0, _, _, h => by omega
  | k + 1, j, hj, hk => by
    rw [quotedGo, longL_len, if_pos (by omega)]
    by_cases hjm : j = m
    · subst hjm
      have hx : (longL j).getD (6 + j) 0 = 34 := by
        unfold longL
        have hix : 6 + j - (([115, 116, 97, 116, 32, 34] ++ List.replicate j 97 : List Nat)).length = 0 := by simp; omega
        rw [List.getD_eq_getElem?_getD, List.getElem?_append_right (by simp; omega), hix]
        rfl
      rw [hx, if_pos rfl, show 6 + j + 1 = j + 7 by omega]
    · have hx : (longL m).getD (6 + j) 0 = 97 := by
        unfold longL
        rw [List.getD_eq_getElem?_getD, List.getElem?_append_left (by simp; omega), List.getElem?_append_right (by simp), show 6 + j - ([115, 116, 97, 116, 32, 34] : List Nat).length = j by simp, List.getElem?_replicate, if_pos (by omega)]
        rfl
      rw [hx, if_neg (by decide), if_neg (by decide), if_pos (by decide), ← List.replicate_succ', show 6 + j + 1 = 6 + (j + 1) by omega]
      exact long_quoted m k (j + 1) (by omega) (by omega)
theorem long_op (m : Nat) : tOp (longL m) = .ok ⟨16, List.replicate m 97, [], 0, 0, 0, []⟩ := by
  have hr : runL 97 122 (longL m) 0 = [115, 116, 97, 116] := by
    unfold runL longL
    rfl
  have hn : runN 97 122 (longL m) = 4 := by unfold longL; rfl
  have hw : wordIdx [115, 116, 97, 116] = some 15 := by rfl
  unfold tOp
  rw [hr, hn, hw]
  have h4 : tNeed (longL m) 4 32 = .ok 5 := by unfold tNeed; rw [longL_len, if_pos (by omega)]; rfl
  have h5 : tNeed (longL m) 5 34 = .ok 6 := by unfold tNeed; rw [longL_len, if_pos (by omega)]; rfl
  have hq : tQuoted (longL m) 5 = .ok (List.replicate m 97, m + 7) := by
    unfold tQuoted
    rw [h5]
    exact long_quoted m _ 0 (Nat.zero_le _) (by rw [longL_len]; omega)
  show opEnd (longL m) (tParts (longL m) [112] (zeroT 16) 4) = _
  rw [tParts, tPart_112 h4 hq]
  show opEnd (longL m) (.ok ({ zeroT 16 with path := List.replicate m 97 }, m + 7)) = _
  rw [opEnd, longL_len, if_neg (by omega)]
  rfl
end Go.Proofs.YtbjjpplhnibjdaaDoor
