/- The chapter's example of nor. -/
import Derived.Test.YteieaelinkdahaaNorN
namespace Go.Proofs.Yteieaelinkdahaa
open Go.RowKit Flo

theorem far_new {O : Nat → Prop} {w : World} (h : ∀ k, O k → k < w.heap.size) {g : Nat} (hg : w.heap.size ≤ g) (o n c : Nat) : Far O (.slice (some ⟨g, o, none⟩) n c) := by
  intro b off n' c' e ho
  injection e with e
  injection e with e
  injection e with e
  subst e
  have := h _ ho
  omega
theorem part0 : part? 0 = some 0 := by
  have h : near 0 = 0 := by decide
  rw [← h]
  exact part_some (nearest_Whole (n := 0) (by decide))

theorem prog_fresh {N : Nor} {a b k o : Nat} {lb l : List Nat} (hoff : N.off = false) (hlb : lb.length ≠ 0) (ha : part? a = some k) (hb : part? b = some o) (hk : k < N.S) (hin : o + lb.length ≤ N.Z) (hbad : N.bad = []) (hcut : N.cut = none) (hl : N.data[k]? = some l) :
    N.prog a b lb = (0, { N with acts := N.acts + 1, data := N.data.set k (stepRow (fun i m old => pUp (lb.getD i 0) m old) o l lb.length) }) := by
  unfold Nor.prog
  rw [if_neg (by rw [hoff]; decide), if_neg hlb, within_yes ha hb, if_neg (by simp; omega), ha, hb]
  have hb2 : N.isBad ((some k).getD 0) = false := by unfold Nor.isBad; rw [hbad]; rfl
  rw [if_neg (by rw [hb2]; decide)]
  unfold Nor.act
  rw [hcut]
  have : N.data.getD ((some k).getD 0) [] = l := by rw [List.getD_eq_getElem?_getD]; show (N.data[k]?).getD [] = l; rw [hl]; rfl
  rw [this]
  rfl

/-- As the example stands between its acts. -/
structure Ex (N : Nor) (row : List Nat) (n : Nat) : Prop where
  off : N.off = false
  S : N.S = 6
  Z : N.Z = 512
  bad : N.bad = []
  cut : N.cut = none
  data : N.data[0]? = some row
  acts : N.acts = n
  offs : N.offs = 0
theorem Ex.prog {N : Nor} {row : List Nat} {n : Nat} (h : Ex N row n) (x : Nat) : ∃ N', N.prog 0 4613937818241073152 [x] = (0, N') ∧ ptrD N' = ptrD N ∧ Ex N' (row.set 3 (pUp x 255 (row.getD 3 0))) (n + 1) := by
  have hp3 : part? 4613937818241073152 = some 3 := by rw [← near3]; exact part3
  have hp := prog_fresh (N := N) (lb := [x]) (l := row) h.off (by simp) part0 hp3 (by rw [h.S]; decide) (by rw [h.Z]; simp) h.bad h.cut h.data
  refine ⟨_, hp, rfl, ⟨h.off, h.S, h.Z, h.bad, h.cut, ?_, by show N.acts + 1 = _; rw [h.acts], h.offs⟩⟩
  have h0 : 0 < N.data.length := (List.getElem?_eq_some_iff.1 h.data).1
  show (N.data.set 0 _)[0]? = _
  rw [List.getElem?_set_self h0]
  rfl
theorem Ex.got {N : Nor} {row : List Nat} {n x : Nat} (h : Ex N row n) (hx : row[3]? = some x) : N.got 0 4613937818241073152 1 = ([x], 0) := by
  unfold Nor.got
  rw [if_neg (by rw [h.off]; decide), within_yes part0 (by rw [← near3]; exact part3), if_pos (by rw [h.S, h.Z]; decide), part0, show part? 4613937818241073152 = some 3 by rw [← near3]; exact part3]
  show (((N.data.getD 0 []).drop 3).take 1, 0) = _
  have : N.data.getD 0 [] = row := by rw [List.getD_eq_getElem?_getD, h.data]; rfl
  rw [this, List.drop_eq_getElem_cons (List.getElem?_eq_some_iff.1 hx).1]
  rw [(List.getElem?_eq_some_iff.1 hx).2]
  rfl

set_option maxHeartbeats 8000000 in
set_option maxRecDepth 100000 in
theorem fixed4_any (w : World) : Makes 9 #[] w (.bool true) := by
  have G0 := fun W => Lib.hid (new_any 6 512 W (by decide))
  go_enter Try.func9, Try.ntmps9
  go_wp2_with fail
  refine (G0 _).out.mono ?_; rintro e x1 ⟨N, O, rfl, hd1, hO, hf, hb1⟩
  have hx0 : Ex N (List.replicate 512 255) 0 := ⟨hf.off, hf.S, hf.Z, hf.bad, hf.cut, by rw [hf.data]; rfl, hf.acts, hf.offs⟩
  obtain ⟨N1, hp1, hq1, hx1⟩ := hx0.prog 51
  obtain ⟨N2, hp2, hq2, hx2⟩ := hx1.prog 15
  have hg := hx2.got (x := 3) (by decide)
  have P1 := Lib.hid (prog_any (hd1.al (.cells #[.int .u8 51] 5)) (by rw [hx0.acts]; omega) (by rw [hx0.offs]; omega) (by intro c hc; rw [hx0.cut] at hc; cases hc) 0 4613937818241073152 (some ⟨x1.heap.size, 0, none⟩) 1 1 [51] (Byt.fresh (l := [51]) (blk_new x1 _) (by decide)) (by simp) (far_new hd1.lim (Nat.le_refl _) _ _ _) (by simp))
  rw [hp1] at P1
  have bA : Below w.heap.size w (x1.alloc (.cells #[.int .u8 51] 5)) := Base.al hb1 _
  have HX := Lib.hid (And.intro hx1 hx2)
  have HP2 := Lib.hid hp2
  have HG := Lib.hid hg
  clear hx0 hx1 hx2 hp1 hp2 hg hf
  go_wp2_with fail
  refine P1.out.mono ?_; rintro e x2 ⟨rfl, hd2, ho2⟩
  have b2 : Below w.heap.size w x2 := bA.trans ((ho2.base hO bA.size).mono (Nat.le_refl _))
  have P2 := Lib.hid (prog_any (hd2.al (.cells #[.int .u8 15] 5)) (by rw [HX.out.1.acts]; omega) (by rw [HX.out.1.offs]; omega) (by intro c hc; rw [HX.out.1.cut] at hc; cases hc) 0 4613937818241073152 (some ⟨x2.heap.size, 0, none⟩) 1 1 [15] (Byt.fresh (l := [15]) (blk_new x2 _) (by decide)) (by simp) (far_new hd2.lim (Nat.le_refl _) _ _ _) (by simp))
  rw [HP2.out, hq1] at P2
  clear P1
  go_wp2_with fail
  refine P2.out.mono ?_; rintro e x3 ⟨rfl, hd3, ho3⟩
  have bB : Below w.heap.size w (x2.alloc (.cells #[.int .u8 15] 5)) := Base.al b2 _
  have b3 : Below w.heap.size w x3 := bB.trans ((ho3.base hO bB.size).mono (Nat.le_refl _))
  have R3 := Lib.hid (read_any hd3 0 4613937818241073152 1)
  rw [HG.out, hq2, hq1] at R3
  clear P2
  go_wp2_with fail
  refine R3.out.mono ?_; rintro e x4 ⟨v, rfl, hown, hb4⟩
  obtain ⟨g, cap, cur, rfl, hbg, hgg, hnc, hcm, hcs, htake⟩ : ∃ g cap cur, v = .slice (some ⟨g, 0, none⟩) 1 cap ∧ x3.heap.size ≤ g ∧ x4.heap[g]? = some (.cells cur 5 (0, 0)) ∧ 1 ≤ cap ∧ cap ≤ maxLen ∧ cur.size = cap * 1 ∧ cur.toList.take (1 * 1) = [bv 3] := by
    rcases hown.2 with ⟨_, h0⟩ | h0
    · cases h0
    · exact h0
  have c0 : x4.cell? ⟨g, 0, none⟩ = some (bv 3) := by
    rw [cell_blk hgg, ← Array.getElem?_toList, show cur.toList[0]? = (cur.toList.take 1)[0]? by rw [List.getElem?_take_of_lt (by decide)], show (1 : Nat) = 1 * 1 from rfl, htake]
    rfl
  clear R3 hgg hcs htake hown
  go_wp2_with fail
  go_ret
  exact ⟨rfl, Base.tr b3 hb4⟩
end Go.Proofs.Yteieaelinkdahaa
