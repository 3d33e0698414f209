/- ScanBytes: what is found in any bytes is the document's. -/
import Derived.Test.YteieaelinkdahaaDoorScanF
import Derived.Test.YteieaelinkdahaaDoorScan2
import Derived.Test.YteieaelinkdahaaDoorItemEq
import Derived.Test.YteieaelinkdahaaDoorScanQ
import Derived.Laws.StructEq
namespace Go.Proofs.YteieaelinkdahaaDoor
open Go Go.RowKit Flo

theorem rscanOf_any (s z : Int) (k : Nat) (A : Option Addr) (n cap : Nat) (l : List Nat) (w : World) (h : Byt w (.slice A n cap) l) (hl : ∀ b ∈ l, b < 256) (hm : l.length ≤ 100000) (hk : k ≤ 2147483647) :
    Calls Tryd.prog 8 #[geo s z, i64 k, .slice A n cap] w (ScanPost w (scanB s z k l)) := by
  have hn := h.len
  rw [List.length_map] at hn
  subst hn
  unfold scanB
  rcases classB_cases s z l with hc | hc | hc
  · rw [if_neg (by omega), hc]
    exact rscanOf_no s z k A cap l w h hl hm 0 hc (.inl rfl)
  · rw [if_pos hc]
    exact rscanOf_yes s z k A cap l w h hl hk hc
  · rw [if_neg (by omega), hc]
    exact rscanOf_no s z k A cap l w h hl hm 2 hc (.inr rfl)

theorem self_mk {s a : Nat} (z : Int) (b : Bool) (it : Item) (hs : s ≤ 2147483647) (ha : a ≤ 2147483647) (hi : itemEq it it = true) : selfB ⟨near s, near a, z, b, it⟩ = true := by
  unfold selfB
  rw [Bool.and_eq_true]
  exact ⟨cxEq_self (part_some (nearest_Whole hs)) (part_some (nearest_Whole ha)), hi⟩
theorem oneAt_self {s a : Nat} (l : List Nat) (hs : s ≤ 2147483647) (ha : a ≤ 2147483647) : selfB (oneAt s l a) = true := by
  unfold oneAt
  exact self_mk _ _ _ hs ha (gotI_self _)
theorem scanN_self {s : Nat} {l : List Nat} (hs : s ≤ 2147483647) (hl : l.length ≤ 2147483647) : ∀ (k a : Nat) (fs : List Found), a ≤ 2147483647 → (∀ f ∈ fs, selfB f = true) → ∀ f ∈ (scanN s l k a fs).2, selfB f = true
  | 0, _, _, _, h => h
  | k + 1, a, fs, ha, h => by
    have hen : (recClass l a).2.2 ≤ 2147483647 := by
      rcases recClass_cases l a with e | e | ⟨-, -, e, -⟩
      · rw [e]; decide
      · rw [e]; decide
      · omega
    unfold scanN
    split
    · exact scanN_self hs hl k _ _ hen h
    · split
      · refine scanN_self hs hl k _ _ hen fun f hf => ?_
        rcases List.mem_append.1 hf with hf | hf
        · exact h f hf
        · rw [List.mem_singleton.1 hf]; exact oneAt_self l hs ha
      · exact h
theorem scanB_self (s z : Int) {k : Nat} {l : List Nat} (hk : k ≤ 2147483647) (hl : l.length ≤ 2147483647) : ∀ f ∈ (scanB s z k l).found, selfB f = true := by
  unfold scanB
  split
  · exact scanN_self hk hl _ _ _ (by decide) (by intro f hf; cases hf)
  · intro f hf; cases hf

theorem scanN_len (s : Nat) (l : List Nat) : ∀ (k a : Nat) (fs : List Found), (scanN s l k a fs).2.length ≤ fs.length + k
  | 0, _, _ => Nat.le_refl _
  | k + 1, a, fs => by
    unfold scanN
    split
    · have := scanN_len s l k (recClass l a).2.2 fs; omega
    · split
      · have := scanN_len s l k (recClass l a).2.2 (fs ++ [oneAt s l a])
        rw [List.length_append, List.length_singleton] at this
        omega
      · show fs.length ≤ fs.length + (k + 1); omega
theorem scanB_len (s z : Int) (k : Nat) (l : List Nat) : (scanB s z k l).found.length ≤ l.length + 1 := by
  unfold scanB
  split
  · have := scanN_len k l (l.length + 1) 8 []
    simpa using this
  · exact Nat.zero_le _

theorem founds_of {w : World} {base : Nat} {v : Value} {l : List Found} (h : w.ownsRow base 50 11 v l.length (l.flatMap Found.row)) : Founds w v l :=
  Sl.own _ (by intro y hy; obtain ⟨q, _, rfl⟩ := List.mem_map.1 hy; rfl) (by
    rw [List.flatMap_def] at h; rw [List.length_map]; exact h)

abbrev secV (R : Scan) (v : Value) : Value := .agg #[i64 R.cls, i64 R.stop, .bool R.full, v]
set_option maxHeartbeats 1000000 in
set_option maxRecDepth 100000 in
theorem lawOf_any (R : Scan) (A : Option Addr) (n c : Nat) (w : World) : Makes 6 #[secV R (.slice A n c)] w (secV R (.slice A n c)) := by
  go_enter Tryd.func6, Tryd.ntmps6
  go_wp2_with fail
  exact bodyPost_ret (v := secV R (.slice A n c)) (by simp [results, Tryd.results6, go_sem]) rfl ⟨rfl, by repeat (first | exact Below.refl _ _ | refine Base.al ?_ _)⟩

set_option maxHeartbeats 2000000 in
set_option maxRecDepth 100000 in
theorem sameSector_any (R : Scan) (A B : Option Addr) (n m c d : Nat) (w : World) (h1 : Founds w (.slice A n c) R.found) (h2 : Founds w (.slice B m d) R.found) (hs : ∀ f ∈ R.found, selfB f = true) (hm : R.found.length ≤ 60000) :
    Makes 5 #[secV R (.slice A n c), secV R (.slice B m d)] w (.bool true) := by
  have HS := fun W hB => Lib.hid (same_any A B n m c d R.found W (Sl.below (w' := W) h1 hB) (Sl.below h2 hB) hs hm)
  clear h1 h2 hs hm
  go_enter Tryd.func5, Tryd.ntmps5
  go_wp2_with fail
  refine (HS _ (Base.al (Base.al (Below.refl _ _) _) _)).out.mono ?_; rintro e1 x1 ⟨rfl, hb1⟩
  go_wp2_with fail
  go_ret
  exact ⟨rfl, Base.tr (Base.al (Base.al (Below.refl _ _) _) _) hb1⟩

set_option maxHeartbeats 4000000 in
set_option maxRecDepth 100000 in
theorem scanBytes_makes (s z : Int) (A : Option Addr) (n cap : Nat) (l : List Nat) (w : World) (h : Byt w (.slice A n cap) l) (hl : ∀ b ∈ l, b < 256) (g0 : w.cell? ⟨0, 0, none⟩ = some (i64 6)) (g1 : w.cell? ⟨0, 1, none⟩ = some (i64 512)) (hg : 0 < w.heap.size) :
    Makes 3 #[geo s z, .slice A n cap] w (.bool true) := by
  have hn := h.len
  rw [List.length_map] at hn
  subst hn
  have HF := fun W (hb : Below w.heap.size w W) => Lib.hid (fixed8 W ((hb.cell (p := ⟨0, 0, none⟩) hg).trans g0) ((hb.cell (p := ⟨0, 1, none⟩) hg).trans g1) (Nat.lt_of_lt_of_le hg hb.size))
  by_cases hm : 5000 < l.length
  · have t1 : decide ((5000 : Int) < (l.length : Int)) = true := decide_eq_true (by omega)
    clear h hm hl
    go_enter Tryd.func3, Tryd.ntmps3
    go_wp2_with fail
    refine (HF _ (Base.al (Below.refl _ _) _)).out.mono ?_; rintro e1 x1 ⟨rfl, hb1⟩
    go_wp2_with fail
    go_ret
    exact ⟨rfl, Base.tr (Base.al (Below.refl _ _) _) hb1⟩
  · have t1 : decide ((5000 : Int) < (l.length : Int)) = false := decide_eq_false (by omega)
    have HS := fun W hB => Lib.hid (scanOf_any s z 0 A l.length cap l W (Sl.below (w' := W) h hB) hl (by omega) (by omega))
    have HR := fun W hB => Lib.hid (rscanOf_any s z 0 A l.length cap l W (Sl.below (w' := W) h hB) hl (by omega) (by omega))
    have hself := scanB_self s z (k := 0) (l := l) (by omega) (by omega)
    have hlen := scanB_len s z 0 l
    have hlen : (scanB s z 0 l).found.length ≤ 60000 := by omega
    obtain ⟨R, hR⟩ : ∃ R, scanB s z 0 l = R := ⟨_, rfl⟩
    rw [hR] at HS HR hself hlen
    have HLE := Lib.hid hlen
    have HSE := Lib.hid hself
    clear hR h hm hl hself hlen
    go_enter Tryd.func3, Tryd.ntmps3
    go_wp2_with fail
    have k0 := fun p : OnOf (w.alloc (.cells #[i64 s, i64 z] 23)) => on_cell (by simp) (cell_blk (blk_new w (.cells #[i64 s, i64 z] 23)) 0) p
    have k1 := fun p : OnOf (w.alloc (.cells #[i64 s, i64 z] 23)) => on_cell (by simp) (cell_blk (blk_new w (.cells #[i64 s, i64 z] 23)) 1) p
    have hb0 := Base.al (Below.refl _ w) (.cells #[i64 s, i64 z] 23)
    generalize w.alloc (.cells #[i64 s, i64 z] 23) = x0 at *
    refine wp_region_po (fun w' => ∃ p : OnOf x0, w' = p.v) 12 [0, 4, 5, 8, 9] (by kernel_rfl) (by kernel_rfl) ⟨⟨_, Base.dr (Below.refl _ _)⟩, rfl⟩ ?_
    simp only [List.take_succ_cons, List.take_zero, List.drop_succ_cons, List.drop_zero]
    have on0 := @on_rd0; have on1 := @on_rd1; have on2 := @on_rd2; have on3 := @on_new1; have on4 := @on_new2; have on5 := @gr_rd0
    refine seq_eff (by rfl) (by first | rfl | go_simp) ?_
    intro K hK
    unfold effAt2
    go_simp
    refine ⟨rfl, (HF _ (Base.dr hb0)).out.mono ?_⟩; rintro e1 x1 ⟨rfl, hb1⟩
    have hc1 := Base.tr (Base.dr (Below.refl x0.heap.size x0)) hb1
    refine ⟨_, rfl, ⟨⟨_, hc1⟩, rfl⟩, hK _ _ ?_⟩
    clear hK K
    repeat ((with_reducible refine seq_read ?_ ?_); (focus rfl); (intro K hK); (unfold readsAt); go_simp; first | ((with_reducible refine hK _ ?_); clear hK K) | (rw [if_neg (by intro h; cases h)]; (with_reducible refine hK _ ?_); clear hK K))
    refine seq_eff (by rfl) (by first | rfl | go_simp) ?_
    intro K hK
    unfold effAt2
    go_simp
    refine ⟨rfl, (HS _ (Base.tr hb0 hc1)).out.mono ?_⟩; rintro e2 x2 ⟨v2, rfl, hown2, hb2⟩
    obtain ⟨A2, c2, rfl⟩ := own_valn hown2
    have hF2 := founds_of hown2
    have hc2 := Base.tr hc1 hb2
    refine ⟨_, rfl, ⟨⟨_, hc2⟩, rfl⟩, hK _ _ ?_⟩
    clear hK K
    repeat ((with_reducible refine seq_read ?_ ?_); (focus rfl); (intro K hK); (unfold readsAt); go_simp; first | ((with_reducible refine hK _ ?_); clear hK K) | (rw [if_neg (by intro h; cases h)]; (with_reducible refine hK _ ?_); clear hK K))
    refine seq_eff (by rfl) (by first | rfl | go_simp) ?_
    intro K hK
    unfold effAt2
    go_simp
    refine ⟨rfl, (lawOf_any R A2 _ c2 _).mono ?_⟩; rintro e3 x3 ⟨rfl, hb3⟩
    have hc3 := Base.tr hc2 hb3
    have hF3 := Sl.below hF2 hb3
    refine ⟨_, rfl, ⟨⟨_, hc3⟩, rfl⟩, hK _ _ ?_⟩
    clear hK K
    repeat ((with_reducible refine seq_read ?_ ?_); (focus rfl); (intro K hK); (unfold readsAt); go_simp; first | ((with_reducible refine hK _ ?_); clear hK K) | (rw [if_neg (by intro h; cases h)]; (with_reducible refine hK _ ?_); clear hK K))
    refine seq_eff (by rfl) (by first | rfl | go_simp) ?_
    intro K hK
    unfold effAt2
    go_simp
    refine ⟨rfl, (HR _ (Base.tr hb0 hc3)).out.mono ?_⟩; rintro e4 x4 ⟨v4, rfl, hown4, hb4⟩
    obtain ⟨A4, c4, rfl⟩ := own_valn hown4
    have hF4 := founds_of hown4
    have hc4 := Base.tr hc3 hb4
    have hG4 := Sl.below hF3 hb4
    refine ⟨_, rfl, ⟨⟨_, hc4⟩, rfl⟩, hK _ _ ?_⟩
    clear hK K
    repeat ((with_reducible refine seq_read ?_ ?_); (focus rfl); (intro K hK); (unfold readsAt); go_simp; first | ((with_reducible refine hK _ ?_); clear hK K) | (rw [if_neg (by intro h; cases h)]; (with_reducible refine hK _ ?_); clear hK K))
    refine seq_eff (by rfl) (by first | rfl | go_simp) ?_
    intro K hK
    unfold effAt2
    go_simp
    refine ⟨rfl, (sameSector_any R A2 A4 _ _ c2 c4 _ hG4 hF4 HSE.out HLE.out).mono ?_⟩; rintro e5 x5 ⟨rfl, hb5⟩
    have hc5 := Base.tr hc4 hb5
    refine ⟨_, rfl, ⟨⟨_, hc5⟩, rfl⟩, hK _ _ ?_⟩
    clear hK K
    repeat ((with_reducible refine seq_read ?_ ?_); (focus rfl); (intro K hK); (unfold readsAt); go_simp; first | ((with_reducible refine hK _ ?_); clear hK K) | (rw [if_neg (by intro h; cases h)]; (with_reducible refine hK _ ?_); clear hK K))
    clear on0 on1 on2 on3 on4 on5
    with_reducible refine seq_nil ?_
    go_wp2_with fail
    go_ret
    exact ⟨rfl, Base.tr hb0 hc5⟩
end Go.Proofs.YteieaelinkdahaaDoor
