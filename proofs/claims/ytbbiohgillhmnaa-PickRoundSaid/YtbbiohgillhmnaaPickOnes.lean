/- PickOnes: which sectors are to be written and erased is the reference's. -/
import Derived.Test.YtbbiohgillhmnaaPickF
import Derived.Test.YtbbiohgillhmnaaRow
import Derived.Test.YtbbiohgillhmnaaOpen
namespace Go.Proofs.Ytbbiohgillhmnaa
open Go.ChangeShapes Go.WideShapes Go.ChangeAt Go.RowKit

/-- How many are blank, the least and the greatest wear, of the first k. -/
def blanks (l : List Info) : Nat → Nat
  | 0 => 0
  | k + 1 => if canBlank (gi l k) then blanks l k + 1 else blanks l k
def lows (l : List Info) : Nat → Int
  | 0 => 0
  | k + 1 => if k = 0 ∨ (gi l k).wear < lows l k then (gi l k).wear else lows l k
def highs (l : List Info) : Nat → Int
  | 0 => 0
  | k + 1 => if k = 0 ∨ (gi l k).wear > highs l k then (gi l k).wear else highs l k

theorem blanks_le (l : List Info) : ∀ k, blanks l k ≤ k
  | 0 => Nat.le_refl _
  | k + 1 => by have := blanks_le l k; unfold blanks; split <;> omega
def PlainOnes (l : List Info) : Prop :=
  isB (leastOf cWear l (idx canBlank 0 l)) (someB (idx canBlank 0 l)) (rb canBlank ltWear l l.length) = true ∧
  isB (eraseIx l) (eraseOk l) (rErase l) = true ∧
  isB (leastOf cWear l (idx onceB 0 l)) (someB (idx onceB 0 l)) (rb onceB ltWear l l.length) = true ∧
  isB (leastOf cAge l (idx canErase 0 l)) (someB (idx canErase 0 l)) (rb canErase ltAge l l.length) = true ∧
  (idx canBlank 0 l).length = blanks l l.length ∧ leadOf l = highs l l.length - lows l l.length ∧ -2199023255552 ≤ highs l l.length - lows l l.length ∧ highs l l.length - lows l l.length ≤ 2199023255552

set_option maxHeartbeats 16000000 in
set_option maxRecDepth 100000 in
theorem pickOnes_makes (A : Option Addr) (n cap : Nat) (l : List Info) (w : World) (h : Infos w (.slice A n cap) l) (hplain : Mild l → PlainOnes l) (hbig : l.length * 8 ≤ 140737488351232) : Makes 12 #[.slice A n cap] w (.bool true) := by
  have hn := h.len
  rw [List.length_map] at hn
  subst hn
  have hm := h.max
  rw [List.length_map] at hm
  unfold maxLen at hm
  have g0 := Lib.hid (great_any A l.length cap l w h)
  have gf := fun W => Lib.hid (fixed11 W)
  cases hg : great l
  · have hmild : Mild l := by
      intro x hx
      unfold great at hg
      rw [Bool.or_eq_false_iff, List.any_eq_false] at hg
      have := hg.1 x hx
      unfold greatOf at this
      simp at this
      omega
    have HPL := Lib.hid (hplain hmild)
    have g1 := fun W hW => Lib.hid (Write_any A l.length cap l W hW hbig)
    have g2 := fun W hW => Lib.hid (Erase_any A l.length cap l hmild W hW hbig)
    have g3 := fun W hW => Lib.hid (AtOnce_any A l.length cap l W hW hbig)
    have g4 := fun W hW => Lib.hid (Oldest_any A l.length cap l W hW hbig)
    have g5 := fun W hW => Lib.hid (Blank_any A l.length cap l W hW hbig)
    have g6 := fun W hW => Lib.hid (Lead_any A l.length cap l hmild W hW)
    have g7 := fun W hW => Lib.hid (rWrite_any A l.length cap l W hW)
    have g8 := fun W hW => Lib.hid (rErase_any A l.length cap l hmild W hW)
    have g9 := fun W hW => Lib.hid (rAtOnce_any A l.length cap l W hW)
    have g10 := fun W hW => Lib.hid (rOldest_any A l.length cap l W hW)
    rw [hg] at g0
    have H := Lib.hid h
    have HM := Lib.hid hmild
    clear hg h hmild hplain
    go_enter Try.func12, Try.ntmps12
    go_wp2_with fail
    refine g0.out.mono ?_; rintro e w1 ⟨rfl, hb⟩
    go_wp2_with fail
    refine (g1 _ (Sl.below H.out hb)).out.mono ?_; rintro e w2 ⟨rfl, hb2⟩
    have hb := Base.tr hb hb2
    go_wp2_with fail
    refine (g2 _ (Sl.below H.out hb)).out.mono ?_; rintro e w3 ⟨rfl, hb3⟩
    have hb := Base.tr hb hb3
    go_wp2_with fail
    refine (g3 _ (Sl.below H.out hb)).out.mono ?_; rintro e w4 ⟨rfl, hb4⟩
    have hb := Base.tr hb hb4
    go_wp2_with fail
    refine (g4 _ (Sl.below H.out hb)).out.mono ?_; rintro e w5 ⟨rfl, hb5⟩
    have hb := Base.tr hb hb5
    go_wp2_with fail
    clear g1 g2 g3 g4 g0 hb2 hb3 hb4 hb5
    go_loopw [11, 12, 13, 41] (fun bl lo hi i wr => ∃ k : Nat, k ≤ l.length ∧ i = i64 (k : Int) ∧ bl = i64 ((blanks l k : Nat) : Int) ∧ lo = i64 (lows l k) ∧ hi = i64 (highs l k) ∧ Below w.heap.size w wr) (fun _ _ _ i _ => l.length - (intOf i).toNat)
    case atStart => exact ⟨0, by omega, rfl, rfl, rfl, rfl, hb⟩
    case round =>
      clear hb
      obtain ⟨k, hk, rfl, rfl, rfl, rfl, hb⟩ := hrel
      by_cases hlt : k < l.length
      · obtain ⟨b, off, rfl, hbs, hc⟩ := gi_cells (Sl.below H.out hb) hlt
        have e0 := hc k hlt 0 _ rfl
        rw [Nat.add_zero] at e0
        have e1 := hc k hlt 1 _ rfl
        have e2 := hc k hlt 2 _ rfl
        have e3 := hc k hlt 3 _ rfl
        have e4 := hc k hlt 4 _ rfl
        have e5 := hc k hlt 5 _ rfl
        have s1 : blanks l (k + 1) = if canBlank (gi l k) then blanks l k + 1 else blanks l k := rfl
        have s2 : lows l (k + 1) = if k = 0 ∨ (gi l k).wear < lows l k then (gi l k).wear else lows l k := rfl
        have s3 : highs l (k + 1) = if k = 0 ∨ (gi l k).wear > highs l k then (gi l k).wear else highs l k := rfl
        have hble := blanks_le l k
        have fin : ∀ (W : World) (bl : Nat) (lo hi : Int), Below w.heap.size w W → bl = blanks l (k + 1) → lo = lows l (k + 1) → hi = highs l (k + 1) → (∃ k' : Nat, k' ≤ l.length ∧ i64 ((k : Int) + 1) = i64 (k' : Int) ∧ i64 (bl : Int) = i64 ((blanks l k' : Nat) : Int) ∧ i64 lo = i64 (lows l k') ∧ i64 hi = i64 (highs l k') ∧ Below w.heap.size w W) := fun W bl lo hi hW h1 h2 h3 => ⟨k + 1, by omega, by push_cast; rfl, by rw [h1], by rw [h2], by rw [h3], hW⟩
        have FIN := Lib.hid fin
        generalize blanks l k = bl at *
        generalize lows l k = lo at *
        generalize highs l k = hi at *
        have S1 := Lib.hid s1
        have S2 := Lib.hid s2
        have S3 := Lib.hid s3
        clear s1 s2 s3 fin hc
        have hbp : IntKind.i64.wrap ((bl : Int) + 1) = ((bl + 1 : Nat) : Int) := by rw [IntKind.wrap_i64]; omega
        obtain ⟨t0, h0⟩ : ∃ t, ((gi l k).cls == 0) = t := ⟨_, rfl⟩
        obtain ⟨t5, h5⟩ : ∃ t, (gi l k).held = t := ⟨_, rfl⟩
        obtain ⟨tk, hk0⟩ : ∃ t, ((k : Int) == 0) = t := ⟨_, rfl⟩
        obtain ⟨tl, hl⟩ : ∃ t, decide ((gi l k).wear < lo) = t := ⟨_, rfl⟩
        obtain ⟨th, hh⟩ : ∃ t, decide (hi < (gi l k).wear) = t := ⟨_, rfl⟩
        have B1 : Hid (blanks l (k + 1) = if t0 && !t5 then bl + 1 else bl) := Lib.hid (by rw [S1.out]; unfold canBlank; rw [← h0, ← h5]; simp)
        have B2 : Hid (lows l (k + 1) = if tk || tl then (gi l k).wear else lo) := Lib.hid (by rw [S2.out, ← hk0, ← hl]; simp)
        have B3 : Hid (highs l (k + 1) = if tk || th then (gi l k).wear else hi) := Lib.hid (by rw [S3.out, ← hk0, ← hh]; simp)
        rw [h5] at e5
        clear S1 S2 S3 h5
        cases t0 <;> cases t5 <;> cases tk
        all_goals
          try (cases tl <;> cases th)
        all_goals
          have b1 := B1.out
          have b2 := B2.out
          have b3 := B3.out
          simp only [Bool.and_true, Bool.and_false, Bool.not_true, Bool.not_false, Bool.or_true, Bool.or_false, if_true, if_false, Bool.false_eq_true] at b1 b2 b3
          have C1 := Lib.hid b1.symm
          have C2 := Lib.hid b2.symm
          have C3 := Lib.hid b3.symm
          clear B1 B2 B3 b1 b2 b3
          go_wp2_with fail
          first | exact ⟨FIN.out _ _ _ _ (by repeat (first | assumption | exact Below.refl _ _ | refine Base.al ?_ _)) C1.out C2.out C3.out, by simp [intOf]; omega⟩ | (go_roundw; (case rel => exact FIN.out _ _ _ _ (by repeat (first | assumption | exact Below.refl _ _ | refine Base.al ?_ _)) C1.out C2.out C3.out); (case measure => simp [intOf]; omega))
      · have hke : k = l.length := by omega
        subst hke
        obtain ⟨p1, p2, p3, p4, p5, p6, p7, p8⟩ := HPL.out
        have i1 := fun W => Lib.hid (is_any _ _ _ W p1)
        have i2 := fun W => Lib.hid (is_any _ _ _ W p2)
        have i3 := fun W => Lib.hid (is_any _ _ _ W p3)
        have i4 := fun W => Lib.hid (is_any _ _ _ W p4)
        have q5 := fun W hW => (g5 W hW).out
        rw [p5] at q5
        have q6 := fun W hW => (g6 W hW).out
        rw [p6] at q6
        have hwr : IntKind.i64.wrap (highs l l.length - lows l l.length) = highs l l.length - lows l l.length := by rw [IntKind.wrap_i64]; omega
        have q5 := fun W hW => Lib.hid (q5 W hW)
        have q6 := fun W hW => Lib.hid (q6 W hW)
        clear p1 p2 p3 p4 p5 p6 p7 p8 g5 g6 hlt hk
        generalize highs l l.length = hi at *
        generalize lows l l.length = lo at *
        go_wp2_with fail
        refine (gf _).out.mono ?_; rintro e v0 ⟨rfl, c0⟩
        have hb := Base.tr hb c0
        clear c0
        go_wp2_with fail
        refine (g7 _ (Sl.below H.out hb)).out.mono ?_; rintro e v1 ⟨rfl, c1⟩
        have hb := Base.tr hb c1
        clear c1
        go_wp2_with fail
        refine (i1 _).out.mono ?_; rintro e v2 ⟨rfl, rfl⟩
        go_wp2_with fail
        refine (g8 _ (Sl.below H.out hb)).out.mono ?_; rintro e v3 ⟨rfl, c3⟩
        have hb := Base.tr hb c3
        clear c3
        go_wp2_with fail
        refine (i2 _).out.mono ?_; rintro e v4 ⟨rfl, rfl⟩
        go_wp2_with fail
        refine (g9 _ (Sl.below H.out hb)).out.mono ?_; rintro e v5 ⟨rfl, c5⟩
        have hb := Base.tr hb c5
        clear c5
        go_wp2_with fail
        refine (i3 _).out.mono ?_; rintro e v6 ⟨rfl, rfl⟩
        go_wp2_with fail
        refine (g10 _ (Sl.below H.out hb)).out.mono ?_; rintro e v7 ⟨rfl, c7⟩
        have hb := Base.tr hb c7
        clear c7
        go_wp2_with fail
        refine (i4 _).out.mono ?_; rintro e v8 ⟨rfl, rfl⟩
        go_wp2_with fail
        refine (q5 _ (Sl.below H.out hb)).out.mono ?_; rintro e v9 ⟨rfl, c9⟩
        have hb := Base.tr hb c9
        clear c9
        go_wp2_with fail
        refine (q6 _ (Sl.below H.out hb)).out.mono ?_; rintro e v10 ⟨rfl, c10⟩
        have hb := Base.tr hb c10
        clear c10
        go_wp2_with fail
        go_ret
        exact ⟨rfl, hb⟩
  · rw [hg] at g0
    go_enter Try.func12, Try.ntmps12
    go_wp2_with fail
    refine g0.out.mono ?_; rintro e w1 ⟨rfl, hb⟩
    go_wp2_with fail
    refine (gf _).out.mono ?_; rintro e w2 ⟨rfl, hb2⟩
    go_wp2_with fail
    go_ret
    exact ⟨rfl, Base.tr hb hb2⟩
end Go.Proofs.Ytbbiohgillhmnaa
