/- Sums of bytes. -/
import Derived.Test.YthiimpleljaimaaGreatDoorMg1
import Derived.Test.YthiimpleljaimaaGreatDoorMg5
import Derived.Test.YthiimpleljaimaaGreatDoorMg10
import Derived.WalkMore
import Derived.ScopeJumps
namespace Go.Proofs.YthiimpleljaimaaGreatDoor
open Go.RowKit

/-- One byte more: the low part and the high one, not yet cut down. -/
def aStep (s : Nat × Nat) (c : Nat) : Nat × Nat := (s.1 + c, s.2 + (s.1 + c))
def aSum (s : Nat × Nat) (l : List Nat) : Nat × Nat := l.foldl aStep s
def cutDown (s : Nat × Nat) : Nat × Nat := (s.1 % 65521, s.2 % 65521)
/-- A sum's number. -/
def sumNum (s : Nat × Nat) : Nat := 65536 * s.2 + s.1
def adler (s : Nat × Nat) (l : List Nat) : Nat × Nat := cutDown (aSum s l)
theorem aSum_snoc (s : Nat × Nat) (l : List Nat) (c : Nat) : aSum s (l ++ [c]) = aStep (aSum s l) c := by unfold aSum; rw [List.foldl_append]; rfl
theorem aSum_le : ∀ (l : List Nat) (s : Nat × Nat), (∀ b ∈ l, b < 256) → (aSum s l).1 ≤ s.1 + 255 * l.length ∧ 2 * (aSum s l).2 ≤ 2 * s.2 + 2 * (l.length * s.1) + 255 * (l.length * l.length + l.length)
  | [], s, _ => by simp [aSum]
  | c :: l, s, h => by
    have hc := h c (by simp)
    obtain ⟨h1, h2⟩ := aSum_le l (aStep s c) (fun b hb => h b (List.mem_cons_of_mem _ hb))
    have e : aSum s (c :: l) = aSum (aStep s c) l := rfl
    rw [e]
    simp only [aStep, List.length_cons] at h1 h2 ⊢
    refine ⟨by omega, Nat.le_trans h2 ?_⟩
    have k := Nat.mul_le_mul_left l.length (by omega : c ≤ 255)
    have e1 : l.length * (s.1 + c) = l.length * s.1 + l.length * c := Nat.mul_add _ _ _
    have e2 : (l.length + 1) * s.1 = l.length * s.1 + s.1 := by rw [Nat.add_mul, Nat.one_mul]
    have e3 : (l.length + 1) * (l.length + 1) = l.length * l.length + 2 * l.length + 1 := by
      rw [Nat.add_mul, Nat.mul_add]; omega
    rw [e1, e2, e3]
    generalize l.length * s.1 = p at *
    generalize l.length * c = q at *
    generalize l.length * l.length = r at *
    omega
theorem aSum_small {l : List Nat} {s : Nat × Nat} (h : ∀ b ∈ l, b < 256) (h1 : s.1 < 65521) (h2 : s.2 < 65521) (hm : l.length ≤ 5000) : (aSum s l).1 < 2 ^ 32 ∧ (aSum s l).2 < 2 ^ 32 := by
  obtain ⟨k1, k2⟩ := aSum_le l s h
  have e1 := Nat.mul_le_mul hm (by omega : s.1 ≤ 65520)
  have e2 := Nat.mul_le_mul hm hm
  generalize l.length * s.1 = p at *
  generalize l.length * l.length = r at *
  omega
/-- The same byte by byte, cut down each time. -/
def rStep (s : Nat × Nat) (c : Nat) : Nat × Nat := ((s.1 + c) % 65521, (s.2 + (s.1 + c) % 65521) % 65521)
def rSum (s : Nat × Nat) (l : List Nat) : Nat × Nat := l.foldl rStep s
theorem rSum_snoc (s : Nat × Nat) (l : List Nat) (c : Nat) : rSum s (l ++ [c]) = rStep (rSum s l) c := by unfold rSum; rw [List.foldl_append]; rfl
theorem rStep_cut (s : Nat × Nat) (c : Nat) : rStep (cutDown s) c = cutDown (aStep s c) := by
  unfold rStep cutDown aStep
  simp only
  congr 1 <;> omega
theorem rSum_cut : ∀ (l : List Nat) (s : Nat × Nat), rSum (cutDown s) l = cutDown (aSum s l)
  | [], _ => rfl
  | c :: l, s => by
    show rSum (rStep (cutDown s) c) l = cutDown (aSum (aStep s c) l)
    rw [rStep_cut, rSum_cut l]
theorem cutDown_self {s : Nat × Nat} (h1 : s.1 < 65521) (h2 : s.2 < 65521) : cutDown s = s := by
  unfold cutDown
  rw [Nat.mod_eq_of_lt h1, Nat.mod_eq_of_lt h2]
theorem rSum_adler {s : Nat × Nat} (h1 : s.1 < 65521) (h2 : s.2 < 65521) (l : List Nat) : rSum s l = adler s l := by
  unfold adler
  rw [← rSum_cut, cutDown_self h1 h2]
theorem adler_lt (s : Nat × Nat) (l : List Nat) : (adler s l).1 < 65521 ∧ (adler s l).2 < 65521 := ⟨Nat.mod_lt _ (by decide), Nat.mod_lt _ (by decide)⟩
theorem adler_more (s : Nat × Nat) (l m : List Nat) : adler (adler s l) m = adler s (l ++ m) := by
  have h := adler_lt s l
  rw [← rSum_adler h.1 h.2]
  unfold adler
  rw [rSum_cut]
  unfold aSum
  rw [List.foldl_append]
/-- The sum of bytes. -/
def sumB (l : List Nat) : Nat := sumNum (adler (1, 0) l)
end Go.Proofs.YthiimpleljaimaaGreatDoor

/- sum.Sum, sum.More, and the reference's. -/
namespace Go.Proofs.YthiimpleljaimaaGreatDoor
open Go.RowKit

theorem wraps_u32 (n : Int) (h0 : 0 ≤ n) (h1 : n < 2 ^ 32) : IntKind.u32.wrap n = n := by rw [IntKind.wrap_u32]; omega

set_option maxHeartbeats 4000000 in
set_option maxRecDepth 100000 in
theorem sumParts_any (hi lo : Nat) (w : World) (h1 : hi < 65521) (h2 : lo < 65521) : Gives 166 #[.int .u32 (sumNum (lo, hi))] w (.tuple #[.int .u32 hi, .int .u32 lo]) := by
  have e1 : ((sumNum (lo, hi) : Nat) : Int) / 65536 = hi := by unfold sumNum; omega
  have e2 : ((sumNum (lo, hi) : Nat) : Int) % 65536 = lo := by unfold sumNum; omega
  have e3 : bits .and .u32 ((sumNum (lo, hi) : Nat) : Int) 65535 = lo := by
    rw [← e2]
    exact bits_mask .u32 32 (by decide) wraps_u32 16 (by decide) _ (by omega) (by unfold sumNum; omega)
  generalize sumNum (lo, hi) = s at *
  clear h1 h2 e2
  go_enter Tryz.func166, Tryz.ntmps166
  go_wp2_with fail
  go_ret2
  exact ⟨rfl, rfl⟩

set_option maxHeartbeats 4000000 in
set_option maxRecDepth 100000 in
theorem sumMay_any (hi lo : Nat) (w : World) (h1 : hi < 65521) (h2 : lo < 65521) : Gives 165 #[.int .u32 (sumNum (lo, hi))] w (.bool true) := by
  have g := Lib.hid (sumParts_any hi lo w h1 h2)
  have t1 : decide ((hi : Int) < 65521) = true := decide_eq_true (by omega)
  have t2 : decide ((lo : Int) < 65521) = true := decide_eq_true (by omega)
  clear h1 h2
  go_enter Tryz.func165, Tryz.ntmps165
  go_wp2_with fail
  refine g.out.mono ?_; rintro e w1 ⟨rfl, rfl⟩
  go_wp2_with fail
  go_ret
  exact ⟨rfl, rfl⟩

set_option maxHeartbeats 4000000 in
set_option maxRecDepth 100000 in
theorem sumMore_any (hi lo : Nat) (A : Option Addr) (n cap : Nat) (l : List Nat) (w : World) (h : Byt w (.slice A n cap) l) (hl : ∀ b ∈ l, b < 256) (h1 : hi < 65521) (h2 : lo < 65521) (hm : l.length ≤ 5000) :
    Gives 113 #[.int .u32 (sumNum (lo, hi)), .slice A n cap] w (.int .u32 (sumNum (adler (lo, hi) l))) := by
  have g0 := Lib.hid (sumMay_any hi lo w h1 h2)
  have g1 := Lib.hid (sumParts_any hi lo w h1 h2)
  have hfin : ∀ a b : Nat, a < 65521 → b < 65521 → bits .or .u32 ((b : Int) * 65536) a = ((sumNum (a, b) : Nat) : Int) := by
    intro a b ha hb
    rw [bits_join .u32 32 (by decide) wraps_u32 16 ((b : Int) * 65536) a (by omega) (by omega) (by omega) (by omega) (by omega) (by omega)]
    show (b : Int) * 65536 + (a : Int) = ((65536 * b + a : Nat) : Int)
    omega
  have hn := h.len
  rw [List.length_map] at hn
  subst hn
  by_cases h0 : l = []
  · subst h0
    have hv : adler (lo, hi) [] = (lo, hi) := cutDown_self h2 h1
    rw [hv]
    have hor := hfin lo hi h2 h1
    clear h hv hfin hl hm
    go_enter Tryz.func113, Tryz.ntmps113
    go_wp2_with fail
    refine g0.out.mono ?_; rintro e w1 ⟨rfl, rfl⟩
    go_wp2_with fail
    refine g1.out.mono ?_; rintro e w1 ⟨rfl, rfl⟩
    go_wp2_with fail
    refine wp_loop_rounds 1 ?_
    rw [rounds_succ]
    go_wp2_with fail
    go_ret
    exact ⟨rfl, rfl⟩
  · have hpos : 0 < l.length := List.length_pos_iff.2 h0
    obtain ⟨b, off, rfl, hb, hx⟩ := Byt.cell h hpos
    have hcap : l.length ≤ cap := by obtain ⟨_, _, he, hle, _⟩ := h; injection he with _ _ he; subst he; rwa [List.length_map] at hle
    have t1 : (5000 : Int) ≥ (l.length : Int) := by omega
    clear h
    go_enter Tryz.func113, Tryz.ntmps113
    go_wp2_with fail
    refine g0.out.mono ?_; rintro e w1 ⟨rfl, rfl⟩
    go_wp2_with fail
    refine g1.out.mono ?_; rintro e w1 ⟨rfl, rfl⟩
    go_wp2_with fail
    refine wp_loop_rounds 2 ?_
    rw [rounds_succ]
    go_wp2_with fail
    go_loopw [5, 6, 29] (fun y x i wr => ∃ j : Nat, j ≤ l.length ∧ i = .int .i64 j ∧ x = .int .u32 ((aSum (lo, hi) (l.take j)).1 : Nat) ∧ y = .int .u32 ((aSum (lo, hi) (l.take j)).2 : Nat) ∧ wr = w1) (fun _ _ i _ => l.length - (intOf i).toNat)
    case atStart => exact ⟨0, by omega, rfl, rfl, rfl, rfl⟩
    case round =>
      obtain ⟨j, hj, rfl, rfl, rfl, rfl⟩ := hrel
      by_cases hlt : j < l.length
      · have hcl := hx j (bv l[j]) (by rw [List.getElem?_map, List.getElem?_eq_getElem hlt]; rfl)
        rw [Addr.add_lit] at hcl
        have hc : l[j] < 256 := hl _ (List.getElem_mem hlt)
        have hstep : aSum (lo, hi) (l.take (j + 1)) = aStep (aSum (lo, hi) (l.take j)) l[j] := by
          rw [List.take_succ_eq_append_getElem hlt, aSum_snoc]
        have hsm := aSum_small (l := l.take (j + 1)) (s := (lo, hi)) (fun b hb => hl b (List.mem_of_mem_take hb)) h2 h1 (by rw [List.length_take]; omega)
        rw [hstep] at hsm
        unfold aStep at hstep hsm
        generalize (aSum (lo, hi) (l.take j)).1 = X at *
        generalize (aSum (lo, hi) (l.take j)).2 = Y at *
        generalize l[j] = c at *
        have w1' : IntKind.u32.wrap ((X : Int) + (c : Int)) = (X : Int) + (c : Int) := wraps_u32 _ (by omega) (by omega)
        have w2' : IntKind.u32.wrap ((Y : Int) + ((X : Int) + (c : Int))) = (Y : Int) + ((X : Int) + (c : Int)) := wraps_u32 _ (by omega) (by omega)
        have HS := Lib.hid hstep
        clear hstep hsm
        go_wp2_with fail
        exact ⟨⟨j + 1, by omega, by push_cast; rfl, by rw [HS.out]; push_cast; rfl, by rw [HS.out]; push_cast; rfl, trivial⟩, by simp [intOf]; omega⟩
      · have hje : j = l.length := by omega
        subst hje
        rw [List.take_length]
        have hor := hfin _ _ (adler_lt (lo, hi) l).1 (adler_lt (lo, hi) l).2
        have hq1 : (((aSum (lo, hi) l).1 : Nat) : Int) % 65521 = ((adler (lo, hi) l).1 : Nat) := by unfold adler cutDown; omega
        have hq2 : (((aSum (lo, hi) l).2 : Nat) : Int) % 65521 = ((adler (lo, hi) l).2 : Nat) := by unfold adler cutDown; omega
        have hsn : sumNum ((adler (lo, hi) l).1, (adler (lo, hi) l).2) = sumNum (adler (lo, hi) l) := rfl
        rw [hsn] at hor
        have hlt2 := adler_lt (lo, hi) l
        have t2 : IntKind.u32.wrap (((adler (lo, hi) l).2 : Nat) * 65536 : Int) = ((adler (lo, hi) l).2 : Nat) * 65536 := wraps_u32 _ (by omega) (by omega)
        generalize (aSum (lo, hi) l).1 = X at *
        generalize (aSum (lo, hi) l).2 = Y at *
        obtain ⟨S, hS⟩ : ∃ S, S = sumNum (adler (lo, hi) l) := ⟨_, rfl⟩
        rw [← hS] at hor
        have HSS := Lib.hid hS
        clear hS
        generalize (adler (lo, hi) l).1 = a1 at *
        generalize (adler (lo, hi) l).2 = a2 at *
        clear hlt2
        go_wp2_with fail
        all_goals
          rw [rounds_succ]
          go_wp2_with fail
          go_ret
          exact ⟨by rw [← HSS.out]; rfl, rfl⟩

set_option maxHeartbeats 4000000 in
set_option maxRecDepth 100000 in
theorem sumSum_any (A : Option Addr) (n cap : Nat) (l : List Nat) (w : World) (h : Byt w (.slice A n cap) l) (hl : ∀ b ∈ l, b < 256) (hm : l.length ≤ 5000) :
    Gives 79 #[.slice A n cap] w (.int .u32 (sumB l)) := by
  have g' := sumMore_any 0 1 A n cap l w h hl (by decide) (by decide) hm
  rw [show sumNum (1, 0) = 1 from rfl, show sumNum (adler (1, 0) l) = sumB l from rfl] at g'
  generalize sumB l = S at *
  have g := Lib.hid g'
  clear h g' hl hm
  go_enter Tryz.func79, Tryz.ntmps79
  go_wp2_with fail
  refine g.out.mono ?_; rintro e w1 ⟨rfl, rfl⟩
  go_wp2_with fail
  go_ret
  exact ⟨rfl, rfl⟩

end Go.Proofs.YthiimpleljaimaaGreatDoor

/- Package rec: what stands at a place. -/
namespace Go.Proofs.YthiimpleljaimaaGreatDoor
open Go.RowKit

/-- What flags say. -/
def recState (f : Nat) : Nat := if f = 127 then 4 else if f = 63 then 5 else if f = 95 ∨ f = 31 then 6 else 3
set_option maxHeartbeats 2000000 in
set_option maxRecDepth 100000 in
theorem state_any (f : Nat) (w : World) (hf : f < 256) : Gives 237 #[.int .u8 f] w (i64 (recState f)) := by
  by_cases h1 : f = 127
  · subst h1
    go_enter Tryz.func237, Tryz.ntmps237
    go_wp2_with fail
    go_ret
    exact ⟨rfl, rfl⟩
  by_cases h2 : f = 63
  · subst h2
    go_enter Tryz.func237, Tryz.ntmps237
    go_wp2_with fail
    go_ret
    exact ⟨rfl, rfl⟩
  by_cases h3 : f = 95
  · subst h3
    go_enter Tryz.func237, Tryz.ntmps237
    go_wp2_with fail
    go_ret
    exact ⟨rfl, rfl⟩
  by_cases h4 : f = 31
  · subst h4
    go_enter Tryz.func237, Tryz.ntmps237
    go_wp2_with fail
    go_ret
    exact ⟨rfl, rfl⟩
  have hv : recState f = 3 := by unfold recState; rw [if_neg h1, if_neg h2, if_neg (by omega)]
  rw [hv]
  clear hv
  have e1 : ((f : Int) == 127) = false := by rw [beq_eq_false_iff_ne]; omega
  have e2 : ((f : Int) == 63) = false := by rw [beq_eq_false_iff_ne]; omega
  have e3 : ((f : Int) == 95) = false := by rw [beq_eq_false_iff_ne]; omega
  have e4 : ((f : Int) == 31) = false := by rw [beq_eq_false_iff_ne]; omega
  go_enter Tryz.func237, Tryz.ntmps237
  go_wp2_with fail
  go_ret
  exact ⟨rfl, rfl⟩

/-- Are all 255? -/
def blankB (l : List Nat) : Bool := l.all (· == 255)
theorem blankB_drop {l : List Nat} {i x : Nat} (h : l[i]? = some x) : blankB (l.drop i) = ((x == 255) && blankB (l.drop (i + 1))) := by
  obtain ⟨h1, rfl⟩ := List.getElem?_eq_some_iff.1 h
  unfold blankB
  rw [List.drop_eq_getElem_cons h1, List.all_cons]

set_option maxHeartbeats 2000000 in
set_option maxRecDepth 100000 in
theorem blank_any (A : Option Addr) (n cap : Nat) (l : List Nat) (w : World) (h : Byt w (.slice A n cap) l) (hm : l.length ≤ 100000) : Gives 236 #[.slice A n cap] w (.bool (blankB l)) := by
  have hn := h.len
  rw [List.length_map] at hn
  subst hn
  obtain ⟨R, hR⟩ : ∃ R, blankB l = R := ⟨_, rfl⟩
  rw [hR]
  have HR := Lib.hid hR
  clear hR
  go_enter Tryz.func236, Tryz.ntmps236
  go_wp2
  refine wp_scope_jumps 0 (fun a' w' => w' = w ∧ ∃ (j : Nat) (u1 u4 u5 u6 u7 u8 u9 u10 u11 u12 u13 u14 : Value), a' = { tmps := #[.slice A l.length cap, u1, .bool false, .int .i64 j, u4, u5, u6, u7, u8, u9, u10, u11, u12, u13, u14], defers := [] } ∧ j ≤ l.length ∧ Hid (blankB (l.drop j) = R)) (fun a' _ => l.length - (intOf (a'.tmps.getD 3 undef)).toNat) rfl ?_ ?_
  · have HR0 : Hid (blankB (l.drop 0) = R) := HR
    by_cases h0 : 0 < l.length
    · obtain ⟨b, off, rfl, hb, hx⟩ := Byt.cell h (by omega)
      obtain ⟨x, hx0⟩ : ∃ x, l[0]? = some x := ⟨_, List.getElem?_eq_getElem h0⟩
      have c0 := hx 0 (bv x) (by rw [List.getElem?_map, hx0]; rfl)
      rw [Addr.add_lit, Nat.add_zero] at c0
      have hne : ((0 : Int) == (l.length : Int)) = false := by rw [beq_eq_false_iff_ne]; omega
      have hne2 : ¬ 0 = l.length := by omega
      have hbd := blankB_drop hx0
      rw [HR0.out] at hbd
      have HBD := Lib.hid hbd
      clear hbd hx
      by_cases hff : x = 255
      · subst hff
        have HR1 : Hid (blankB (l.drop (0 + 1)) = R) := Lib.hid (by rw [HBD.out]; rfl)
        go_wp2
        go_step3
        go_wp2
        go_step3
        exact ⟨rfl, rfl, 1, _, _, _, _, _, _, _, _, _, _, _, _, rfl, by omega, HR1⟩
      · have hf1 : ((x : Int) == 255) = false := by rw [beq_eq_false_iff_ne]; omega
        have HRF : Hid (R = false) := Lib.hid (by rw [HBD.out, beq_eq_false_iff_ne.2 hff]; rfl)
        go_wp2
        go_step3
        go_wp2
        simp only [Exit.jump]
        go_ret
        exact ⟨by rw [HRF.out]; rfl, rfl⟩
    · have hjj : l.length = 0 := by omega
      have hne : ((0 : Int) == (l.length : Int)) = true := by rw [beq_iff_eq]; omega
      have HRT : Hid (R = true) := Lib.hid (by rw [← HR0.out, List.drop_eq_nil_of_le (by omega)]; rfl)
      go_wp2
      go_step3
      go_wp2
      simp only [Exit.jump]
      go_ret
      exact ⟨by rw [HRT.out]; rfl, rfl⟩
  · rintro a' w' ⟨rfl, j, u1, u4, u5, u6, u7, u8, u9, u10, u11, u12, u13, u14, rfl, hj, HR0⟩
    by_cases h0 : j < l.length
    · obtain ⟨b, off, rfl, hb, hx⟩ := Byt.cell h (by omega)
      obtain ⟨x, hx0⟩ : ∃ x, l[j]? = some x := ⟨_, List.getElem?_eq_getElem h0⟩
      have c0 := hx j (bv x) (by rw [List.getElem?_map, hx0]; rfl)
      rw [Addr.add_lit] at c0
      have hne : ((j : Int) == (l.length : Int)) = false := by rw [beq_eq_false_iff_ne]; omega
      have hne2 : ¬ j = l.length := by omega
      have hbd := blankB_drop hx0
      rw [HR0.out] at hbd
      have HBD := Lib.hid hbd
      clear hbd hx
      by_cases hff : x = 255
      · subst hff
        have HR1 : Hid (blankB (l.drop (j + 1)) = R) := Lib.hid (by rw [HBD.out]; rfl)
        go_wp2
        go_step3
        exact ⟨rfl, ⟨rfl, j + 1, _, _, _, _, _, _, _, _, _, _, _, _, by go_num, by omega, HR1⟩, by simp [intOf]; omega⟩
      · have hf1 : ((x : Int) == 255) = false := by rw [beq_eq_false_iff_ne]; omega
        have HRF : Hid (R = false) := Lib.hid (by rw [HBD.out, beq_eq_false_iff_ne.2 hff]; rfl)
        go_wp2
        simp only [Exit.jump]
        go_ret
        exact ⟨by rw [HRF.out]; rfl, rfl⟩
    · have hjj : l.length = j := by omega
      have hne : ((j : Int) == (l.length : Int)) = true := by rw [beq_iff_eq]; omega
      have HRT : Hid (R = true) := Lib.hid (by rw [← HR0.out, List.drop_eq_nil_of_le (by omega)]; rfl)
      go_wp2
      simp only [Exit.jump]
      go_ret
      exact ⟨by rw [HRT.out]; rfl, rfl⟩

/-- The sum that a frame bears. -/
def checkedB (r : List Nat) : Nat := sumB (be 2 r.length ++ r)
set_option maxHeartbeats 2000000 in
set_option maxRecDepth 100000 in
theorem checked_any (A : Option Addr) (n cap : Nat) (l : List Nat) (w : World) (h : Byt w (.slice A n cap) l) (hl : ∀ b ∈ l, b < 256) (hm : l.length ≤ 4900) : Makes 205 #[.slice A n cap] w (.int .u32 (checkedB l)) := by
  have hn := h.len
  rw [List.length_map] at hn
  subst hn
  have g1 := put_any none 0 0 [] 2 l.length w (Sl.nil w 1) (by decide) (by decide) (by decide)
  unfold Own1 at g1
  rw [List.nil_append, be_len] at g1
  have hx : Byt (w.alloc (.cells ((be 2 l.length).map bv).toArray 5)) (.slice (some ⟨w.heap.size, 0, none⟩) 2 2) (be 2 l.length) := by
    have := Byt.fresh (l := be 2 l.length) (blk_new w (.cells ((be 2 l.length).map bv).toArray 5)) (by rw [be_len]; decide)
    rw [be_len] at this
    exact this
  have g2 := sumSum_any _ _ _ _ _ hx (be_lt 2 l.length) (by rw [be_len]; decide)
  have hlt := adler_lt (1, 0) (be 2 l.length)
  have g3 := sumMore_any (adler (1, 0) (be 2 l.length)).2 (adler (1, 0) (be 2 l.length)).1 A l.length cap l (w.alloc (.cells ((be 2 l.length).map bv).toArray 5)) (Sl.below h (Base.al (Below.refl _ _) _)) hl hlt.2 hlt.1 (by omega)
  rw [show sumNum ((adler (1, 0) (be 2 l.length)).1, (adler (1, 0) (be 2 l.length)).2) = sumB (be 2 l.length) from rfl, show ((adler (1, 0) (be 2 l.length)).1, (adler (1, 0) (be 2 l.length)).2) = adler (1, 0) (be 2 l.length) from rfl, adler_more] at g3
  have G1 := Lib.hid g1
  have G2 := Lib.hid g2
  have G3 : Hid (Gives 113 #[.int .u32 (sumB (be 2 l.length)), .slice A l.length cap] (w.alloc (.cells ((be 2 l.length).map bv).toArray 5)) (.int .u32 (checkedB l))) := Lib.hid g3
  have kw : IntKind.u64.wrap (l.length : Int) = (l.length : Int) := by rw [IntKind.wrap_u64]; omega
  clear g1 g2 g3 hx hlt
  go_enter Tryz.func205, Tryz.ntmps205
  go_wp2_with fail
  refine G1.out.mono ?_; rintro e x1 ⟨rfl, rfl⟩
  go_wp2_with fail
  refine G2.out.mono ?_; rintro e x2 ⟨rfl, rfl⟩
  go_wp2_with fail
  refine G3.out.mono ?_; rintro e x3 ⟨rfl, rfl⟩
  go_wp2_with fail
  go_ret
  exact ⟨rfl, Base.al (Below.refl _ _) _⟩
/-- What stands at a place, the record, and the place behind it. -/
def recClass (l : List Nat) (a : Nat) : Nat × List Nat × Nat :=
  if l.length < a then (3, [], 0) else if blankB (l.drop a) then (0, [], 0)
  else if recState (l.getD a 0) = 3 ∨ (pGet l (a + 1) 2).2.2 ≠ 0 then (3, [], 0)
  else if (pGet l (a + 3) 4).2.2 ≠ 0 ∨ l.length ≤ a + 7 + (pGet l (a + 1) 2).1 ∨ l.getD (a + 7 + (pGet l (a + 1) 2).1) 0 ≠ 0 then (3, [], 0)
  else if checkedB ((l.drop (a + 7)).take (pGet l (a + 1) 2).1) ≠ (pGet l (a + 3) 4).1 then (3, [], 0)
  else (recState (l.getD a 0), (l.drop (a + 7)).take (pGet l (a + 1) 2).1, a + 7 + (pGet l (a + 1) 2).1 + 1)
abbrev RecPost (w : World) (c : Nat × List Nat × Nat) (e : Ending) (w' : World) : Prop := ∃ A n cap, e = .returned (.tuple #[i64 c.1, .slice A n cap, i64 c.2.2]) ∧ Byt w' (.slice A n cap) c.2.1 ∧ Below w.heap.size w w'
theorem byt_nil (w : World) : Byt w (.slice none 0 0) [] := Sl.nil w 1
/-- A piece of bytes. -/
theorem Byt.piece {w : World} {b off n cap : Nat} {l : List Nat} (h : Byt w (.slice (some ⟨b, off, none⟩) n cap) l) (a m c : Nat) (hm : a + m ≤ l.length) (hc : m ≤ c) (hcm : c ≤ maxLen) : Byt w (.slice (some ⟨b, off + a, none⟩) m c) ((l.drop a).take m) := by
  have hlen : (((l.drop a).take m).map fun x => [bv x]).length = m := by rw [List.length_map, List.length_take, List.length_drop]; omega
  refine ⟨some ⟨b, off + a, none⟩, c, by rw [hlen], by rw [hlen]; exact hc, hcm, (fun h => by cases h), fun h0 => ?_⟩
  rw [hlen] at h0
  obtain ⟨b', off', hA, hb, hx⟩ := Byt.cell h (by omega)
  injection hA with hA
  injection hA with h1 h2
  subst h1; subst h2
  refine ⟨b, off + a, rfl, hb, ?_⟩
  intro i x hi
  rw [List.getElem?_map] at hi
  obtain ⟨y, hy, rfl⟩ := Option.map_eq_some_iff.1 hi
  refine ⟨rfl, fun j u hj => ?_⟩
  cases j with
  | succ j => cases hj
  | zero =>
    have hil : i < m := by have := (List.getElem?_eq_some_iff.1 hy).1; rw [List.length_take] at this; omega
    rw [List.getElem?_take_of_lt hil, List.getElem?_drop] at hy
    have : u = bv y := by simpa using hj.symm
    subst this
    have := hx (a + i) (bv y) (by rw [List.getElem?_map, hy]; rfl)
    rw [Addr.add_lit] at this
    rw [show off + a + i * 1 + 0 = off + (a + i) by omega]
    exact this
end Go.Proofs.YthiimpleljaimaaGreatDoor

/- rec.Class: what stands at a place. -/
namespace Go.Proofs.YthiimpleljaimaaGreatDoor
open Go.RowKit

theorem recState_lt (f : Nat) : recState f ≤ 6 := by unfold recState; split <;> (try split) <;> (try split) <;> omega
set_option maxHeartbeats 4000000 in
set_option maxRecDepth 100000 in
theorem recClass_any (A : Option Addr) (n cap : Nat) (l : List Nat) (a : Nat) (w : World) (h : Byt w (.slice A n cap) l) (hl : ∀ b ∈ l, b < 256) (hp : 0 < l.length) (hm : l.length ≤ 4900) (ha6 : a ≤ 100000) :
    Calls Tryz.prog 171 #[.slice A n cap, i64 a] w (RecPost w (recClass l a)) := by
  have hn := h.len
  rw [List.length_map] at hn
  subst hn
  have hcap : l.length ≤ cap ∧ cap ≤ maxLen := by
    obtain ⟨_, c', hv', hle, hmx, _⟩ := h
    injection hv' with _ _ hv'
    subst hv'
    rw [List.length_map] at hle
    exact ⟨hle, hmx⟩
  obtain ⟨hc1, hc2⟩ := hcap
  unfold maxLen at hc2
  obtain ⟨b, off, rfl, hb, hx⟩ := Byt.cell h hp
  have kw1 : IntKind.i64.wrap ((a : Int) + 1) = (a : Int) + 1 := by rw [IntKind.wrap_i64]; omega
  by_cases h1 : l.length < a
  · have hv : recClass l a = (3, [], 0) := by unfold recClass; rw [if_pos h1]
    rw [hv]
    clear hv hx
    have t1 : ¬ ((a : Int) < 0) := by omega
    go_enter Tryz.func171, Tryz.ntmps171
    go_wp2_with fail
    go_ret3
    exact ⟨_, _, _, rfl, byt_nil _, Below.refl _ _⟩
  by_cases h2 : a = l.length
  · subst h2
    have hv : recClass l l.length = (0, [], 0) := by unfold recClass; rw [if_neg (by omega), if_pos (by rw [List.drop_eq_nil_of_le (Nat.le_refl _)]; rfl)]
    rw [hv]
    clear hv hx
    have t1 : ¬ ((l.length : Int) < 0) := by omega
    by_cases h3 : cap = l.length
    · subst h3
      have G := Lib.hid (blank_any (some ⟨b, off, none⟩) 0 0 [] w ⟨some ⟨b, off, none⟩, 0, rfl, Nat.le_refl _, Nat.zero_le _, (fun h => by cases h), fun h => absurd h (by decide)⟩ (by decide))
      go_enter Tryz.func171, Tryz.ntmps171
      go_wp2_with fail
      refine G.out.mono ?_; rintro e x1 ⟨rfl, rfl⟩
      go_wp2_with fail
      go_ret3
      exact ⟨_, _, _, rfl, byt_nil _, Below.refl _ _⟩
    · have G := Lib.hid (blank_any (some ⟨b, off + l.length, none⟩) 0 (cap - l.length) [] w ⟨some ⟨b, off + l.length, none⟩, cap - l.length, rfl, Nat.zero_le _, by unfold maxLen; omega, (fun h => by cases h), fun h => absurd h (by decide)⟩ (by decide))
      go_enter Tryz.func171, Tryz.ntmps171
      go_wp2_with fail
      refine G.out.mono ?_; rintro e x1 ⟨rfl, rfl⟩
      go_wp2_with fail
      go_ret3
      exact ⟨_, _, _, rfl, byt_nil _, Below.refl _ _⟩
  have h4 : a < l.length := by omega
  have t1 : ¬ ((a : Int) < 0) := by omega
  have t2 : ¬ ((l.length : Int) < (a : Int)) := by omega
  have hca : ¬ cap = a := by omega
  have GB := blank_any (some ⟨b, off + a, none⟩) (l.length - a) (cap - a) (l.drop a) w (by have := Byt.piece h a (l.length - a) (cap - a) (by omega) (by omega) (by unfold maxLen; omega); rwa [List.take_of_length_le (by rw [List.length_drop]; exact Nat.le_refl _)] at this) (by rw [List.length_drop]; omega)
  cases hbl : blankB (l.drop a)
  case true =>
    have hv : recClass l a = (0, [], 0) := by unfold recClass; rw [if_neg h1, if_pos hbl]
    rw [hv]
    rw [hbl] at GB
    have G := Lib.hid GB
    clear hv hx GB hbl
    go_enter Tryz.func171, Tryz.ntmps171
    go_wp2_with fail
    refine G.out.mono ?_; rintro e x1 ⟨rfl, rfl⟩
    go_wp2_with fail
    go_ret3
    exact ⟨_, _, _, rfl, byt_nil _, Below.refl _ _⟩
  case false =>
    rw [hbl] at GB
    have G := Lib.hid GB
    obtain ⟨f, hf⟩ : ∃ f, l[a]? = some f := ⟨_, List.getElem?_eq_getElem h4⟩
    have hgf : l.getD a 0 = f := by rw [List.getD_eq_getElem?_getD, hf]; rfl
    have cf := hx a (bv f) (by rw [List.getElem?_map, hf]; rfl)
    rw [Addr.add_lit] at cf
    have G1 := fun W => Lib.hid (state_any f W (hl f (List.mem_of_getElem? hf)))
    have g2 := pkGet_any (some ⟨b, off, none⟩) l.length cap l (a + 1) 2 w h hl (by omega) (by decide) (by decide) (by omega)
    have hv : recClass l a = if recState f = 3 ∨ (pGet l (a + 1) 2).2.2 ≠ 0 then (3, [], 0)
        else if (pGet l (a + 3) 4).2.2 ≠ 0 ∨ l.length ≤ a + 7 + (pGet l (a + 1) 2).1 ∨ l.getD (a + 7 + (pGet l (a + 1) 2).1) 0 ≠ 0 then (3, [], 0)
        else if checkedB ((l.drop (a + 7)).take (pGet l (a + 1) 2).1) ≠ (pGet l (a + 3) 4).1 then (3, [], 0)
        else (recState f, (l.drop (a + 7)).take (pGet l (a + 1) 2).1, a + 7 + (pGet l (a + 1) 2).1 + 1) := by
      unfold recClass
      rw [if_neg h1, if_neg (by rw [hbl]; decide), hgf]
    rw [hv]
    clear hv GB hbl hgf hf
    have hst := recState_lt f
    by_cases hs3 : recState f = 3
    · rw [if_pos (.inl hs3)]
      rw [hs3] at G1
      have G2 := Lib.hid g2
      clear g2 hs3 hst hx
      go_enter Tryz.func171, Tryz.ntmps171
      go_wp2_with fail
      refine G.out.mono ?_; rintro e x1 ⟨rfl, rfl⟩
      go_wp2_with fail
      refine (G1 _).out.mono ?_; rintro e x1 ⟨rfl, rfl⟩
      go_wp2_with fail
      refine G2.out.mono ?_; rintro e x1 ⟨rfl, rfl⟩
      go_wp2_with fail
      go_ret3
      exact ⟨_, _, _, rfl, byt_nil _, Below.refl _ _⟩
    · have hs3' : ((recState f : Int) == 3) = false := by rw [beq_eq_false_iff_ne]; omega
      have hs3'' : ¬ recState f = 3 := hs3
      obtain ⟨sv, hsv⟩ : ∃ sv, recState f = sv := ⟨_, rfl⟩
      rw [hsv] at G1 hs3' hs3'' hst ⊢
      clear hs3 hsv
      by_cases h5 : l.length < a + 1 + 2
      · have hg : pGet l (a + 1) 2 = (0, 0, 3) := by unfold pGet; rw [if_pos h5]
        rw [hg] at g2
        rw [hg, if_pos (.inr (by decide))]
        have G2 := Lib.hid g2
        clear g2 hx hg
        go_enter Tryz.func171, Tryz.ntmps171
        go_wp2_with fail
        refine G.out.mono ?_; rintro e x1 ⟨rfl, rfl⟩
        go_wp2_with fail
        refine (G1 _).out.mono ?_; rintro e x1 ⟨rfl, rfl⟩
        go_wp2_with fail
        refine G2.out.mono ?_; rintro e x1 ⟨rfl, rfl⟩
        go_wp2_with fail
        go_ret3
        exact ⟨_, _, _, rfl, byt_nil _, Below.refl _ _⟩
      · obtain ⟨n1, hn1, hn2⟩ : ∃ n1, pGet l (a + 1) 2 = (n1, a + 1 + 2, 0) ∧ n1 < 65536 := by
          refine ⟨_, by unfold pGet; rw [if_neg h5], ?_⟩
          have := beVal_lt ((l.drop (a + 1)).take 2) (fun b hb => hl b (List.mem_of_mem_drop (List.mem_of_mem_take hb)))
          rw [List.length_take, List.length_drop, Nat.min_eq_left (by omega)] at this
          exact this
        rw [hn1] at g2
        rw [hn1, if_neg (by intro hh; rcases hh with hh | hh; exact hs3'' hh; exact hh rfl)]
        have G2 := Lib.hid g2
        have g3 := pkGet_any (some ⟨b, off, none⟩) l.length cap l (a + 3) 4 w h hl (by omega) (by decide) (by decide) (by omega)
        have kc : IntKind.i64.wrap (n1 : Int) = (n1 : Int) := by rw [IntKind.wrap_i64]; omega
        clear g2 hn1
        simp only []
        by_cases h6 : l.length < a + 3 + 4
        · have hg : pGet l (a + 3) 4 = (0, 0, 3) := by unfold pGet; rw [if_pos h6]
          rw [hg] at g3
          rw [hg, if_pos (.inl (by decide))]
          have G3 := Lib.hid g3
          clear g3 hx hg
          go_enter Tryz.func171, Tryz.ntmps171
          go_wp2_with fail
          refine G.out.mono ?_; rintro e x1 ⟨rfl, rfl⟩
          go_wp2_with fail
          refine (G1 _).out.mono ?_; rintro e x1 ⟨rfl, rfl⟩
          go_wp2_with fail
          refine G2.out.mono ?_; rintro e x1 ⟨rfl, rfl⟩
          go_wp2_with fail
          refine G3.out.mono ?_; rintro e x1 ⟨rfl, rfl⟩
          go_wp2_with fail
          go_ret3
          exact ⟨_, _, _, rfl, byt_nil _, Below.refl _ _⟩
        · obtain ⟨wt, hwt, hwl⟩ : ∃ wt, pGet l (a + 3) 4 = (wt, a + 3 + 4, 0) ∧ wt < 4294967296 := by
            refine ⟨_, by unfold pGet; rw [if_neg h6], ?_⟩
            have := beVal_lt ((l.drop (a + 3)).take 4) (fun b hb => hl b (List.mem_of_mem_drop (List.mem_of_mem_take hb)))
            rw [List.length_take, List.length_drop, Nat.min_eq_left (by omega)] at this
            exact this
          rw [hwt] at g3
          rw [hwt]
          simp only []
          have G3 := Lib.hid g3
          clear g3 hwt
          by_cases h7 : l.length ≤ a + 7 + n1
          · rw [if_pos (.inr (.inl h7))]
            clear hx
            go_enter Tryz.func171, Tryz.ntmps171
            go_wp2_with fail
            refine G.out.mono ?_; rintro e x1 ⟨rfl, rfl⟩
            go_wp2_with fail
            refine (G1 _).out.mono ?_; rintro e x1 ⟨rfl, rfl⟩
            go_wp2_with fail
            refine G2.out.mono ?_; rintro e x1 ⟨rfl, rfl⟩
            go_wp2_with fail
            refine G3.out.mono ?_; rintro e x1 ⟨rfl, rfl⟩
            go_wp2_with fail
            all_goals
              go_ret3
              exact ⟨_, _, _, rfl, byt_nil _, Below.refl _ _⟩
          · obtain ⟨x, hx0⟩ : ∃ x, l[a + 7 + n1]? = some x := ⟨_, List.getElem?_eq_getElem (by omega)⟩
            have hgx : l.getD (a + 7 + n1) 0 = x := by rw [List.getD_eq_getElem?_getD, hx0]; rfl
            have cx := hx (a + 7 + n1) (bv x) (by rw [List.getElem?_map, hx0]; rfl)
            rw [Addr.add_lit] at cx
            have kt : ((a : Int) + 3 + 4 + (n1 : Int)).toNat = a + 7 + n1 := by omega
            have kx : (a : Int) + 3 + 4 + (n1 : Int) < (l.length : Int) := by omega
            have k0 : (0 : Int) ≤ (a : Int) + 3 + 4 + (n1 : Int) := by omega
            rw [hgx]
            clear hx hx0 hgx
            by_cases hx0 : x = 0
            · subst hx0
              have hby := Byt.piece h (a + 7) n1 (cap - (a + 7)) (by omega) (by omega) (by unfold maxLen; omega)
              obtain ⟨rc, hrc⟩ : ∃ rc, (l.drop (a + 7)).take n1 = rc := ⟨_, rfl⟩
              have hrl : rc.length = n1 := by rw [← hrc, List.length_take, List.length_drop]; omega
              have hr8 : ∀ y ∈ rc, y < 256 := fun y hy => by rw [← hrc] at hy; exact hl y (List.mem_of_mem_drop (List.mem_of_mem_take hy))
              rw [hrc] at hby ⊢
              have HCL := Lib.hid (clone_any ⟨b, off + (a + 7), none⟩ n1 (cap - (a + 7)) rc w hby (by omega))
              rw [if_neg (by omega)]
              have k1 : (0 : Int) ≤ (a : Int) + 3 + 4 + (n1 : Int) ∧ (a : Int) + 3 + 4 + (n1 : Int) ≤ (cap : Int) := by omega
              have k3 : (a : Int) + 3 + 4 ≤ (a : Int) + 3 + 4 + (n1 : Int) := by omega
              have k4 : ((a : Int) + 3 + 4).toNat = a + 7 := by omega
              have k5 : a + 7 + n1 - (a + 7) = n1 := by omega
              have k6 : ¬ cap = a + 7 := by omega
              have k7 : (0 : Int) ≤ (a : Int) + 3 + 4 := by omega
              clear hby hrc
              have hlt : ¬ ((l.length : Int) ≤ (a : Int) + 3 + 4 + (n1 : Int)) := by omega
              have hck : checkedB rc < 4294967296 := by
                unfold checkedB sumB sumNum
                have := adler_lt (1, 0) (be 2 rc.length ++ rc)
                omega
              obtain ⟨ck, hck2⟩ : ∃ ck, checkedB rc = ck := ⟨_, rfl⟩
              rw [hck2] at hck ⊢
              have kw : IntKind.u64.wrap (ck : Int) = (ck : Int) := by rw [IntKind.wrap_u64]; omega
              have kb : IntKind.i64.wrap ((a : Int) + 3 + 4 + (n1 : Int) + 1) = (a : Int) + 3 + 4 + (n1 : Int) + 1 := by rw [IntKind.wrap_i64]; omega
              by_cases hcw : ck = wt
              · subst hcw
                rw [if_neg (by intro hh; exact hh rfl)]
                go_enter Tryz.func171, Tryz.ntmps171
                go_wp2_with fail
                refine G.out.mono ?_; rintro e x1 ⟨rfl, rfl⟩
                go_wp2_with fail
                refine (G1 _).out.mono ?_; rintro e x1 ⟨rfl, rfl⟩
                go_wp2_with fail
                refine G2.out.mono ?_; rintro e x1 ⟨rfl, rfl⟩
                go_wp2_with fail
                refine G3.out.mono ?_; rintro e x1 ⟨rfl, rfl⟩
                go_wp2_with fail
                refine HCL.out.mono ?_; rintro e x5 ⟨v, rfl, hown, ⟨ad5, n5, c5, rfl⟩, hb5⟩
                have hy5 := own_Byt hown
                have HC := checked_any (some ad5) n5 c5 rc x5 hy5 hr8 (by omega)
                rw [hck2] at HC
                have HC := Lib.hid HC
                clear HCL
                go_wp2_with fail
                refine HC.out.mono ?_; rintro e x6 ⟨rfl, hb6⟩
                go_wp2_with fail
                go_ret3
                refine ⟨some ad5, n5, c5, ?_, Sl.below hy5 hb6, Base.tr hb5 hb6⟩
                show _ = Ending.returned (.tuple #[i64 sv, .slice (some ad5) n5 c5, .int .i64 ((a + 7 + n1 + 1 : Nat) : Int)])
                rw [show ((a + 7 + n1 + 1 : Nat) : Int) = (a : Int) + 3 + 4 + (n1 : Int) + 1 by omega]
                rfl
              · rw [if_pos hcw]
                have hw1 : ((ck : Int) == (wt : Int)) = false := by rw [beq_eq_false_iff_ne]; omega
                have hw2 : (ck == wt) = false := by rw [beq_eq_false_iff_ne]; exact hcw
                have hw3 : ((ck : Int) != (wt : Int)) = true := by rw [bne_iff_ne]; omega
                go_enter Tryz.func171, Tryz.ntmps171
                go_wp2_with fail
                refine G.out.mono ?_; rintro e x1 ⟨rfl, rfl⟩
                go_wp2_with fail
                refine (G1 _).out.mono ?_; rintro e x1 ⟨rfl, rfl⟩
                go_wp2_with fail
                refine G2.out.mono ?_; rintro e x1 ⟨rfl, rfl⟩
                go_wp2_with fail
                refine G3.out.mono ?_; rintro e x1 ⟨rfl, rfl⟩
                go_wp2_with fail
                refine HCL.out.mono ?_; rintro e x5 ⟨v, rfl, hown, ⟨ad5, n5, c5, rfl⟩, hb5⟩
                have hy5 := own_Byt hown
                have HC := checked_any (some ad5) n5 c5 rc x5 hy5 hr8 (by omega)
                rw [hck2] at HC
                have HC := Lib.hid HC
                clear HCL
                go_wp2_with fail
                refine HC.out.mono ?_; rintro e x6 ⟨rfl, hb6⟩
                go_wp2_with fail
                go_ret3
                exact ⟨_, _, _, rfl, byt_nil _, Base.tr hb5 hb6⟩
            · rw [if_pos (.inr (.inr hx0))]
              have hx1 : ((x : Int) == 0) = false := by rw [beq_eq_false_iff_ne]; omega
              have hx2 : (x == 0) = false := by rw [beq_eq_false_iff_ne]; exact hx0
              have hx3 : ((x : Int) != 0) = true := by rw [bne_iff_ne]; omega
              have hlt : ¬ ((l.length : Int) ≤ (a : Int) + 3 + 4 + (n1 : Int)) := by omega
              go_enter Tryz.func171, Tryz.ntmps171
              go_wp2_with fail
              refine G.out.mono ?_; rintro e x1 ⟨rfl, rfl⟩
              go_wp2_with fail
              refine (G1 _).out.mono ?_; rintro e x1 ⟨rfl, rfl⟩
              go_wp2_with fail
              refine G2.out.mono ?_; rintro e x1 ⟨rfl, rfl⟩
              go_wp2_with fail
              refine G3.out.mono ?_; rintro e x1 ⟨rfl, rfl⟩
              go_wp2_with fail
              go_ret3
              exact ⟨_, _, _, rfl, byt_nil _, Below.refl _ _⟩
end Go.Proofs.YthiimpleljaimaaGreatDoor

