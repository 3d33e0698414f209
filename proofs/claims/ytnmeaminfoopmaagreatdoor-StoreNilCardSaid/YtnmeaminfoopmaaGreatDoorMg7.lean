/- Sums of bytes. -/
import Derived.Test.YtnmeaminfoopmaaGreatDoorMg1
import Derived.Test.YtnmeaminfoopmaaGreatDoorPack
namespace Go.Proofs.YtnmeaminfoopmaaGreatDoor
open Go.RowKit

/-- One byte more: the low part and the high one, not yet cut down. -/
def aStep (s : Nat × Nat) (c : Nat) : Nat × Nat := (s.1 + c, s.2 + (s.1 + c))
def aSum (s : Nat × Nat) (l : List Nat) : Nat × Nat := l.foldl aStep s
def cutDown (s : Nat × Nat) : Nat × Nat := (s.1 % 65521, s.2 % 65521)
/-- A sum's number. -/
def sumNum (s : Nat × Nat) : Nat := 65536 * s.2 + s.1
def adler (s : Nat × Nat) (l : List Nat) : Nat × Nat := cutDown (aSum s l)
theorem aSum_snoc (s : Nat × Nat) (l : List Nat) (c : Nat) : aSum s (l ++ [c]) = aStep (aSum s l) c := by unfold aSum; rw [List.foldl_append]; rfl
theorem aSum_le : ∀ (l : List Nat) (s : Nat × Nat), (∀ b ∈ l, b < 256) → (aSum s l).1 ≤ s.1 + 255 * l.length ∧ 2 * (aSum s l).2 ≤ 2 * s.2 + 2 * (l.length * s.1) + 255 * (l.length * l.length + l.length)
  | [], s, _ => by simp [aSum]
  | c :: l, s, h => by
    have hc := h c (by simp)
    obtain ⟨h1, h2⟩ := aSum_le l (aStep s c) (fun b hb => h b (List.mem_cons_of_mem _ hb))
    have e : aSum s (c :: l) = aSum (aStep s c) l := rfl
    rw [e]
    simp only [aStep, List.length_cons] at h1 h2 ⊢
    refine ⟨by omega, Nat.le_trans h2 ?_⟩
    have k := Nat.mul_le_mul_left l.length (by omega : c ≤ 255)
    have e1 : l.length * (s.1 + c) = l.length * s.1 + l.length * c := Nat.mul_add _ _ _
    have e2 : (l.length + 1) * s.1 = l.length * s.1 + s.1 := by rw [Nat.add_mul, Nat.one_mul]
    have e3 : (l.length + 1) * (l.length + 1) = l.length * l.length + 2 * l.length + 1 := by
      rw [Nat.add_mul, Nat.mul_add]; omega
    rw [e1, e2, e3]
    generalize l.length * s.1 = p at *
    generalize l.length * c = q at *
    generalize l.length * l.length = r at *
    omega
theorem aSum_small {l : List Nat} {s : Nat × Nat} (h : ∀ b ∈ l, b < 256) (h1 : s.1 < 65521) (h2 : s.2 < 65521) (hm : l.length ≤ 5000) : (aSum s l).1 < 2 ^ 32 ∧ (aSum s l).2 < 2 ^ 32 := by
  obtain ⟨k1, k2⟩ := aSum_le l s h
  have e1 := Nat.mul_le_mul hm (by omega : s.1 ≤ 65520)
  have e2 := Nat.mul_le_mul hm hm
  generalize l.length * s.1 = p at *
  generalize l.length * l.length = r at *
  omega
/-- The same byte by byte, cut down each time. -/
def rStep (s : Nat × Nat) (c : Nat) : Nat × Nat := ((s.1 + c) % 65521, (s.2 + (s.1 + c) % 65521) % 65521)
def rSum (s : Nat × Nat) (l : List Nat) : Nat × Nat := l.foldl rStep s
theorem rSum_snoc (s : Nat × Nat) (l : List Nat) (c : Nat) : rSum s (l ++ [c]) = rStep (rSum s l) c := by unfold rSum; rw [List.foldl_append]; rfl
theorem rStep_cut (s : Nat × Nat) (c : Nat) : rStep (cutDown s) c = cutDown (aStep s c) := by
  unfold rStep cutDown aStep
  simp only
  congr 1 <;> omega
theorem rSum_cut : ∀ (l : List Nat) (s : Nat × Nat), rSum (cutDown s) l = cutDown (aSum s l)
  | [], _ => rfl
  | c :: l, s => by
    show rSum (rStep (cutDown s) c) l = cutDown (aSum (aStep s c) l)
    rw [rStep_cut, rSum_cut l]
theorem cutDown_self {s : Nat × Nat} (h1 : s.1 < 65521) (h2 : s.2 < 65521) : cutDown s = s := by
  unfold cutDown
  rw [Nat.mod_eq_of_lt h1, Nat.mod_eq_of_lt h2]
theorem rSum_adler {s : Nat × Nat} (h1 : s.1 < 65521) (h2 : s.2 < 65521) (l : List Nat) : rSum s l = adler s l := by
  unfold adler
  rw [← rSum_cut, cutDown_self h1 h2]
theorem adler_lt (s : Nat × Nat) (l : List Nat) : (adler s l).1 < 65521 ∧ (adler s l).2 < 65521 := ⟨Nat.mod_lt _ (by decide), Nat.mod_lt _ (by decide)⟩
theorem adler_more (s : Nat × Nat) (l m : List Nat) : adler (adler s l) m = adler s (l ++ m) := by
  have h := adler_lt s l
  rw [← rSum_adler h.1 h.2]
  unfold adler
  rw [rSum_cut]
  unfold aSum
  rw [List.foldl_append]
/-- The sum of bytes. -/
def sumB (l : List Nat) : Nat := sumNum (adler (1, 0) l)
end Go.Proofs.YtnmeaminfoopmaaGreatDoor

/- sum.Sum, sum.More, and the reference's. -/
namespace Go.Proofs.YtnmeaminfoopmaaGreatDoor
open Go.RowKit

theorem wraps_u32 (n : Int) (h0 : 0 ≤ n) (h1 : n < 2 ^ 32) : IntKind.u32.wrap n = n := by rw [IntKind.wrap_u32]; omega

set_option maxHeartbeats 4000000 in
set_option maxRecDepth 100000 in
theorem sumParts_any (hi lo : Nat) (w : World) (h1 : hi < 65521) (h2 : lo < 65521) : Gives 189 #[.int .u32 (sumNum (lo, hi))] w (.tuple #[.int .u32 hi, .int .u32 lo]) := by
  have e1 : ((sumNum (lo, hi) : Nat) : Int) / 65536 = hi := by unfold sumNum; omega
  have e2 : ((sumNum (lo, hi) : Nat) : Int) % 65536 = lo := by unfold sumNum; omega
  have e3 : bits .and .u32 ((sumNum (lo, hi) : Nat) : Int) 65535 = lo := by
    rw [← e2]
    exact bits_mask .u32 32 (by decide) wraps_u32 16 (by decide) _ (by omega) (by unfold sumNum; omega)
  generalize sumNum (lo, hi) = s at *
  clear h1 h2 e2
  go_enter Tryz.func189, Tryz.ntmps189
  go_wp2_with fail
  go_ret2
  exact ⟨rfl, rfl⟩

set_option maxHeartbeats 4000000 in
set_option maxRecDepth 100000 in
theorem sumMay_any (hi lo : Nat) (w : World) (h1 : hi < 65521) (h2 : lo < 65521) : Gives 188 #[.int .u32 (sumNum (lo, hi))] w (.bool true) := by
  have g := Lib.hid (sumParts_any hi lo w h1 h2)
  have t1 : decide ((hi : Int) < 65521) = true := decide_eq_true (by omega)
  have t2 : decide ((lo : Int) < 65521) = true := decide_eq_true (by omega)
  clear h1 h2
  go_enter Tryz.func188, Tryz.ntmps188
  go_wp2_with fail
  refine g.out.mono ?_; rintro e w1 ⟨rfl, rfl⟩
  go_wp2_with fail
  go_ret
  exact ⟨rfl, rfl⟩

set_option maxHeartbeats 4000000 in
set_option maxRecDepth 100000 in
theorem sumMore_any (hi lo : Nat) (A : Option Addr) (n cap : Nat) (l : List Nat) (w : World) (h : Byt w (.slice A n cap) l) (hl : ∀ b ∈ l, b < 256) (h1 : hi < 65521) (h2 : lo < 65521) (hm : l.length ≤ 5000) :
    Gives 160 #[.int .u32 (sumNum (lo, hi)), .slice A n cap] w (.int .u32 (sumNum (adler (lo, hi) l))) := by
  have g0 := Lib.hid (sumMay_any hi lo w h1 h2)
  have g1 := Lib.hid (sumParts_any hi lo w h1 h2)
  have hfin : ∀ a b : Nat, a < 65521 → b < 65521 → bits .or .u32 ((b : Int) * 65536) a = ((sumNum (a, b) : Nat) : Int) := by
    intro a b ha hb
    rw [bits_join .u32 32 (by decide) wraps_u32 16 ((b : Int) * 65536) a (by omega) (by omega) (by omega) (by omega) (by omega) (by omega)]
    show (b : Int) * 65536 + (a : Int) = ((65536 * b + a : Nat) : Int)
    omega
  have hn := h.len
  rw [List.length_map] at hn
  subst hn
  by_cases h0 : l = []
  · subst h0
    have hv : adler (lo, hi) [] = (lo, hi) := cutDown_self h2 h1
    rw [hv]
    have hor := hfin lo hi h2 h1
    clear h hv hfin hl hm
    go_enter Tryz.func160, Tryz.ntmps160
    go_wp2_with fail
    refine g0.out.mono ?_; rintro e w1 ⟨rfl, rfl⟩
    go_wp2_with fail
    refine g1.out.mono ?_; rintro e w1 ⟨rfl, rfl⟩
    go_wp2_with fail
    refine wp_loop_rounds 1 ?_
    rw [rounds_succ]
    go_wp2_with fail
    go_ret
    exact ⟨rfl, rfl⟩
  · have hpos : 0 < l.length := List.length_pos_iff.2 h0
    obtain ⟨b, off, rfl, hb, hx⟩ := Byt.cell h hpos
    have hcap : l.length ≤ cap := by obtain ⟨_, _, he, hle, _⟩ := h; injection he with _ _ he; subst he; rwa [List.length_map] at hle
    have t1 : (5000 : Int) ≥ (l.length : Int) := by omega
    clear h
    go_enter Tryz.func160, Tryz.ntmps160
    go_wp2_with fail
    refine g0.out.mono ?_; rintro e w1 ⟨rfl, rfl⟩
    go_wp2_with fail
    refine g1.out.mono ?_; rintro e w1 ⟨rfl, rfl⟩
    go_wp2_with fail
    refine wp_loop_rounds 2 ?_
    rw [rounds_succ]
    go_wp2_with fail
    go_loopw [5, 6, 29] (fun y x i wr => ∃ j : Nat, j ≤ l.length ∧ i = .int .i64 j ∧ x = .int .u32 ((aSum (lo, hi) (l.take j)).1 : Nat) ∧ y = .int .u32 ((aSum (lo, hi) (l.take j)).2 : Nat) ∧ wr = w1) (fun _ _ i _ => l.length - (intOf i).toNat)
    case atStart => exact ⟨0, by omega, rfl, rfl, rfl, rfl⟩
    case round =>
      obtain ⟨j, hj, rfl, rfl, rfl, rfl⟩ := hrel
      by_cases hlt : j < l.length
      · have hcl := hx j (bv l[j]) (by rw [List.getElem?_map, List.getElem?_eq_getElem hlt]; rfl)
        rw [Addr.add_lit] at hcl
        have hc : l[j] < 256 := hl _ (List.getElem_mem hlt)
        have hstep : aSum (lo, hi) (l.take (j + 1)) = aStep (aSum (lo, hi) (l.take j)) l[j] := by
          rw [List.take_succ_eq_append_getElem hlt, aSum_snoc]
        have hsm := aSum_small (l := l.take (j + 1)) (s := (lo, hi)) (fun b hb => hl b (List.mem_of_mem_take hb)) h2 h1 (by rw [List.length_take]; omega)
        rw [hstep] at hsm
        unfold aStep at hstep hsm
        generalize (aSum (lo, hi) (l.take j)).1 = X at *
        generalize (aSum (lo, hi) (l.take j)).2 = Y at *
        generalize l[j] = c at *
        have w1' : IntKind.u32.wrap ((X : Int) + (c : Int)) = (X : Int) + (c : Int) := wraps_u32 _ (by omega) (by omega)
        have w2' : IntKind.u32.wrap ((Y : Int) + ((X : Int) + (c : Int))) = (Y : Int) + ((X : Int) + (c : Int)) := wraps_u32 _ (by omega) (by omega)
        have HS := Lib.hid hstep
        clear hstep hsm
        go_wp2_with fail
        exact ⟨⟨j + 1, by omega, by push_cast; rfl, by rw [HS.out]; push_cast; rfl, by rw [HS.out]; push_cast; rfl, trivial⟩, by simp [intOf]; omega⟩
      · have hje : j = l.length := by omega
        subst hje
        rw [List.take_length]
        have hor := hfin _ _ (adler_lt (lo, hi) l).1 (adler_lt (lo, hi) l).2
        have hq1 : (((aSum (lo, hi) l).1 : Nat) : Int) % 65521 = ((adler (lo, hi) l).1 : Nat) := by unfold adler cutDown; omega
        have hq2 : (((aSum (lo, hi) l).2 : Nat) : Int) % 65521 = ((adler (lo, hi) l).2 : Nat) := by unfold adler cutDown; omega
        have hsn : sumNum ((adler (lo, hi) l).1, (adler (lo, hi) l).2) = sumNum (adler (lo, hi) l) := rfl
        rw [hsn] at hor
        have hlt2 := adler_lt (lo, hi) l
        have t2 : IntKind.u32.wrap (((adler (lo, hi) l).2 : Nat) * 65536 : Int) = ((adler (lo, hi) l).2 : Nat) * 65536 := wraps_u32 _ (by omega) (by omega)
        generalize (aSum (lo, hi) l).1 = X at *
        generalize (aSum (lo, hi) l).2 = Y at *
        obtain ⟨S, hS⟩ : ∃ S, S = sumNum (adler (lo, hi) l) := ⟨_, rfl⟩
        rw [← hS] at hor
        have HSS := Lib.hid hS
        clear hS
        generalize (adler (lo, hi) l).1 = a1 at *
        generalize (adler (lo, hi) l).2 = a2 at *
        clear hlt2
        go_wp2_with fail
        all_goals
          rw [rounds_succ]
          go_wp2_with fail
          go_ret
          exact ⟨by rw [← HSS.out]; rfl, rfl⟩

set_option maxHeartbeats 4000000 in
set_option maxRecDepth 100000 in
theorem sumSum_any (A : Option Addr) (n cap : Nat) (l : List Nat) (w : World) (h : Byt w (.slice A n cap) l) (hl : ∀ b ∈ l, b < 256) (hm : l.length ≤ 5000) :
    Gives 161 #[.slice A n cap] w (.int .u32 (sumB l)) := by
  have g' := sumMore_any 0 1 A n cap l w h hl (by decide) (by decide) hm
  rw [show sumNum (1, 0) = 1 from rfl, show sumNum (adler (1, 0) l) = sumB l from rfl] at g'
  generalize sumB l = S at *
  have g := Lib.hid g'
  clear h g' hl hm
  go_enter Tryz.func161, Tryz.ntmps161
  go_wp2_with fail
  refine g.out.mono ?_; rintro e w1 ⟨rfl, rfl⟩
  go_wp2_with fail
  go_ret
  exact ⟨rfl, rfl⟩

set_option maxHeartbeats 4000000 in
set_option maxRecDepth 100000 in
theorem rsumMay_any (hi lo : Nat) (w : World) (h1 : hi < 65521) (h2 : lo < 65521) : Gives 190 #[.int .u32 (sumNum (lo, hi))] w (.bool true) := by
  have e1 : ((sumNum (lo, hi) : Nat) : Int) / 65536 = hi := by unfold sumNum; omega
  have e2 : ((sumNum (lo, hi) : Nat) : Int) % 65536 = lo := by unfold sumNum; omega
  have t1 : decide ((hi : Int) < 65521) = true := decide_eq_true (by omega)
  have t2 : decide ((lo : Int) < 65521) = true := decide_eq_true (by omega)
  have e3 : ((sumNum (lo, hi) : Nat) : Int).tdiv 65536 % 4294967296 = hi := by rw [Int.tdiv_eq_ediv_of_nonneg (by omega), e1]; omega
  have e4 : ((sumNum (lo, hi) : Nat) : Int).tmod 65536 = lo := by rw [Int.tmod_eq_emod_of_nonneg (by omega), e2]
  clear e1 e2
  generalize ((sumNum (lo, hi) : Nat) : Int) = z at *
  generalize (hi : Int) = a at *
  generalize (lo : Int) = b at *
  clear h1 h2
  go_enter Tryz.func190, Tryz.ntmps190
  go_wp2_with fail
  go_ret
  exact ⟨rfl, rfl⟩

set_option maxHeartbeats 4000000 in
set_option maxRecDepth 100000 in
theorem rsumMore_any (hi lo : Nat) (A : Option Addr) (n cap : Nat) (l : List Nat) (w : World) (h : Byt w (.slice A n cap) l) (hl : ∀ b ∈ l, b < 256) (h1 : hi < 65521) (h2 : lo < 65521) (hm : l.length ≤ 100000) :
    Gives 173 #[.int .u32 (sumNum (lo, hi)), .slice A n cap] w (.int .u32 (sumNum (adler (lo, hi) l))) := by
  have g0 := Lib.hid (rsumMay_any hi lo w h1 h2)
  have e1 : ((sumNum (lo, hi) : Nat) : Int) / 65536 = hi := by unfold sumNum; omega
  have e2 : ((sumNum (lo, hi) : Nat) : Int) % 65536 = lo := by unfold sumNum; omega
  have hx : ∀ j, (hj : j < l.length) → ∃ b off, A = some ⟨b, off, none⟩ ∧ b < w.heap.size ∧ w.cell? ⟨b, off + j, none⟩ = some (bv l[j]) := by
    intro j hj
    obtain ⟨b, off, hA, hb, hx⟩ := Byt.cell h (by omega)
    have hcl := hx j (bv l[j]) (by rw [List.getElem?_map, List.getElem?_eq_getElem hj]; rfl)
    rw [Addr.add_lit] at hcl
    exact ⟨b, off, hA, hb, hcl⟩
  have HX := Lib.hid hx
  have hn := h.len
  rw [List.length_map] at hn
  subst hn
  have hrs := rSum_adler (s := (lo, hi)) h2 h1
  have hrl : ∀ m, (rSum (lo, hi) m).1 < 65521 ∧ (rSum (lo, hi) m).2 < 65521 := fun m => by rw [hrs]; exact adler_lt _ _
  rw [← hrs]
  have HL := Lib.hid hrl
  clear h hx hrs hrl
  generalize sumNum (lo, hi) = s0 at *
  go_enter Tryz.func173, Tryz.ntmps173
  go_wp2_with fail
  refine g0.out.mono ?_; rintro e w1 ⟨rfl, rfl⟩
  go_wp2_with fail
  go_loopw [5, 6, 18] (fun y x i wr => ∃ j : Nat, j ≤ l.length ∧ i = .int .i64 j ∧ x = .int .u32 ((rSum (lo, hi) (l.take j)).1 : Nat) ∧ y = .int .u32 ((rSum (lo, hi) (l.take j)).2 : Nat) ∧ wr = w1) (fun _ _ i _ => l.length - (intOf i).toNat)
  case atStart => exact ⟨0, by omega, rfl, by rw [e2]; rfl, rfl, rfl⟩
  case round =>
    obtain ⟨j, hj, rfl, rfl, rfl, rfl⟩ := hrel
    by_cases hlt : j < l.length
    · obtain ⟨b, off, rfl, hb, hcl⟩ := HX.out j hlt
      have hc : l[j] < 256 := hl _ (List.getElem_mem hlt)
      have hstep : rSum (lo, hi) (l.take (j + 1)) = rStep (rSum (lo, hi) (l.take j)) l[j] := by
        rw [List.take_succ_eq_append_getElem hlt, rSum_snoc]
      have hsm := HL.out (l.take j)
      unfold rStep at hstep
      generalize (rSum (lo, hi) (l.take j)).1 = X at *
      generalize (rSum (lo, hi) (l.take j)).2 = Y at *
      generalize l[j] = c at *
      have w1' : IntKind.u32.wrap ((X : Int) + (c : Int)) = (X : Int) + (c : Int) := wraps_u32 _ (by omega) (by omega)
      have w2' : IntKind.u32.wrap ((Y : Int) + ((X : Int) + (c : Int)) % 65521) = (Y : Int) + ((X : Int) + (c : Int)) % 65521 := wraps_u32 _ (by omega) (by omega)
      have HS := Lib.hid hstep
      clear hstep hsm
      go_wp2_with fail
      exact ⟨⟨j + 1, by omega, by push_cast; rfl, by rw [HS.out]; rfl, by rw [HS.out]; rfl, trivial⟩, by simp [intOf]; omega⟩
    · have hje : j = l.length := by omega
      subst hje
      rw [List.take_length]
      have hlt2 := HL.out l
      obtain ⟨S, hS⟩ : ∃ S, S = sumNum (rSum (lo, hi) l) := ⟨_, rfl⟩
      have hor : IntKind.u32.wrap (IntKind.u32.wrap (65536 * (((rSum (lo, hi) l).2 : Nat) : Int)) + (((rSum (lo, hi) l).1 : Nat) : Int)) = (S : Int) := by
        rw [wraps_u32 (65536 * _) (by omega) (by omega), wraps_u32 _ (by omega) (by omega), hS]
        unfold sumNum
        omega
      have hor1 : IntKind.u32.wrap (65536 * (((rSum (lo, hi) l).2 : Nat) : Int)) = 65536 * (((rSum (lo, hi) l).2 : Nat) : Int) := wraps_u32 _ (by omega) (by omega)
      rw [hor1] at hor
      have HSS := Lib.hid hS
      clear hS
      generalize (rSum (lo, hi) l).1 = X at *
      generalize (rSum (lo, hi) l).2 = Y at *
      clear hlt2
      go_wp2_with fail
      go_ret
      exact ⟨by rw [← HSS.out]; rfl, rfl⟩

set_option maxHeartbeats 4000000 in
set_option maxRecDepth 100000 in
theorem rsumSum_any (A : Option Addr) (n cap : Nat) (l : List Nat) (w : World) (h : Byt w (.slice A n cap) l) (hl : ∀ b ∈ l, b < 256) (hm : l.length ≤ 100000) :
    Gives 147 #[.slice A n cap] w (.int .u32 (sumB l)) := by
  have g' := rsumMore_any 0 1 A n cap l w h hl (by decide) (by decide) hm
  rw [show sumNum (1, 0) = 1 from rfl, show sumNum (adler (1, 0) l) = sumB l from rfl] at g'
  generalize sumB l = S at *
  have g := Lib.hid g'
  clear h g' hl hm
  go_enter Tryz.func147, Tryz.ntmps147
  go_wp2_with fail
  refine g.out.mono ?_; rintro e w1 ⟨rfl, rfl⟩
  go_wp2_with fail
  go_ret
  exact ⟨rfl, rfl⟩
end Go.Proofs.YtnmeaminfoopmaaGreatDoor

