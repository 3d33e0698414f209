/- The reference of layer 3: numbers and texts behind bytes. -/
import Derived.Test.YtnmeaminfoopmaaGreatDoorPack
import Derived.Test.YtnmeaminfoopmaaGreatDoorMg1
import Derived.Lib.MakeNoZero
import Derived.Laws.Externs
import Derived.Laws.MathBits
namespace Go.Proofs.YtnmeaminfoopmaaGreatDoor
open Go.RowKit

/-- Bytes as a string. -/
theorem conv_any {w : World} {A : Option Addr} {n cap : Nat} {l : List Nat} (h : Byt w (.slice A n cap) l) :
    (convert 95 9 (.slice A n cap)).run Tryz.prog w = .ok (.string (toB l)) w := by
  have hn := h.len
  rw [List.length_map] at hn
  subst hn
  by_cases h0 : l.length = 0
  · have : l = [] := List.eq_nil_of_length_eq_zero h0
    subst this
    cases A with
    | none => exact run_convert_bytes_nil w 95 5 Tryz.underlying95 Tryz.underlying5 _ _ 9 Tryz.underlying9
    | some ad =>
      rw [run_convert_bytes_string w 95 9 5 (some ad) _ cap Tryz.underlying95 Tryz.underlying5 Tryz.underlying9]
      have := run_bytesToString (P := Tryz.prog) w ad 0 cap [] (by simpa using run_loadCells_list (P := Tryz.prog) w ad [] (by simp))
      exact this
  · obtain ⟨b, off, rfl, hb, hx⟩ := Byt.cell h (by omega)
    have := conv_piece (cap := cap) hx 0 l.length (by omega)
    rw [Nat.add_zero, List.drop_zero, List.take_length] at this
    exact this
/-- A call that comes back with bytes of its own. -/
abbrev MakesB (f : FuncId) (args : Array Value) (w : World) (l : List Nat) : Prop :=
  Calls Tryz.prog f args w fun e w' => ∃ v, e = .returned v ∧ w'.ownsRow w.heap.size 5 1 v l.length (l.map bv) ∧ (∃ ad n c, v = .slice (some ad) n c) ∧ Below w.heap.size w w'
theorem own_Byt {w : World} {base : Nat} {v : Value} {l : List Nat} (h : w.ownsRow base 5 1 v l.length (l.map bv)) : Byt w v l := by
  have := own_Sl (xs := l.map bv) (by rw [List.length_map]; exact h)
  rwa [List.map_map] at this
theorem Byt.src {w : World} {ad : Addr} {n cap : Nat} {l : List Nat} (h : Byt w (.slice (some ad) n cap) l) : ∀ j u, (l.map bv)[j]? = some u → w.cell? (ad.add j) = some u := by
  intro j u hj
  by_cases hp : 0 < l.length
  · obtain ⟨b, off, he, _, hx⟩ := Byt.cell h hp
    injection he with he
    subst he
    exact hx j u hj
  · have : l = [] := List.eq_nil_of_length_eq_zero (by omega)
    subst this
    cases hj
theorem own_empty (w : World) (e : TypeId) : (w.alloc (.cells #[] e)).ownsRow w.heap.size e 1 (.slice (some ⟨w.heap.size, 0, none⟩) 0 0) 0 [] :=
  ⟨rfl, .inr ⟨w.heap.size, 0, #[], rfl, Nat.le_refl _, blk_new _ _, Nat.le_refl _, by unfold maxLen; omega, rfl, rfl⟩⟩

theorem cell_heap {w v : World} {g : Nat} (h : v.heap[g]? = w.heap[g]?) {o : Nat} : v.cell? ⟨g, o, none⟩ = w.cell? ⟨g, o, none⟩ := by simp [World.cell?, h]
theorem heap_old (w : World) (x : Obj) {g : Nat} (h : g < w.heap.size) : (w.alloc x).heap[g]? = w.heap[g]? := by
  show (w.heap.push x)[g]? = w.heap[g]?
  rw [Array.getElem?_push, if_neg (by omega)]

set_option maxHeartbeats 1000000 in
theorem rwide_any (n : Int) (w : World) (h1 : 1 ≤ n) (h2 : n ≤ 8) : Gives 172 #[i64 n] w (i64 n) := by
  go_enter Tryz.func172, Tryz.ntmps172
  go_wp2_with fail
  go_ret
  exact ⟨rfl, rfl⟩

set_option maxHeartbeats 4000000 in
set_option maxRecDepth 100000 in
theorem rPut_any (ad : Addr) (n cap : Nat) (l : List Nat) (k x : Nat) (w : World) (h : Byt w (.slice (some ad) n cap) l) (hk : 1 ≤ k) (hk2 : k ≤ 8) (hx : x < 2 ^ 64) (hm : l.length ≤ 100000) :
    MakesB 171 #[.slice (some ad) n cap, i64 k, .int .u64 x] w (l ++ be k x) := by
  have g0 := fun W => Lib.hid (rwide_any k W (by omega) (by omega))
  have hn := h.len
  rw [List.length_map] at hn
  subst hn
  obtain ⟨i0, hi, hz0, hz1, hz2⟩ := info_parts info_u8
  have hsrc := Byt.src (Sl.below h (Base.al (Below.refl _ _) (.cells #[] 5)))
  have hone : ∀ u ∈ l.map bv, u.oneCell' = true := by intro v hv; obtain ⟨x, _, rfl⟩ := List.mem_map.1 hv; rfl
  have hll : (l.map bv).length = l.length * 1 := by rw [List.length_map, Nat.mul_one]
  go_enter Tryz.func171, Tryz.ntmps171
  go_wp2_with (at_builtin; go_must (refine wpList_append_own _ rfl _ _ 95 rfl w.heap.size 5 i0 _ 1 1 Tryz.underlying95 hi hz0 hz1 hz2 rfl (by decide) _ _ _ rfl (own_empty _ _) ad l.length cap (l.map bv) rfl hll hsrc hone ?c3 ?c4 ?c5 ?_))
  case c3 => unfold maxLen; omega
  case c4 => omega
  case c5 => simp
  intro v1 w1 hown1 hgrow _
  have hb1 : Below w.heap.size w w1 := Base.gr (Base.al (Below.refl _ _) _) hgrow (fun g hg => ((own_empty w 5).lt g hg).1)
  have hown0 := own_empty w1 5
  clear hgrow hsrc h
  go_wp2_with fail
  go_loopw [2, 8, 9] (fun q dv i wr => ∃ j : Nat, j ≤ k ∧ i = .int .i64 j ∧ q = .int .u64 (x / 256 ^ j : Nat) ∧ wr.ownsRow w1.heap.size 5 1 dv j ((le j x).map bv) ∧ Below w1.heap.size w1 wr) (fun _ _ i _ => k - (intOf i).toNat)
  case atStart => exact ⟨0, by omega, rfl, by simp, hown0, Base.al (Below.refl _ _) _⟩
  case round =>
    obtain ⟨j, hj, rfl, rfl, hown, hb⟩ := hrel
    by_cases hlt : j < k
    · have hle : (le (j + 1) x).map bv = (le j x).map bv ++ [.int .u8 (((x / 256 ^ j : Nat) : Int) % 256)] := by rw [le, List.map_append]; rfl
      have hx1 : x / 256 ^ j / 256 = x / 256 ^ (j + 1) := by rw [Nat.div_div_eq_div_mul, Nat.pow_succ]
      have HLE := Lib.hid hle
      have HX1 := Lib.hid hx1
      clear hle hx1
      have hq : x / 256 ^ j < 2 ^ 64 := Nat.lt_of_le_of_lt (Nat.div_le_self _ _) hx
      generalize x / 256 ^ j = q at *
      go_wp2_with fail
      refine (g0 _).out.mono ?_; rintro e w' ⟨rfl, rfl⟩
      go_wp2_with (at_builtin; refine wpList_append_own _ rfl _ _ 95 rfl w1.heap.size 5 i0 _ 1 1 Tryz.underlying95 hi hz0 hz1 hz2 rfl (by decide) _ _ _ rfl (hown.alloc _) ⟨w'.heap.size, 0, none⟩ 1 1 [.int .u8 ((q : Int) % 256)] rfl rfl ?c1 ?c2 ?c3 ?c4 ?c5 ?_)
      case c1 => exact news_of _ _ _
      case c2 => simp [Value.oneCell']
      case c3 => unfold maxLen; omega
      case c4 => omega
      case c5 => have := hb.size; (try simp at this); (try simp); omega
      intro v' w2 hown2 hgrow _
      have hb2 := Base.gr (Base.al hb _) hgrow (fun g hg => (hown.lt g hg).1)
      go_wp2_with fail
      refine ⟨⟨j + 1, by omega, by push_cast; rfl, by rw [← HX1.out]; push_cast; rfl, ?_, hb2⟩, by simp [intOf]; omega⟩
      rw [HLE.out]
      exact hown2
    · have hje : j = k := by omega
      subst hje
      obtain ⟨dg, dc, rfl, hd0, hd1, hd2, hd3⟩ := own_pos hown (by omega) (by omega)
      have hownv := own_below hown1 hb
      have hbw := Base.tr hb1 hb
      have hvb : v1.ownBlock ≠ some dg := fun e => by have := (hown1.lt _ e).2; omega
      have hlen := le_len j x
      have hrev := le_rev j x
      generalize le j x = D at *
      generalize x / 256 ^ j = q at *
      go_wp2_with fail
      refine (g0 _).out.mono ?_; rintro e w' ⟨rfl, rfl⟩
      go_wp2_with fail
      go_loopw [7, 10] (fun v i wr => ∃ m : Nat, m ≤ j ∧ i = .int .i64 ((m : Int) - 1) ∧ wr.ownsRow w.heap.size 5 1 v (l.length + (j - m)) (l.map bv ++ ((D.drop m).reverse).map bv) ∧ v.ownBlock ≠ some dg ∧ Below w.heap.size w wr ∧ dg < wr.heap.size ∧ ∀ (q : Nat) (u : Value), (D.map bv)[q]? = some u → wr.cell? ⟨dg, q, none⟩ = some u) (fun _ i _ => (intOf i + 1).toNat)
      case atStart => exact ⟨j, by omega, rfl, by rw [List.drop_of_length_le (by omega)]; simpa using hownv, hvb, hbw, hd1, hd3⟩
      case round =>
        obtain ⟨m, hmj, rfl, hownm, hvm, hbm, hdm, hcm⟩ := hrel
        by_cases hpos : 0 < m
        · have hm1 : m - 1 < D.length := by omega
          have hcl := hcm (m - 1) (bv D[m - 1]) (by rw [List.getElem?_map, List.getElem?_eq_getElem hm1]; rfl)
          have hdr : (D.drop (m - 1)).reverse.map bv = (D.drop m).reverse.map bv ++ [bv D[m - 1]] := by
            rw [List.drop_eq_getElem_cons hm1, show m - 1 + 1 = m by omega, List.reverse_cons, List.map_append]; rfl
          generalize D[m - 1] = d at *
          obtain ⟨p, rfl⟩ : ∃ p, m = p + 1 := ⟨m - 1, by omega⟩
          rw [show p + 1 - 1 = p by omega] at *
          go_wp2_with (at_builtin; refine wpList_append_apart _ rfl _ _ 95 rfl w.heap.size 5 i0 _ 1 1 Tryz.underlying95 hi hz0 hz1 hz2 rfl (by decide) _ _ _ rfl (hownm.alloc _) ⟨wr.heap.size, 0, none⟩ 1 1 [bv d] rfl rfl ?c1 ?c2 ?c3 ?c4 ?c5 ?_)
          case c1 => exact news_of _ _ _
          case c2 => simp [Value.oneCell']
          case c3 => unfold maxLen; omega
          case c4 => omega
          case c5 => have := hbm.size; (try simp at this); (try simp); omega
          intro v' w2 hown2 hgrow hblk
          have hb2 := Base.gr (Base.al hbm _) hgrow (fun g hg => (hownm.lt g hg).1)
          go_wp2_with fail
          have hgb : w2.heap[dg]? = (wr.alloc (.cells #[bv d] 5)).heap[dg]? := hgrow.block dg (by simp; omega) (fun e => hvm e.symm)
          refine ⟨⟨p, by omega, by push_cast; first | (congr 1; done) | (congr 1; omega), ?_, ?_, hb2, ?_, ?_⟩, by simp [intOf]⟩
          · rw [hdr, show l.length + (j - p) = l.length + (j - (p + 1)) + 1 by omega]
            simpa using hown2
          · rcases hblk with e | e
            · rw [e]; exact hvm
            · rw [e]
              intro e2
              injection e2 with e2
              omega
          · have := hgrow.size
            simp at this
            omega
          · intro q u hq
            rw [cell_heap hgb, cell_heap (heap_old _ _ hdm)]
            exact hcm q u hq
        · have hm0 : m = 0 := by omega
          subst hm0
          rw [List.drop_zero, hrev, ← List.map_append] at hownm
          go_wp2_with fail
          obtain ⟨g, gc, rfl, _⟩ := own_pos hownm (by omega) (by omega)
          go_ret
          refine ⟨_, rfl, ?_, ⟨_, _, _, rfl⟩, hbm⟩
          rw [List.length_append, be_len]
          exact hownm

theorem strCells_sb (s : ByteArray) : Lib.strCells s = (sb s).map bv := by unfold Lib.strCells sb; rw [List.map_map]; rfl

set_option maxHeartbeats 4000000 in
set_option maxRecDepth 100000 in
theorem rGet_any (A : Option Addr) (n cap : Nat) (l : List Nat) (a k : Nat) (w : World) (h : Byt w (.slice A n cap) l) (hl : ∀ b ∈ l, b < 256) (ha : a ≤ l.length) (hk : 1 ≤ k) (hk2 : k ≤ 8) (hm : l.length ≤ 100000) :
    Gives 146 #[.slice A n cap, i64 a, i64 k] w (.tuple #[.int .u64 (pGet l a k).1, i64 (pGet l a k).2.1, i64 (pGet l a k).2.2]) := by
  have g0 := fun W => Lib.hid (rwide_any k W (by omega) (by omega))
  have hn := h.len
  rw [List.length_map] at hn
  subst hn
  have hxs : ∀ j, a + j < l.length → ∃ b off, A = some ⟨b, off, none⟩ ∧ b < w.heap.size ∧ ∃ c, c < 256 ∧ w.cell? ⟨b, off + (a + j), none⟩ = some (bv c) ∧ beVal ((l.drop a).take (j + 1)) = beVal ((l.drop a).take j) * 256 + c := by
    intro j hj
    obtain ⟨b, off, hA, hb, hx⟩ := Byt.cell h (by omega)
    have hcl := hx (a + j) (bv l[a + j]) (by rw [List.getElem?_map, List.getElem?_eq_getElem hj]; rfl)
    rw [Addr.add_lit] at hcl
    refine ⟨b, off, hA, hb, l[a + j], hl _ (List.getElem_mem hj), hcl, ?_⟩
    have hstep : (l.drop a).take (j + 1) = (l.drop a).take j ++ [l[a + j]] := by
      rw [List.take_succ_eq_append_getElem (by rw [List.length_drop]; omega)]
      congr 2
      rw [List.getElem_drop]
    rw [hstep, beVal_snoc]
  have hXlt : ∀ j, j < k → beVal ((l.drop a).take j) < 256 ^ 7 := by
    intro j hj
    refine Nat.lt_of_lt_of_le (beVal_lt _ (fun b hb => hl b (List.mem_of_mem_drop (List.mem_of_mem_take hb)))) ?_
    exact Nat.pow_le_pow_right (by decide) (by rw [List.length_take, List.length_drop]; omega)
  have HX := Lib.hid hxs
  have HL := Lib.hid hXlt
  clear hxs hXlt h
  have t1 : decide (l.length < a) = false := decide_eq_false (by omega)
  have t2 : decide ((a : Int) < 0) = false := decide_eq_false (by omega)
  go_enter Tryz.func146, Tryz.ntmps146
  go_wp2_with fail
  go_loopw [9, 10] (fun x i wr => ∃ j : Nat, j ≤ k ∧ i = .int .i64 j ∧ a + j ≤ l.length ∧ x = .int .u64 (beVal ((l.drop a).take j)) ∧ wr = w) (fun _ i _ => k - (intOf i).toNat)
  case atStart => exact ⟨0, by omega, rfl, by omega, by simp [beVal], rfl⟩
  case round =>
    obtain ⟨j, hj, rfl, haj, rfl, rfl⟩ := hrel
    by_cases hlt : j < k
    · by_cases hin : a + j < l.length
      · obtain ⟨b, off, rfl, hb, c, hc, hcl, hstep⟩ := HX.out j hin
        have hX := HL.out j hlt
        generalize beVal ((l.drop a).take j) = X at *
        have HS := Lib.hid hstep
        clear hstep
        go_wp2_with fail
        refine (g0 _).out.mono ?_; rintro e w' ⟨rfl, rfl⟩
        go_wp2_with fail
        exact ⟨⟨j + 1, by omega, by push_cast; rfl, by omega, by rw [HS.out]; push_cast; congr 1; omega, trivial⟩, by simp [intOf]; omega⟩
      · have hs : l.length < a + k := by omega
        have hX := HL.out j hlt
        generalize beVal ((l.drop a).take j) = X at *
        go_wp2_with fail
        refine (g0 _).out.mono ?_; rintro e w' ⟨rfl, rfl⟩
        go_wp2_with fail
        exact bodyPost_ret (v := .tuple #[.int .u64 0, i64 0, i64 3]) (by simp [results, Tryz.results146, go_sem]) rfl ⟨by rw [show pGet l a k = (0, 0, 3) from if_pos hs]; rfl, rfl⟩
    · have hje : j = k := by omega
      subst hje
      have hs : ¬ l.length < a + j := by omega
      have hv : pGet l a j = (beVal ((l.drop a).take j), a + j, 0) := if_neg hs
      have HV := Lib.hid hv
      clear hv
      generalize beVal ((l.drop a).take j) = X at *
      go_wp2_with fail
      refine (g0 _).out.mono ?_; rintro e w' ⟨rfl, rfl⟩
      go_wp2_with fail
      refine (g0 _).out.mono ?_; rintro e w' ⟨rfl, rfl⟩
      go_wp2_with fail
      exact bodyPost_ret (v := .tuple #[.int .u64 X, i64 (a + j), i64 0]) (by simp [results, Tryz.results146, go_sem]) rfl ⟨by rw [HV.out]; push_cast; rfl, rfl⟩

theorem toB_snoc (l : List Nat) (c : Nat) : toB l ++ toB [c] = toB (l ++ [c]) := by
  unfold toB
  apply ByteArray.ext
  simp

set_option maxHeartbeats 4000000 in
set_option maxRecDepth 100000 in
theorem rText_any (A : Option Addr) (n cap : Nat) (l : List Nat) (a most : Nat) (w : World) (h : Byt w (.slice A n cap) l) (hl : ∀ b ∈ l, b < 256) (ha : a ≤ l.length) (hmo : most ≤ 255) (hm : l.length ≤ 100000) :
    Makes 149 #[.slice A n cap, i64 a, i64 most] w (.tuple #[.string (toB (pText l a most).1), i64 (pText l a most).2.1, i64 (pText l a most).2.2]) := by
  have g1 := fun W hW => rGet_any A n cap l a 1 W hW hl ha (by omega) (by omega) hm
  have hn := h.len
  rw [List.length_map] at hn
  subst hn
  have g1 := g1 w h
  by_cases h1 : l.length < a + 1
  · have hv : pText l a most = ([], 0, 3) := if_pos h1
    rw [hv]
    have hg : pGet l a 1 = (0, 0, 3) := if_pos h1
    rw [hg] at g1
    have G1 := Lib.hid g1
    clear hv hg g1 h
    go_enter Tryz.func149, Tryz.ntmps149
    go_wp2_with fail
    refine G1.out.mono ?_; rintro e w' ⟨rfl, rfl⟩
    go_wp2_with fail
    exact bodyPost_ret (v := .tuple #[.string { data := #[] }, i64 0, i64 3]) (by simp [results, Tryz.results149, go_sem]) rfl ⟨rfl, Below.refl _ _⟩
  · obtain ⟨b, off, rfl, hb, hx⟩ := Byt.cell h (by omega)
    have hal : a < l.length := by omega
    have hc : l[a] < 256 := hl _ (List.getElem_mem hal)
    have hg : pGet l a 1 = (l[a], a + 1, 0) := by
      unfold pGet
      rw [if_neg h1]
      have : (l.drop a).take 1 = [l[a]] := by rw [List.drop_eq_getElem_cons hal]; rfl
      rw [this]
      simp [beVal]
    have hd : l.getD a 0 = l[a] := by rw [List.getD_eq_getElem?_getD, List.getElem?_eq_getElem hal]; rfl
    rw [hg] at g1
    have hpt : pText l a most = if most < l[a] then ([], 0, 4) else if l.length < a + 1 + l[a] then ([], 0, 3) else ((l.drop (a + 1)).take l[a], a + 1 + l[a], 0) := by unfold pText; rw [if_neg h1, hd]
    generalize l[a] = c at *
    have G1 := Lib.hid g1
    clear g1 hg h hd
    by_cases h2 : most < c
    · rw [if_pos h2] at hpt
      rw [hpt]
      clear hpt
      go_enter Tryz.func149, Tryz.ntmps149
      go_wp2_with fail
      refine G1.out.mono ?_; rintro e w' ⟨rfl, rfl⟩
      go_wp2_with fail
      exact bodyPost_ret (v := .tuple #[.string { data := #[] }, i64 0, i64 4]) (by simp [results, Tryz.results149, go_sem]) rfl ⟨rfl, Below.refl _ _⟩
    · rw [if_neg h2] at hpt
      have HPT := Lib.hid hpt
      clear hpt
      go_enter Tryz.func149, Tryz.ntmps149
      go_wp2_with fail
      refine G1.out.mono ?_; rintro e w' ⟨rfl, rfl⟩
      go_wp2_with fail
      go_loopw [12, 13] (fun x i wr => ∃ j : Nat, j ≤ c ∧ i = .int .i64 j ∧ a + 1 + j ≤ l.length ∧ x = .string (toB ((l.drop (a + 1)).take j)) ∧ Below w'.heap.size w' wr) (fun _ i _ => c - (intOf i).toNat)
      case atStart => exact ⟨0, by omega, rfl, by omega, rfl, Below.refl _ _⟩
      case round =>
        obtain ⟨j, hj, rfl, haj, rfl, hbw⟩ := hrel
        by_cases hlt : j < c
        · by_cases hin : a + 1 + j < l.length
          · have hcl := hx (a + 1 + j) (bv l[a + 1 + j]) (by rw [List.getElem?_map, List.getElem?_eq_getElem hin]; rfl)
            rw [Addr.add_lit] at hcl
            have hcl2 : wr.cell? ⟨b, off + (a + 1 + j), none⟩ = some (bv l[a + 1 + j]) := by rw [(rd hbw).1 b _ hb]; exact hcl
            have hb2 : b < wr.heap.size := Nat.lt_of_lt_of_le hb hbw.size
            have hstep : toB ((l.drop (a + 1)).take (j + 1)) = toB ((l.drop (a + 1)).take j) ++ toB [l[a + 1 + j]] := by
              rw [List.take_succ_eq_append_getElem (by rw [List.length_drop]; omega), List.getElem_drop, toB_snoc]
            have HS := Lib.hid hstep
            generalize l[a + 1 + j] = d at *
            have hcv : (convert 95 9 (.slice (some ⟨wr.heap.size, 0, none⟩) 1 1)).run Tryz.prog (wr.alloc (.cells #[bv d] 5)) = .ok (.string (toB [d])) (wr.alloc (.cells #[bv d] 5)) := by
              have := conv_piece (w := wr.alloc (.cells #[bv d] 5)) (b := wr.heap.size) (off := 0) (cap := 1) (l := [d]) (news_of wr [bv d] _) 0 1 (by simp)
              simpa using this
            clear hcl hstep
            have hi1 : (0 : Int) ≤ (a : Int) + 1 + (j : Int) ∧ (a : Int) + 1 + (j : Int) < (l.length : Int) := by omega
            have hi2 : ((a : Int) + 1 + (j : Int)).toNat = a + 1 + j := by omega
            have hX : (toB ((l.drop (a + 1)).take j)).size ≤ 300 := by rw [toB_size, List.length_take]; omega
            have hY : (toB [d]).size ≤ 1 := by rw [toB_size]; simp
            generalize toB ((l.drop (a + 1)).take j) = X at *
            generalize toB [d] = Y at *
            have hXY : ¬ 9223372036854775807 < X.size + Y.size := by omega
            go_wp2_with fail
            exact ⟨⟨j + 1, by omega, by push_cast; rfl, by omega, by rw [HS.out], Base.al hbw _⟩, by simp [intOf]; omega⟩
          · have hs : l.length < a + 1 + c := by omega
            generalize toB ((l.drop (a + 1)).take j) = X at *
            go_wp2_with fail
            exact bodyPost_ret (v := .tuple #[.string { data := #[] }, i64 0, i64 3]) (by simp [results, Tryz.results149, go_sem]) rfl ⟨by rw [HPT.out, if_pos hs]; rfl, hbw⟩
        · have hje : j = c := by omega
          subst hje
          have hs : ¬ l.length < a + 1 + j := by omega
          have hpt := HPT.out
          rw [if_neg hs] at hpt
          have HP := Lib.hid hpt
          clear hpt HPT
          go_wp2_with fail
          exact bodyPost_ret (v := .tuple #[.string (toB ((l.drop (a + 1)).take j)), i64 (a + 1 + j), i64 0]) (by simp [results, Tryz.results149, go_sem]) rfl ⟨by rw [HP.out]; push_cast; rfl, hbw⟩
end Go.Proofs.YtnmeaminfoopmaaGreatDoor

/- bytes.Repeat at one byte 255. -/
namespace Go.Proofs.YtnmeaminfoopmaaGreatDoor
open Go.RowKit

set_option maxHeartbeats 2000000 in
set_option maxRecDepth 100000 in
theorem mul64_any (n : Nat) (w : World) (hn : n ≤ 65536) : Gives 131 #[.int .u64 1, .int .u64 n] w (.tuple #[.int .u64 0, .int .u64 n]) := by
  have e1 : bits .and .u64 1 4294967295 = 1 := and_low32 1 (by decide) (by decide)
  have e2 : bits .and .u64 (n : Int) 4294967295 = n := by rw [and_low32 n (by omega) (by omega)]; omega
  have e3 : bits .and .u64 0 4294967295 = 0 := and_low32 0 (by decide) (by decide)
  have hq : (n : Int) / 4294967296 = 0 := by omega
  go_enter Tryz.func131, Tryz.ntmps131
  go_wp2_with fail
  go_ret2
  exact ⟨rfl, rfl⟩
set_option maxHeartbeats 2000000 in
set_option maxRecDepth 100000 in
theorem mul_any (n : Nat) (w : World) (hn : n ≤ 65536) : Gives 77 #[.int .u64 1, .int .u64 n] w (.tuple #[.int .u64 0, .int .u64 n]) := by
  have g0 := fun W => Lib.hid (mul64_any n W hn)
  go_enter Tryz.func77, Tryz.ntmps77
  go_wp2_with fail
  refine (g0 _).out.mono ?_; rintro e x1 ⟨rfl, rfl⟩
  go_wp2_with fail
  go_ret2
  exact ⟨rfl, rfl⟩
set_option maxHeartbeats 4000000 in
set_option maxRecDepth 100000 in
theorem repeat_any (b n : Nat) (w : World) (hb : w.cell? ⟨b, 0, none⟩ = some (bv 255)) (h1 : 1 ≤ n) (h2 : n ≤ 8192) :
    Calls Tryz.prog 63 #[.slice (some ⟨b, 0, none⟩) 1 1, i64 n] w fun e w' => ∃ (junk : List Value) (m : Nat), e = .returned (.slice (some ⟨w.heap.size, 0, none⟩) n n) ∧ w' = (w.alloc (.cells (List.replicate n (bv 255) ++ junk).toArray 5)).drewN m := by
  have g0 := fun W => Lib.hid (mul_any n W (by omega))
  obtain ⟨cs, hrunM, hle, _⟩ := Lib.run_makeNoZero (P := Tryz.prog) w #[3] 95 5 Tryz.underlying95 n (by omega)
  have hcall : (callFunc 113 #[.int .i64 (n : Int)]).run Tryz.prog w = .ok (.value (.slice (some ⟨w.heap.size, 0, none⟩) n cs.size)) ((w.alloc (.cells cs 5)).drewN 2) := by
    rw [run_callFunc_extern Tryz.func113 (by kernel_rfl) (by kernel_rfl) (by kernel_rfl) (e := Extern.BytealgMakeNoZero.makeNoZero #[3] #[95]) (by kernel_rfl), hrunM]
    rfl
  clear hrunM
  have hinfo : (Tryz.prog.info? 5).map (·.size) = some 1 := by
    obtain ⟨i0, hi, hz0, hz1, hz2⟩ := info_parts info_u8
    rw [hi]; exact congrArg some hz1
  have hblt : b < w.heap.size := by
    unfold World.cell? at hb
    cases hx : w.heap[b]? with
    | none => rw [hx] at hb; simp at hb
    | some o => exact (Array.getElem?_eq_some_iff.1 hx).1
  -- the row, so far
  obtain ⟨R, hR⟩ : ∃ R : Nat → List Value, ∀ q, R q = List.replicate q (bv 255) ++ cs.toList.drop q := ⟨_, fun _ => rfl⟩
  have hRl : ∀ q, q ≤ n → (R q).length = cs.size := by intro q hq; rw [hR]; simp; omega
  have cp : ∀ (mm q src ln : Nat) (sb : Nat) (sc : Nat), q + ln ≤ n → ln ≤ src → (∀ j, j < ln → (((w.alloc (.cells (R q).toArray 5)).drewN mm).cell? ((⟨sb, 0, none⟩ : Addr).add j) = some (bv 255))) → (n - q ≤ ln ∨ src ≤ ln) →
      (Builtin.copy_ #[95, 95] 3 #[.slice (some ⟨w.heap.size, q, none⟩) (n - q) (n - q), .slice (some ⟨sb, 0, none⟩) src sc]).run Tryz.prog ((w.alloc (.cells (R q).toArray 5)).drewN mm) = .ok (goInt ln) ((w.alloc (.cells (R (q + ln)).toArray 5)).drewN mm) := by
    intro mm q src ln sb sc h3 h4 h5 h6
    have := run_copy_row (P := Tryz.prog) ((w.alloc (.cells (R q).toArray 5)).drewN mm) 95 95 3 5 w.heap.size q (n - q) (n - q) ⟨sb, 0, none⟩ src sc _ _ (List.replicate ln (bv 255)) Tryz.underlying95 hinfo (blk_new w _) (by rw [List.length_replicate]; show ln = min src (n - q); omega)
      (fun j v hj => by
        have hjl := (List.getElem?_eq_some_iff.1 hj).1
        rw [List.length_replicate] at hjl
        rw [List.getElem?_replicate, if_pos hjl] at hj
        injection hj with hj
        rw [← hj]
        exact h5 j hjl) (by simp; rw [hRl q (by omega)]; omega) (by intro v hv; rw [(List.mem_replicate.1 hv).2]; rfl)
    rw [this, List.length_replicate]
    congr 1
    show ((w.alloc (.cells (R q).toArray 5)).setRow w.heap.size _).drewN mm = _
    rw [World.setRow_alloc_new]
    congr 4
    simp only [hR]
    rw [List.take_left' (by simp), List.drop_append, List.length_replicate]
    have e1 : (List.replicate q (bv 255)).drop (q + ln) = [] := List.drop_eq_nil_of_le (by simp)
    rw [e1, List.nil_append, List.drop_drop, ← List.replicate_append_replicate]
    congr 2
    omega
  have hR0 : cs = (R 0).toArray := by rw [hR]; simp
  rw [hR0] at hcall
  rw [show (R 0).toArray.size = cs.size by rw [List.size_toArray, hRl 0 (by omega)]] at hcall
  have hcp0 := cp 2 0 1 1 b 1 (by omega) (by omega) (fun j hj => by
    obtain rfl : j = 0 := by omega
    have := World.cell?_alloc_lt w (.cells (R 0).toArray 5) ⟨b, 0, none⟩ hblt
    rw [show (((w.alloc (.cells (R 0).toArray 5)).drewN 2).cell? ((⟨b, 0, none⟩ : Addr).add 0)) = (w.alloc (.cells (R 0).toArray 5)).cell? ⟨b, 0, none⟩ from rfl, this]
    exact hb) (.inr (Nat.le_refl _))
  rw [Nat.sub_zero, Nat.zero_add] at hcp0
  have HRn := Lib.hid (hR n)
  have HR := Lib.hid hR
  have CP := Lib.hid cp
  generalize cs.size = cz at *
  clear hR hR0 hRl cp
  go_enter Tryz.func63, Tryz.ntmps63
  go_wp2_with fail
  refine (g0 _).out.mono ?_; rintro e x1 ⟨rfl, rfl⟩
  go_wp2_with fail
  go_loopw [10] (fun i wr => ∃ q m : Nat, 1 ≤ q ∧ q ≤ n ∧ i = .int .i64 q ∧ wr = (x1.alloc (.cells (R q).toArray 5)).drewN m) (fun i _ => n - (intOf i).toNat)
  case atStart => exact ⟨1, 2, Nat.le_refl _, h1, rfl, rfl⟩
  case round =>
    obtain ⟨q, m, hq1, hq, rfl, rfl⟩ := hrel
    by_cases hlt : q < n
    · have hcp := CP.out (m + 1) q q (min q (n - q)) x1.heap.size n (by omega) (by omega) (fun j hj => by
        rw [Addr.add_lit, Nat.zero_add]
        have := cell_blk (blk_new x1 (.cells (R q).toArray 5)) j
        rw [show ((x1.alloc (.cells (R q).toArray 5)).drewN (m + 1)).cell? ⟨x1.heap.size, j, none⟩ = (x1.alloc (.cells (R q).toArray 5)).cell? ⟨x1.heap.size, j, none⟩ from rfl, this]
        rw [HR.out q]
        rw [List.getElem?_toArray, List.getElem?_append_left (by rw [List.length_replicate]; omega), List.getElem?_replicate, if_pos (by omega)]) (by omega)
      have t1 : (q : Int) < (n : Int) := by omega
      have t2 : ¬ n = q := by omega
      have hgr : ((x1.alloc (.cells (R q).toArray 5)).drewN m).grownBy ((x1.alloc (.cells (R (q + min q (n - q))).toArray 5)).drewN (m + 1)) (some x1.heap.size) := by
        refine ⟨rfl, rfl, rfl, by simp, fun k hk hn => ?_⟩
        have hk' : k < x1.heap.size := by
          have h1 : ((x1.alloc (.cells (R q).toArray 5)).drewN m).heap.size = x1.heap.size + 1 := by simp
          have h2 : k ≠ x1.heap.size := fun e => hn (by rw [e])
          omega
        exact (heap_old x1 _ hk').trans (heap_old x1 _ hk').symm
      have hnx : q + min q (n - q) ≤ n := by omega
      have hnq : 1 ≤ min q (n - q) := by omega
      generalize min q (n - q) = r at *
      clear CP HR HRn hb hcall hcp0 g0
      go_wp2_with fail
      refine wp_region_ph (D := fun w' => ∃ p : GrOf _ (some x1.heap.size), w' = p.v) 8 [7] (by kernel_rfl) (by kernel_rfl) ⟨⟨_, grown_dr (grown_same _ _)⟩, rfl⟩ ?_
      simp only [List.take_succ_cons, List.take_zero, List.drop_succ_cons, List.drop_zero]
      have on0 := @on_rd0; have on1 := @on_rd1; have on2 := @on_rd2; have on3 := @on_new1; have on4 := @on_new2; have on5 := @gr_rd0
      repeat ((with_reducible refine head_quiet ?_ ?_); (focus rfl); (intro K hK); go_simp; first | ((with_reducible refine hK _ ?_); clear hK K) | (rw [if_neg (by intro h; cases h)]; (with_reducible refine hK _ ?_); clear hK K) | (apply Exists.intro; refine ⟨fun _ => ?_, hK _ ?_⟩; (fail); clear hK K))
      refine head_run (by rfl) rfl (goInt r) ((x1.alloc (.cells (R (q + r)).toArray 5)).drewN (m + 1)) ?_ ⟨⟨_, hgr⟩, rfl⟩ ?_
      · go_simp
      clear on0 on1 on2 on3 on4 on5
      with_reducible refine head_nil ?_
      with_reducible refine eq_intro ?_
      go_wp2_with fail
      exact ⟨⟨q + r, m + 1, by omega, hnx, by push_cast; rfl, rfl⟩, by simp [intOf]; omega⟩
    · obtain rfl : q = n := by omega
      go_wp2_with fail
      go_ret
      exact ⟨_, m, rfl, by rw [HRn.out]⟩
end Go.Proofs.YtnmeaminfoopmaaGreatDoor

