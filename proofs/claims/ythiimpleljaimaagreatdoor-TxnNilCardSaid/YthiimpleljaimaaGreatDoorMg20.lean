/- The library's slices functions at []int with a function handed in: contracts for whatever function. -/
import Derived.Test.YthiimpleljaimaaGreatDoorMg19
import Derived.Test.YthiimpleljaimaaGreatDoorMg11
import Derived.StillTailTactics
namespace Go.Proofs.YthiimpleljaimaaGreatDoor
open Go.RowKit

def idxOf (p : Int → Bool) (xs : List Int) : Int := match xs.findIdx? p with | some i => (i : Int) | none => -1
theorem idxOf_none {p : Int → Bool} {xs : List Int} (h : ∀ x ∈ xs, p x = false) : idxOf p xs = -1 := by
  unfold idxOf
  rw [List.findIdx?_eq_none_iff.2 h]
theorem idxOf_some {p : Int → Bool} {xs : List Int} {k : Nat} (hk : k < xs.length) (ha : ∀ x ∈ xs.take k, p x = false) (hp : p xs[k] = true) : idxOf p xs = k := by
  have : xs.findIdx? p = some k := by
    rw [List.findIdx?_eq_some_iff_getElem]
    refine ⟨hk, hp, fun j hj => ?_⟩
    have := ha xs[j] (List.mem_take_iff_getElem.2 ⟨j, by omega, rfl⟩)
    simp [this]
  unfold idxOf
  rw [this]

set_option maxHeartbeats 1000000 in
set_option maxRecDepth 100000 in
theorem indexFunc_any (f : FuncId) (cs : Array Value) (hf : Enters f) (p : Int → Bool) (A : Option Addr) (n cap : Nat) (xs : List Int) (w : World) (h : Ints w (.slice A n cap) xs)
    (hp : ∀ x ∈ xs, ∀ W : World, Below w.heap.size w W → Makes f (#[i64 x] ++ cs) W (.bool (p x))) :
    Makes 245 #[.slice A n cap, .func (.func f) #[] cs] w (i64 (idxOf p xs)) := by
  have hn := h.len
  rw [List.length_map] at hn
  subst hn
  have hm := h.max
  rw [List.length_map] at hm
  unfold maxLen at hm
  have hnone := Lib.hid (@idxOf_none p xs)
  have hsome := fun k hk => Lib.hid (@idxOf_some p xs k hk)
  go_enter Tryz.func245, Tryz.ntmps245
  go_wp2_with fail
  go_loopw [8] (fun i wr => ∃ k : Nat, k ≤ xs.length ∧ i = .int .i64 k ∧ Hid (∀ x ∈ xs.take k, p x = false) ∧ Below w.heap.size w wr) (fun i _ => xs.length - (intOf i).toNat)
  case atStart => exact ⟨0, Nat.zero_le _, rfl, (fun x hx => by simp at hx), Below.refl _ _⟩
  case round =>
    obtain ⟨k, hk, rfl, ha, hb⟩ := hrel
    by_cases hlt : k < xs.length
    · obtain ⟨b, off, rfl, hbs, hc⟩ := Ints.cell (Sl.below h hb) hlt
      have c0 := hc k hlt
      have hs1 := hsome k hlt
      cases hg : p xs[k]
      all_goals
        have hp1 := fun W hW => hp xs[k] (List.getElem_mem _) W hW
        rw [hg] at hp1
        have hp2 := fun W hW => Lib.hid (hp1 W hW)
        have hg2 := Lib.hid hg
        clear hc hp1 hg
        go_wp2_with fail
        refine (hp2 _ hb).out.mono ?_; rintro e w1 ⟨rfl, hb1⟩
        go_wp2_with fail
      · refine ⟨⟨k + 1, by omega, by go_num, ?_, Base.tr hb hb1⟩, by simp [intOf]; omega⟩
        intro x hx
        rw [List.take_succ_eq_append_getElem hlt, List.mem_append] at hx
        rcases hx with hx | hx
        · exact ha.out x hx
        · rw [List.mem_singleton] at hx; rw [hx]; exact hg2.out
      · go_ret
        exact ⟨ret_int (hs1.out ha.out hg2.out).symm, Base.tr hb hb1⟩
    · have htk := Lib.hid (take_all hlt)
      go_wp2_with fail
      go_ret
      refine ⟨ret_int (hnone.out ?_).symm, hb⟩
      have := ha.out
      rw [htk.out] at this
      exact this

/-- The first least one, by a comparison. -/
def minBy (c : Int → Int → Int) (m : Int) : List Int → Int
  | [] => m
  | x :: l => minBy c (if c x m < 0 then x else m) l
def minL (c : Int → Int → Int) : List Int → Int
  | [] => 0
  | x :: l => minBy c x l
theorem minBy_snoc (c : Int → Int → Int) : ∀ (l : List Int) (m x : Int), minBy c m (l ++ [x]) = if c x (minBy c m l) < 0 then x else minBy c m l
  | [], _, _ => rfl
  | _ :: l, _, x => minBy_snoc c l _ x
theorem minBy_mem (c : Int → Int → Int) : ∀ (l : List Int) (m : Int), minBy c m l ∈ m :: l
  | [], _ => by simp [minBy]
  | y :: l, m => by
    have := minBy_mem c l (if c y m < 0 then y else m)
    simp only [minBy]
    rcases List.mem_cons.1 this with h | h
    · rw [h]; split <;> simp
    · exact List.mem_cons_of_mem _ (List.mem_cons_of_mem _ h)
theorem minL_mem (c : Int → Int → Int) {l : List Int} (h : l ≠ []) : minL c l ∈ l := by
  cases l with
  | nil => exact absurd rfl h
  | cons x l => exact minBy_mem c l x
theorem minL_take (c : Int → Int → Int) (z : List Int) {k : Nat} (h1 : 1 ≤ k) (hk : k < z.length) : minL c (z.take (k + 1)) = if c z[k] (minL c (z.take k)) < 0 then z[k] else minL c (z.take k) := by
  rw [List.take_succ_eq_append_getElem hk]
  cases z with
  | nil => simp at hk
  | cons x l =>
    cases k with
    | zero => omega
    | succ k => rw [List.take_succ_cons]; exact minBy_snoc c _ _ _
theorem minL_one (c : Int → Int → Int) {z : List Int} (h : 0 < z.length) : minL c (z.take 1) = z[0] := by
  cases z with
  | nil => simp at h
  | cons x l => rfl

set_option maxHeartbeats 1000000 in
set_option maxRecDepth 100000 in
theorem minFunc_any (f : FuncId) (cs : Array Value) (hf : Enters f) (c : Int → Int → Int) (A : Option Addr) (n cap : Nat) (z : List Int) (hpos : 0 < z.length) (w : World) (h : Ints w (.slice A n cap) z)
    (hp : ∀ x ∈ z, ∀ y ∈ z, ∀ W : World, Below w.heap.size w W → Makes f (#[i64 x, i64 y] ++ cs) W (i64 (c x y))) :
    Makes 242 #[.slice A n cap, .func (.func f) #[] cs] w (i64 (minL c z)) := by
  have hn := h.len
  rw [List.length_map] at hn
  subst hn
  have hm := h.max
  rw [List.length_map] at hm
  unfold maxLen at hm
  obtain ⟨b, off, rfl, hbs, hc⟩ := Ints.cell h hpos
  have c0 := hc 0 hpos
  rw [Nat.add_zero] at c0
  have hge : ¬ (z.length : Int) < 1 := by omega
  have HC := Lib.hid hc
  have H1 := Lib.hid (minL_one c hpos)
  clear hc
  go_enter Tryz.func242, Tryz.ntmps242
  go_wp2_with fail
  go_loopw [5, 6] (fun m i wr => ∃ k : Nat, 1 ≤ k ∧ k ≤ z.length ∧ i = .int .i64 k ∧ m = i64 (minL c (z.take k)) ∧ Below w.heap.size w wr) (fun _ i _ => z.length - (intOf i).toNat)
  case atStart => exact ⟨1, by omega, by omega, rfl, by rw [H1.out], Below.refl _ _⟩
  case round =>
    obtain ⟨k, hk1, hk, rfl, rfl, hb⟩ := hrel
    by_cases hlt : k < z.length
    · have c1 := HC.out k hlt
      rw [← hb.cell (p := ⟨b, off + k, none⟩) hbs] at c1
      have hm1 : minL c (z.take k) ∈ z := List.mem_of_mem_take (minL_mem c (l := z.take k) (by intro e; have := congrArg List.length e; rw [List.length_take, List.length_nil] at this; omega))
      have hp1 := hp z[k] (List.getElem_mem _) _ hm1 wr hb
      have hs1 := Lib.hid (minL_take c z hk1 hlt)
      generalize hM : minL c (z.take k) = m at *
      obtain ⟨q, hq⟩ : ∃ q, c z[k] m = q := ⟨_, rfl⟩
      rw [hq] at hp1
      have hp2 := Lib.hid hp1
      have hq2 := Lib.hid hq
      clear hp1 hq hM hm1
      by_cases hneg : q < 0
      all_goals
        go_wp2_with fail
        refine hp2.out.mono ?_; rintro e w1 ⟨rfl, hb1⟩
        have c2 := hb1.cell (p := ⟨b, off + k, none⟩) (Nat.lt_of_lt_of_le hbs hb.size)
        rw [c1] at c2
        go_wp2_with fail
      · exact ⟨⟨k + 1, by omega, by omega, by go_num, by rw [hs1.out, hq2.out, if_pos hneg], Base.tr hb hb1⟩, by simp [intOf]; omega⟩
      · exact ⟨⟨k + 1, by omega, by omega, by go_num, by rw [hs1.out, hq2.out, if_neg (by omega)], Base.tr hb hb1⟩, by simp [intOf]; omega⟩
    · have htk := Lib.hid (take_all hlt)
      go_wp2_with fail
      go_ret
      exact ⟨ret_int (by rw [htk.out]), hb⟩

/-! ### slices.Clone at []int, of a row of one's own -/
set_option maxHeartbeats 1000000 in
set_option maxRecDepth 100000 in
theorem clone_own (v : Value) (xs : List Int) (base : Nat) (w : World) (hown : w.ownsRow base 3 1 v xs.length (xs.map (Value.int .i64))) (hbig : xs.length * 8 ≤ 140737488351232) :
    Calls Tryz.prog 189 #[v] w (FreshInts w xs) := by
  obtain ⟨i0, hi, hz0, hz1, hz2⟩ := info_parts info_int
  rcases hown.2 with ⟨rfl, hn⟩ | ⟨g, cap, cur, rfl, hbg, hgg, hnc, hcm, hcs, htake⟩
  · have : xs = [] := List.eq_nil_of_length_eq_zero hn
    subst this
    have he := fun w => Lib.run_eql_slice_nil (P := Tryz.prog) w 85 3 none 0 0 0 0 Tryz.underlying85
    clear hown hn
    go_enter Tryz.func189, Tryz.ntmps189
    go_wp2_with fail
    go_ret
    exact ⟨_, rfl, World.ownsRow_nil _ _ _ _, Below.refl _ _⟩
  · have he := fun w => Lib.run_eql_slice_nil (P := Tryz.prog) w 85 3 (some ⟨g, 0, none⟩) xs.length cap 0 0 Tryz.underlying85
    have hcell := hown.cells (g := g) rfl
    have HC := Lib.hid hcell
    have hlt : g < w.heap.size := (Array.getElem?_eq_some_iff.1 hgg).1
    clear hown hcell hgg hbg hnc hcm hcs htake
    go_enter Tryz.func189, Tryz.ntmps189
    go_wp2_with (at_builtin; refine wpList_append_own _ rfl _ _ 85 rfl w.heap.size 3 i0 (.int .i64 0) 1 8 Tryz.underlying85 hi hz0 hz1 hz2 rfl (by decide) _ _ _ rfl (World.ownsRow_made w #[] 0 (Nat.le_refl _) (Nat.zero_le _) rfl) ⟨g, 0, none⟩ xs.length cap (xs.map (Value.int .i64)) rfl ?c0 ?c1 ?c2 ?c3 ?c4 ?c5 ?_)
    case c0 => simp
    case c1 =>
      intro j u hu
      have := HC.out j u hu
      rw [World.cell?_alloc_lt w _ _ (by rw [block_add]; exact hlt)]
      exact this
    case c2 => intro u hu; obtain ⟨x, _, rfl⟩ := List.mem_map.1 hu; rfl
    case c3 => unfold maxLen; omega
    case c4 => omega
    case c5 => simp
    intro v' w2 hown2 hgrow _
    go_wp2_with fail
    go_ret
    refine ⟨_, rfl, ?_, ?_⟩
    · simpa using hown2
    · exact Base.gr (Base.al (Below.refl _ _) _) hgrow (fun k hk => by simp [Value.ownBlock] at hk; omega)

/-! ### slices.DeleteFunc at []int, on a row of one's own -/
/-- The row behind j of its elements, the ones that are struck out so far. -/
def DelInv (w : World) (g : Nat) (size : Nat) (p : Int → Bool) (z : List Int) (i j : Nat) (wr : World) : Prop :=
  i < j ∧ j ≤ z.length ∧ w.grownBy wr (some g) ∧ ∃ cur : Array Value, wr.heap[g]? = some (.cells cur 3 (0, 0)) ∧ cur.size = size ∧
    cur.toList.take i = ((z.take j).filter fun x => !p x).map (Value.int .i64) ∧ i = ((z.take j).filter fun x => !p x).length ∧ ∀ q, j ≤ q → (hq : q < z.length) → cur[q]? = some (.int .i64 z[q])

theorem filter_take (p : Int → Bool) (z : List Int) {j : Nat} (hj : j < z.length) : ((z.take (j + 1)).filter fun x => !p x) = ((z.take j).filter fun x => !p x) ++ (if p z[j] then [] else [z[j]]) := by
  rw [List.take_succ_eq_append_getElem hj, List.filter_append]
  congr 1
  cases h : p z[j] <;> simp [h]

theorem DelInv.skip {w wr wq : World} {g size : Nat} {p : Int → Bool} {z : List Int} {i j : Nat} (h : DelInv w g size p z i j wr) (hj : j < z.length) (hp : p z[j] = true) (hb : Below wr.heap.size wr wq) : DelInv w g size p z i (j + 1) wq := by
  obtain ⟨h1, h2, h3, cur, h4, h5, h6, h7, h8⟩ := h
  have e := filter_take p z hj
  rw [hp, if_pos rfl, List.append_nil] at e
  refine ⟨by omega, by omega, grown_below h3 hb, cur, ?_, h5, by rw [e]; exact h6, by rw [e]; exact h7, fun q hq hz => h8 q (by omega) hz⟩
  rw [hb.block g (Array.getElem?_eq_some_iff.1 h4).1]; exact h4
theorem DelInv.keep {w wr wq : World} {g size : Nat} {p : Int → Bool} {z : List Int} {i j : Nat} (h : DelInv w g size p z i j wr) (hj : j < z.length) (hp : p z[j] = false) (hb : Below wr.heap.size wr wq) (hsz : z.length ≤ size) :
    DelInv w g size p z (i + 1) (j + 1) (wq.setCell ⟨g, i, none⟩ (.int .i64 z[j])) := by
  obtain ⟨h1, h2, h3, cur, h4, h5, h6, h7, h8⟩ := h
  have e := filter_take p z hj
  rw [hp, if_neg (by decide)] at e
  have h4' : wq.heap[g]? = some (.cells cur 3 (0, 0)) := by rw [hb.block g (Array.getElem?_eq_some_iff.1 h4).1]; exact h4
  refine ⟨by omega, by omega, grown_setCell (grown_below h3 hb) _ _, _, heap_setCell h4' _ _, by simpa using h5, ?_, by rw [e, List.length_append, ← h7]; rfl, fun q hq hz => ?_⟩
  · rw [e, List.map_append, ← h6]
    have hi : i < cur.toList.length := by rw [Array.length_toList, h5]; omega
    rw [Array.toList_setIfInBounds, List.take_succ_eq_append_getElem (by simpa using hi), List.take_set_of_le (by omega), List.getElem_set_self]
    rfl
  · rw [Array.getElem?_setIfInBounds_ne (by omega)]
    exact h8 q (by omega) hz

set_option maxHeartbeats 2000000 in
set_option maxRecDepth 100000 in
theorem deleteFunc_row (f : FuncId) (cs : Array Value) (hf : Enters f) (p : Int → Bool) (g cap : Nat) (cur : Array Value) (z : List Int) (w : World)
    (hg : w.heap[g]? = some (.cells cur 3 (0, 0))) (hnc : z.length ≤ cap) (hcm : cap ≤ maxLen) (hcs : cur.size = cap) (htake : cur.toList.take z.length = z.map (Value.int .i64))
    (hp : ∀ x ∈ z, ∀ W : World, w.grownBy W (some g) → Makes f (#[i64 x] ++ cs) W (.bool (p x))) :
    Calls Tryz.prog 188 #[.slice (some ⟨g, 0, none⟩) z.length cap, .func (.func f) #[] cs] w fun e w' =>
      e = .returned (.slice (some ⟨g, 0, none⟩) (z.filter fun x => !p x).length cap) ∧ w.grownBy w' (some g) ∧
      ∃ cur', w'.heap[g]? = some (.cells cur' 3 (0, 0)) ∧ cur'.size = cap ∧ cur'.toList.take (z.filter fun x => !p x).length = (z.filter fun x => !p x).map (Value.int .i64) := by
  have hglt := (Array.getElem?_eq_some_iff.1 hg).1
  have hcq : ∀ q (hq : q < z.length), cur[q]? = some (.int .i64 z[q]) := by
    intro q hq
    have := congrArg (fun l => l[q]?) htake
    simp only [List.getElem?_take, if_pos hq, List.getElem?_map, List.getElem?_eq_getElem hq, Option.map_some] at this
    simpa using this
  have hI : Ints w (.slice (some ⟨g, 0, none⟩) z.length cap) z := by
    refine ⟨some ⟨g, 0, none⟩, cap, by rw [List.length_map], by rw [List.length_map]; exact hnc, hcm, (fun h => by cases h), fun _ => ⟨g, 0, rfl, hglt, ?_⟩⟩
    intro i x hi
    rw [List.getElem?_map, Option.map_eq_some_iff] at hi
    obtain ⟨u, hu, rfl⟩ := hi
    obtain ⟨hi2, rfl⟩ := List.getElem?_eq_some_iff.1 hu
    refine ⟨rfl, fun j u' hj => ?_⟩
    obtain ⟨hl, he⟩ := List.getElem?_eq_some_iff.1 hj
    have hj0 : j = 0 := by simp at hl; omega
    subst hj0
    simp at he
    subst he
    rw [show 0 + i * 1 + 0 = i from by omega, cell_blk hg, hcq i hi2]
  have hix := indexFunc_any f cs hf p _ _ cap z w hI (fun x hx W hW => hp x hx W (grown_of_below _ hW))
  by_cases hall : ∀ x ∈ z, p x = false
  · have hfil : (z.filter fun x => !p x) = z := List.filter_eq_self.2 (fun x hx => by simp [hall x hx])
    rw [idxOf_none hall] at hix
    have g1 := Lib.hid hix
    have K := Lib.hid hg
    have KT := Lib.hid htake
    rw [hfil]
    clear hix hall hfil hcq hI hg htake hp
    go_enter Tryz.func188, Tryz.ntmps188
    go_wp2_with fail
    refine g1.out.mono ?_; rintro e w1 ⟨rfl, hb1⟩
    go_wp2_with fail
    go_ret
    exact ⟨rfl, grown_of_below _ hb1, cur, by rw [hb1.block g hglt]; exact K.out, hcs, KT.out⟩
  · obtain ⟨k0, hk0, hpk, hbef⟩ : ∃ k0, ∃ hk : k0 < z.length, p z[k0] = true ∧ ∀ x ∈ z.take k0, p x = false := by
      cases hfi : z.findIdx? p with
      | none => exact absurd (List.findIdx?_eq_none_iff.1 hfi) hall
      | some k0 =>
        obtain ⟨hk, h1, h2⟩ := List.findIdx?_eq_some_iff_getElem.1 hfi
        refine ⟨k0, hk, h1, fun x hx => ?_⟩
        obtain ⟨j, hj, rfl⟩ := List.mem_take_iff_getElem.1 hx
        have := h2 j (by omega)
        simpa using this
    rw [idxOf_some hk0 hbef hpk] at hix
    have hfk : ((z.take (k0 + 1)).filter fun x => !p x) = z.take k0 := by
      rw [filter_take p z hk0, hpk, if_pos rfl, List.append_nil]
      exact List.filter_eq_self.2 (fun x hx => by simp [hbef x hx])
    have hstart : ∀ w1, Below w.heap.size w w1 → DelInv w g cap p z k0 (k0 + 1) w1 := by
      intro w1 hb1
      refine ⟨by omega, by omega, grown_of_below _ hb1, cur, by rw [hb1.block g hglt]; exact hg, hcs, ?_, by rw [hfk, List.length_take]; omega, fun q _ hz => hcq q hz⟩
      rw [hfk, List.map_take, ← htake, List.take_take, Nat.min_eq_left (by omega)]
    have g1 := Lib.hid hix
    have HS := Lib.hid hstart
    have hne : ((k0 : Int) == -1) = false := beq_eq_false_iff_ne.2 (by omega)
    have hzm : z.length ≤ 9223372036854775807 := by unfold maxLen at hcm; omega
    clear hix hstart hfk hbef hpk hcq hI hg htake hall
    go_enter Tryz.func188, Tryz.ntmps188
    go_wp2_with fail
    refine g1.out.mono ?_; rintro e w1 ⟨rfl, hb1⟩
    go_wp2_with fail
    go_loopw [5, 6] (fun si sj wr => ∃ i j : Nat, si = .int .i64 i ∧ sj = .int .i64 j ∧ DelInv w g cap p z i j wr) (fun _ sj _ => z.length - (intOf sj).toNat)
    case atStart => exact ⟨k0, k0 + 1, rfl, by go_num, HS.out _ hb1⟩
    case round =>
      obtain ⟨i, j, rfl, rfl, hinv⟩ := hrel
      have hij := hinv.1
      have hjn := hinv.2.1
      have hinv0 := Lib.hid hinv
      obtain ⟨_, _, hgr, cur1, hg1, hs1, ht1, hl1, hq1⟩ := hinv
      by_cases hlt : j < z.length
      · have cj := cell_blk hg1 j
        rw [hq1 j (Nat.le_refl _) hlt] at cj
        have hp1 := hp z[j] (List.getElem_mem _) wr hgr
        have hglt1 := (Array.getElem?_eq_some_iff.1 hg1).1
        have hci : ∃ old, cur1[i]? = some old := ⟨cur1[i]'(by omega), Array.getElem?_eq_getElem (by omega)⟩
        obtain ⟨old, hold⟩ := hci
        have KG := Lib.hid hg1
        have KO := Lib.hid hold
        cases hpz : p z[j]
        all_goals
          rw [hpz] at hp1
          have hp2 := Lib.hid hp1
          have hpz2 := Lib.hid hpz
          clear hp1 hpz hg1 hs1 ht1 hl1 hq1 hold
          go_wp2_with fail
          refine hp2.out.mono ?_; rintro e w2 ⟨rfl, hb2⟩
        · have ci : w2.cell? ⟨g, i, none⟩ = some old := by
            rw [hb2.cell (p := ⟨g, i, none⟩) hglt1, cell_blk KG.out, KO.out]
          have fi : w2.frozen? ⟨g, i, none⟩ = false := by
            rw [hb2.frozen (p := ⟨g, i, none⟩) hglt1, frozen_blk KG.out]
          go_wp2_with fail
          refine ⟨⟨i + 1, j + 1, by go_num, by go_num, hinv0.out.keep hlt hpz2.out hb2 (by omega)⟩, by simp [intOf]; omega⟩
        · go_wp2_with fail
          refine ⟨⟨i, j + 1, rfl, by go_num, hinv0.out.skip hlt hpz2.out hb2⟩, by simp [intOf]; omega⟩
      · have hj : j = z.length := by omega
        subst hj
        rw [List.take_length] at ht1 hl1
        have hclr := run_clear_row (P := Tryz.prog) (t := 85) (e := 3) (ty := 0) (z := .int .i64 0) wr Tryz.underlying85 (by kernel_rfl) rfl rfl (g := g) (o := i) (m := z.length - i) (c := cap - i) hg1 (by omega)
        have hgr2 := grown_setRow hgr (cur1.toList.take i ++ List.replicate (z.length - i) (Value.int .i64 0) ++ cur1.toList.drop (i + (z.length - i))).toArray
        have hrow2 := setRow_heap wr g cur1 (cur1.toList.take i ++ List.replicate (z.length - i) (Value.int .i64 0) ++ cur1.toList.drop (i + (z.length - i))).toArray 3 (0, 0) hg1
        have hsize : (cur1.toList.take i ++ List.replicate (z.length - i) (Value.int .i64 0) ++ cur1.toList.drop (i + (z.length - i))).toArray.size = cap := by
          simp; omega
        have htk : (cur1.toList.take i ++ List.replicate (z.length - i) (Value.int .i64 0) ++ cur1.toList.drop (i + (z.length - i))).toArray.toList.take i = (z.filter fun x => !p x).map (Value.int .i64) := by
          rw [← ht1, List.append_assoc]
          simp only []
          rw [List.take_append_of_le_length (by simp; omega), List.take_take, Nat.min_self]
        generalize (cur1.toList.take i ++ List.replicate (z.length - i) (Value.int .i64 0) ++ cur1.toList.drop (i + (z.length - i))).toArray = cur2 at hclr hgr2 hrow2 hsize htk
        have G := Lib.hid hgr2
        have R := Lib.hid hrow2
        have S := Lib.hid hsize
        have T := Lib.hid htk
        have L := Lib.hid hl1
        clear hg1 hs1 ht1 hl1 hq1 hgr hgr2 hrow2 hsize htk
        go_wp2_with fail
        go_ret
        refine ⟨?_, G.out, cur2, R.out, S.out, ?_⟩
        · rw [← L.out]; rfl
        · rw [← L.out]; exact T.out
end Go.Proofs.YthiimpleljaimaaGreatDoor

/- More of package pick: the comparisons, least, Write, Blank, AtOnce, Oldest. -/
namespace Go.Proofs.YthiimpleljaimaaGreatDoor
open Go.RowKit

set_option maxHeartbeats 400000 in
theorem erasable_any (x : Info) (w : World) : Makes 184 #[x.val] w (.bool (decide (x.cls ≠ 0) && !x.isOpen && !x.held)) := by
  cases hb : x.held <;> cases ho : x.isOpen <;> by_cases hc : x.cls = 0
  all_goals
    go_enter Tryz.func184, Tryz.ntmps184
    go_wp2_with fail
    all_goals go_ret
    all_goals exact ⟨ret_bool (by simp [hc]), Base.al (Below.refl _ _) _⟩

set_option maxHeartbeats 400000 in
theorem needless_any (x : Info) (w : World) : Makes 194 #[x.val] w (.bool (decide (x.need = 0) || decide (x.cls = 2))) := by
  by_cases hb : x.need = 0 <;> by_cases hc : x.cls = 2
  all_goals
    go_enter Tryz.func194, Tryz.ntmps194
    go_wp2_with fail
    all_goals go_ret
    all_goals exact ⟨ret_bool (by simp [hb, hc]), Base.al (Below.refl _ _) _⟩

set_option maxHeartbeats 400000 in
theorem free_any (x : Info) (w : World) : Makes 187 #[x.val] w (.bool (!x.held)) := by
  go_enter Tryz.func187, Tryz.ntmps187
  go_wp2_with fail
  go_ret
  exact ⟨rfl, Base.al (Below.refl _ _) _⟩

def canErase (x : Info) : Bool := decide (x.cls ≠ 0) && !x.isOpen && !x.held
def noNeed (x : Info) : Bool := decide (x.need = 0) || decide (x.cls = 2)
def onceB (x : Info) : Bool := canErase x && noNeed x
def canBlank (x : Info) : Bool := decide (x.cls = 0) && !x.held

set_option maxHeartbeats 400000 in
theorem once_any (x : Info) (w : World) : Makes 281 #[x.val] w (.bool (canErase x && noNeed x)) := by
  have g1 := fun W => erasable_any x W
  have g2 := fun W => needless_any x W
  obtain ⟨p, hp⟩ : ∃ p, p = canErase x := ⟨_, rfl⟩
  obtain ⟨q, hq⟩ : ∃ q, q = noNeed x := ⟨_, rfl⟩
  rw [← hp, ← hq]
  unfold canErase at hp
  unfold noNeed at hq
  rw [← hp] at g1
  rw [← hq] at g2
  have h1 := fun W => Lib.hid (g1 W)
  have h2 := fun W => Lib.hid (g2 W)
  clear hp hq g1 g2
  cases p
  · go_enter Tryz.func281, Tryz.ntmps281
    go_wp2_with fail
    refine (h1 _).out.mono ?_; rintro e w1 ⟨rfl, hb1⟩
    go_wp2_with fail
    go_ret
    exact ⟨rfl, Base.tr (Base.al (Below.refl _ _) _) hb1⟩
  · go_enter Tryz.func281, Tryz.ntmps281
    go_wp2_with fail
    refine (h1 _).out.mono ?_; rintro e w1 ⟨rfl, hb1⟩
    obtain ⟨hc, hf⟩ := bcell hb1
    go_wp2_with fail
    refine (h2 _).out.mono ?_; rintro e w2 ⟨rfl, hb2⟩
    go_wp2_with fail
    go_ret
    exact ⟨rfl, Base.tr (Base.tr (Base.al (Below.refl _ _) _) hb1) hb2⟩

set_option maxHeartbeats 400000 in
theorem isNaN_u64 (a : Int) (w : World) : Gives 276 #[.int .u64 a] w (.bool false) := by
  go_enter Tryz.func276, Tryz.ntmps276
  go_wp2_with fail
  go_ret
  exact ⟨rfl, rfl⟩

set_option maxHeartbeats 400000 in
theorem compare_u64 (a b : Int) (w : World) : Gives 246 #[.int .u64 a, .int .u64 b] w (i64 (cmpI a b)) := by
  have g1 := Lib.hid (isNaN_u64 a w)
  have g2 := Lib.hid (isNaN_u64 b w)
  unfold cmpI
  by_cases h : a < b
  · rw [if_pos h]
    go_enter Tryz.func246, Tryz.ntmps246
    go_wp2_with fail
    refine g1.out.mono ?_; rintro e w' ⟨rfl, rfl⟩
    go_wp2_with fail
    refine g2.out.mono ?_; rintro e w' ⟨rfl, rfl⟩
    go_wp2_with fail
    go_ret
    exact ⟨rfl, rfl⟩
  · rw [if_neg h]
    by_cases h2 : b < a
    · rw [if_pos h2]
      go_enter Tryz.func246, Tryz.ntmps246
      go_wp2_with fail
      refine g1.out.mono ?_; rintro e w' ⟨rfl, rfl⟩
      go_wp2_with fail
      refine g2.out.mono ?_; rintro e w' ⟨rfl, rfl⟩
      go_wp2_with fail
      go_ret
      exact ⟨rfl, rfl⟩
    · rw [if_neg h2]
      go_enter Tryz.func246, Tryz.ntmps246
      go_wp2_with fail
      refine g1.out.mono ?_; rintro e w' ⟨rfl, rfl⟩
      go_wp2_with fail
      refine g2.out.mono ?_; rintro e w' ⟨rfl, rfl⟩
      go_wp2_with fail
      go_ret
      exact ⟨rfl, rfl⟩

set_option maxHeartbeats 400000 in
theorem byWear_any (x y : Info) (w : World) : Makes 186 #[x.val, y.val] w (i64 (cmpI x.wear y.wear)) := by
  have g := fun W => Lib.hid (compare_int x.wear y.wear W)
  go_enter Tryz.func186, Tryz.ntmps186
  go_wp2_with fail
  refine (g _).out.mono ?_; rintro e w1 ⟨rfl, rfl⟩
  go_wp2_with fail
  go_ret
  exact ⟨rfl, Base.al (Base.al (Below.refl _ _) _) _⟩
set_option maxHeartbeats 400000 in
theorem byAge_any (x y : Info) (w : World) : Makes 195 #[x.val, y.val] w (i64 (cmpI x.age y.age)) := by
  have g := fun W => Lib.hid (compare_u64 x.age y.age W)
  go_enter Tryz.func195, Tryz.ntmps195
  go_wp2_with fail
  refine (g _).out.mono ?_; rintro e w1 ⟨rfl, rfl⟩
  go_wp2_with fail
  go_ret
  exact ⟨rfl, Base.al (Base.al (Below.refl _ _) _) _⟩

/-! ### least -/
/-- The i-th. -/
def gi (l : List Info) (i : Int) : Info := l.getD i.toNat ⟨0, false, 0, 0, 0, false⟩
theorem gi_of {l : List Info} {k : Nat} (hk : k < l.length) : gi l k = l[k] := by simp [gi, hk]

set_option maxHeartbeats 1000000 in
set_option maxRecDepth 100000 in
theorem least1_any (cf : FuncId) (hcf : Enters cf) (c : Info → Info → Int) (hc : ∀ x y W, Makes cf #[x.val, y.val] W (i64 (c x y))) (A : Option Addr) (n cap : Nat) (l : List Info) (p3 p5 : Nat) (x y : Nat) (hx : x < l.length) (hy : y < l.length)
    (w : World) (h : Infos w (.slice A n cap) l) (h3 : w.cell? ⟨p3, 0, none⟩ = some (.slice A n cap)) (h5 : w.cell? ⟨p5, 0, none⟩ = some (.func (.func cf) #[] #[])) :
    Makes 243 #[i64 x, i64 y, .pointer (some ⟨p5, 0, none⟩), .pointer (some ⟨p3, 0, none⟩)] w (i64 (c (gi l x) (gi l y))) := by
  have hn := h.len
  rw [List.length_map] at hn
  subst hn
  rw [gi_of hx, gi_of hy]
  obtain ⟨b, off, rfl, hbs, a0, a1, a2, a3, a4, a5⟩ := Infos.cells h hx
  obtain ⟨b', off', hbo, _, c0, c1, c2, c3, c4, c5⟩ := Infos.cells h hy
  injection hbo with hbo
  injection hbo with hb1 hb2
  subst hb1; subst hb2
  have g := fun W => Lib.hid (hc l[x] l[y] W)
  have hx1 : (x : Int) < (l.length : Int) := by omega
  have hy1 : (y : Int) < (l.length : Int) := by omega
  have hx0 : (0 : Int) ≤ (x : Int) := by omega
  have hy0 : (0 : Int) ≤ (y : Int) := by omega
  go_enter Tryz.func243, Tryz.ntmps243
  go_wp2_with fail
  go_still_tail 9, (by kernel_rfl)
  change wpList _ _ _ _ _ w.drew
  go_wp2_with fail
  refine (g _).out.mono ?_; rintro e w1 ⟨rfl, hb1⟩
  go_wp2_with fail
  go_ret
  exact ⟨rfl, Base.tr (Base.dr (Below.refl _ _)) hb1⟩

/-- Are there any? -/
def someB : List Int → Bool | [] => false | _ :: _ => true
/-- The least of some numbers, by a comparison of what they number. -/
def leastOf (c : Info → Info → Int) (l : List Info) (xs : List Int) : Int := if xs = [] then 0 else minL (fun i k => c (gi l i) (gi l k)) xs
theorem enters82 : Enters 243 := fun _ _ => by kernel_rfl

set_option maxHeartbeats 1000000 in
set_option maxRecDepth 100000 in
theorem least_any (cf : FuncId) (hcf : Enters cf) (c : Info → Info → Int) (hc : ∀ x y W, Makes cf #[x.val, y.val] W (i64 (c x y))) (A : Option Addr) (n cap : Nat) (l : List Info) (B : Option Addr) (m cap2 : Nat) (xs : List Int)
    (w : World) (h : Infos w (.slice A n cap) l) (hx : Ints w (.slice B m cap2) xs) (hr : ∀ x ∈ xs, 0 ≤ x ∧ x < l.length) :
    Makes 185 #[.slice A n cap, .slice B m cap2, .func (.func cf) #[] #[]] w (.tuple #[i64 (leastOf c l xs), .bool (someB xs)]) := by
  have hm := hx.len
  rw [List.length_map] at hm
  have hxm := hx.max
  rw [List.length_map] at hxm
  unfold maxLen at hxm
  cases hxs : xs with
  | nil =>
    rw [hxs] at hm
    rw [hm]
    go_enter Tryz.func185, Tryz.ntmps185
    go_wp2_with fail
    go_ret2
    exact ⟨rfl, Base.al (Base.al (Below.refl _ _) _) _⟩
  | cons x0 xr =>
    have hv : leastOf c l xs = minL (fun i k => c (gi l i) (gi l k)) xs := if_neg (by rw [hxs]; simp)
    rw [← hxs, hv]
    have hd : someB xs = true := by rw [hxs]; rfl
    rw [hd]
    have hpos : 0 < xs.length := by rw [hxs]; simp
    subst hm
    have hne : ((xs.length : Int) == 0) = false := beq_eq_false_iff_ne.2 (by omega)
    have hcall : ∀ (w1 : World), Below w.heap.size w w1 → w1.cell? ⟨w.heap.size, 0, none⟩ = some (.slice A n cap) → w1.cell? ⟨w.heap.size + 1, 0, none⟩ = some (.func (.func cf) #[] #[]) → w.heap.size + 1 < w1.heap.size →
        Makes 242 #[.slice B xs.length cap2, .func (.func 243) #[] #[.pointer (some ⟨w.heap.size + 1, 0, none⟩), .pointer (some ⟨w.heap.size, 0, none⟩)]] w1 (i64 (minL (fun i k => c (gi l i) (gi l k)) xs)) := by
      intro w1 hb1 k3 k5 hsz
      refine minFunc_any _ _ enters82 _ _ _ _ _ hpos _ (Sl.below hx hb1) ?_
      intro x hxm y hym W hW
      obtain ⟨hx0, hx1⟩ := hr x hxm
      obtain ⟨hy0, hy1⟩ := hr y hym
      have := least1_any cf hcf c hc A n cap l w.heap.size (w.heap.size + 1) x.toNat y.toNat (by omega) (by omega) W (Sl.below h (Base.trb hb1 hW hb1.size))
        (by rw [hW.cell (p := ⟨w.heap.size, 0, none⟩) (by show w.heap.size < _; omega)]; exact k3) (by rw [hW.cell (p := ⟨w.heap.size + 1, 0, none⟩) (by show w.heap.size + 1 < _; omega)]; exact k5)
      rw [show ((x.toNat : Nat) : Int) = x from by omega, show ((y.toNat : Nat) : Int) = y from by omega] at this
      exact this
    have HC := Lib.hid hcall
    clear hcall hv hd hxs
    go_enter Tryz.func185, Tryz.ntmps185
    go_wp2_with fail
    refine (HC.out _ ?_ ?_ ?_ ?_).mono ?_
    · exact Base.al (Base.al (Below.refl _ _) _) _
    · go_simp
    · go_simp
    · simp
    rintro e w1 ⟨rfl, hb1⟩
    go_wp2_with fail
    go_ret2
    exact ⟨rfl, Base.tr (Base.al (Base.al (Below.refl _ _) _) _) hb1⟩

theorem idx_range (p : Info → Bool) : ∀ (l : List Info) (i : Nat), ∀ x ∈ idx p i l, (i : Int) ≤ x ∧ x < ((i + l.length : Nat) : Int)
  | [], _, x, h => by simp [idx] at h
  | y :: l, i, x, h => by
    have key : ∀ x ∈ idx p (i + 1) l, (i : Int) ≤ x ∧ x < ((i + (y :: l).length : Nat) : Int) := fun x h => by
      have := idx_range p l (i + 1) x h
      simp only [List.length_cons]; omega
    simp only [idx] at h
    split at h
    · rcases List.mem_cons.1 h with rfl | h
      · simp only [List.length_cons]; omega
      · exact key x h
    · exact key x h

/-- An owned row's value, taken apart. -/
theorem own_slice {w : World} {base : Nat} {e : TypeId} {size : Nat} {v : Value} {n : Nat} {xs : List Value} (h : w.ownsRow base e size v n xs) : ∃ A cap, v = .slice A n cap := by
  rcases h.2 with ⟨rfl, rfl⟩ | ⟨g, cap, cur, rfl, _⟩
  · exact ⟨none, 0, rfl⟩
  · exact ⟨some ⟨g, 0, none⟩, cap, rfl⟩
theorem own_Ints {w : World} {base : Nat} {e : TypeId} {v : Value} {xs : List Int} (h : w.ownsRow base e 1 v xs.length (xs.map (Value.int .i64))) : Ints w v xs := by
  have := own_Sl (xs := xs.map (Value.int .i64)) (by simpa using h)
  rw [List.map_map] at this
  exact this

theorem enters59 : Enters 181 := fun _ _ => by kernel_rfl
theorem enters60 : Enters 186 := fun _ _ => by kernel_rfl
theorem enters61 : Enters 184 := fun _ _ => by kernel_rfl
theorem enters70 : Enters 195 := fun _ _ => by kernel_rfl
def cWear (x y : Info) : Int := cmpI x.wear y.wear
def cAge (x y : Info) : Int := cmpI x.age y.age

set_option maxHeartbeats 1000000 in
set_option maxRecDepth 100000 in
theorem Write_any (A : Option Addr) (n cap : Nat) (l : List Info) (w : World) (h : Infos w (.slice A n cap) l) (hbig : l.length * 8 ≤ 140737488351232) :
    Makes 179 #[.slice A n cap] w (.tuple #[i64 (leastOf cWear l (idx canBlank 0 l)), .bool (someB (idx canBlank 0 l))]) := by
  have g1 := Lib.hid (of_blank canBlank A n cap l w h (fun x W => pkBlank_any x W) hbig)
  have hr := fun x hx => idx_range canBlank l 0 x hx
  have g2 := fun W B m cap2 hw hi => Lib.hid (least_any 186 enters60 cWear (fun x y W => byWear_any x y W) A n cap l B m cap2 (idx canBlank 0 l) W hw hi (fun x hx => by have := hr x hx; omega))
  have hh := Lib.hid h
  clear hr h
  go_enter Tryz.func179, Tryz.ntmps179
  go_wp2_with fail
  refine g1.out.mono ?_
  rintro e w1 ⟨v, rfl, hown, hb1⟩
  obtain ⟨B, cap2, rfl⟩ := own_slice hown
  have hI := own_Ints hown
  have hO := Lib.hid hown
  have hI2 := Lib.hid hI
  clear hown hI
  go_wp2_with fail
  refine (g2 _ _ _ _ (Sl.below hh.out hb1) hI2.out).out.mono ?_
  rintro e w2 ⟨rfl, hb2⟩
  go_wp2_with fail
  go_ret2
  exact ⟨rfl, Base.tr hb1 hb2⟩
set_option maxHeartbeats 1000000 in
set_option maxRecDepth 100000 in
theorem AtOnce_any (A : Option Addr) (n cap : Nat) (l : List Info) (w : World) (h : Infos w (.slice A n cap) l) (hbig : l.length * 8 ≤ 140737488351232) :
    Makes 251 #[.slice A n cap] w (.tuple #[i64 (leastOf cWear l (idx onceB 0 l)), .bool (someB (idx onceB 0 l))]) := by
  have g1 := Lib.hid (of_once onceB A n cap l w h (fun x W => once_any x W) hbig)
  have hr := fun x hx => idx_range onceB l 0 x hx
  have g2 := fun W B m cap2 hw hi => Lib.hid (least_any 186 enters60 cWear (fun x y W => byWear_any x y W) A n cap l B m cap2 (idx onceB 0 l) W hw hi (fun x hx => by have := hr x hx; omega))
  have hh := Lib.hid h
  clear hr h
  go_enter Tryz.func251, Tryz.ntmps251
  go_wp2_with fail
  refine g1.out.mono ?_
  rintro e w1 ⟨v, rfl, hown, hb1⟩
  obtain ⟨B, cap2, rfl⟩ := own_slice hown
  have hI := own_Ints hown
  have hO := Lib.hid hown
  have hI2 := Lib.hid hI
  clear hown hI
  go_wp2_with fail
  refine (g2 _ _ _ _ (Sl.below hh.out hb1) hI2.out).out.mono ?_
  rintro e w2 ⟨rfl, hb2⟩
  go_wp2_with fail
  go_ret2
  exact ⟨rfl, Base.tr hb1 hb2⟩
set_option maxHeartbeats 1000000 in
set_option maxRecDepth 100000 in
theorem Oldest_any (A : Option Addr) (n cap : Nat) (l : List Info) (w : World) (h : Infos w (.slice A n cap) l) (hbig : l.length * 8 ≤ 140737488351232) :
    Makes 136 #[.slice A n cap] w (.tuple #[i64 (leastOf cAge l (idx canErase 0 l)), .bool (someB (idx canErase 0 l))]) := by
  have g1 := Lib.hid (of_erasable canErase A n cap l w h (fun x W => erasable_any x W) hbig)
  have hr := fun x hx => idx_range canErase l 0 x hx
  have g2 := fun W B m cap2 hw hi => Lib.hid (least_any 195 enters70 cAge (fun x y W => byAge_any x y W) A n cap l B m cap2 (idx canErase 0 l) W hw hi (fun x hx => by have := hr x hx; omega))
  have hh := Lib.hid h
  clear hr h
  go_enter Tryz.func136, Tryz.ntmps136
  go_wp2_with fail
  refine g1.out.mono ?_
  rintro e w1 ⟨v, rfl, hown, hb1⟩
  obtain ⟨B, cap2, rfl⟩ := own_slice hown
  have hI := own_Ints hown
  have hO := Lib.hid hown
  have hI2 := Lib.hid hI
  clear hown hI
  go_wp2_with fail
  refine (g2 _ _ _ _ (Sl.below hh.out hb1) hI2.out).out.mono ?_
  rintro e w2 ⟨rfl, hb2⟩
  go_wp2_with fail
  go_ret2
  exact ⟨rfl, Base.tr hb1 hb2⟩
end Go.Proofs.YthiimpleljaimaaGreatDoor

