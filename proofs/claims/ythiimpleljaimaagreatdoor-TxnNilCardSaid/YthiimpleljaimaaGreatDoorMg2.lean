/- Words for slices in memory: a slice that reads as a list of rows. -/
import Derived.Test.YthiimpleljaimaaGreatDoorMg1
import Derived.Laws.StructEq
namespace Go.Proofs.YthiimpleljaimaaGreatDoor
open Go.RowKit

/-- The slice value v reads, in w, as the rows xs, each of k cells. -/
def Sl (w : World) (k : Nat) (v : Value) (xs : List (List Value)) : Prop :=
  ∃ A cap, v = .slice A xs.length cap ∧ xs.length ≤ cap ∧ cap ≤ maxLen ∧ (A = none → cap = 0) ∧
    (0 < xs.length → ∃ b off, A = some ⟨b, off, none⟩ ∧ b < w.heap.size ∧ ∀ i x, xs[i]? = some x → x.length = k ∧ ∀ j u, x[j]? = some u → w.cell? ⟨b, off + i * k + j, none⟩ = some u)

theorem Sl.nil (w : World) (k : Nat) : Sl w k (.slice none 0 0) [] := ⟨none, 0, rfl, Nat.le_refl _, by decide, fun _ => rfl, fun h => absurd h (by decide)⟩

/-- .. in a world where what was there is as it was. -/
theorem Sl.below {w w' : World} {k : Nat} {v : Value} {xs : List (List Value)} (h : Sl w k v xs) (hb : Below w.heap.size w w') : Sl w' k v xs := by
  obtain ⟨A, cap, hv, hl, hm, hn, hc⟩ := h
  refine ⟨A, cap, hv, hl, hm, hn, fun h0 => ?_⟩
  obtain ⟨b, off, hA, hlt, hx⟩ := hc h0
  refine ⟨b, off, hA, Nat.lt_of_lt_of_le hlt hb.size, fun i x hi => ⟨(hx i x hi).1, fun j u hj => ?_⟩⟩
  rw [hb.cell (p := ⟨b, off + i * k + j, none⟩) hlt]
  exact (hx i x hi).2 j u hj
theorem Sl.len {w : World} {k : Nat} {A : Option Addr} {n cap : Nat} {xs : List (List Value)} (h : Sl w k (.slice A n cap) xs) : n = xs.length := by
  obtain ⟨_, _, hv, _⟩ := h; injection hv
theorem Sl.max {w : World} {k : Nat} {v : Value} {xs : List (List Value)} (h : Sl w k v xs) : xs.length ≤ maxLen := by
  obtain ⟨A, cap, _, hl, hm, _⟩ := h; omega

/-- An element of a slice that is not empty: where it stands. -/
theorem Sl.at {w : World} {k : Nat} {A : Option Addr} {n cap : Nat} {xs : List (List Value)} (h : Sl w k (.slice A n cap) xs) (hn : 0 < n) :
    ∃ b off, A = some ⟨b, off, none⟩ ∧ b < w.heap.size ∧ ∀ i x, xs[i]? = some x → x.length = k ∧ ∀ j u, x[j]? = some u → w.cell? ⟨b, off + i * k + j, none⟩ = some u := by
  obtain ⟨A', cap', hv, hl, hm, hn', hc⟩ := h
  injection hv with h1 h2 h3
  subst h1; subst h2
  exact hc hn

theorem block_add (a : Addr) (n : Nat) : (a.add n).block = a.block := by unfold Addr.add; split <;> rfl
/-- The cells of a block just made. -/
theorem news_of (w : World) (cs : List Value) (t : TypeId) : ∀ j u, cs[j]? = some u → (w.alloc (.cells cs.toArray t)).cell? ((⟨w.heap.size, 0, none⟩ : Addr).add j) = some u := by
  intro j u hj
  have hadd : (⟨w.heap.size, 0, none⟩ : Addr).add j = ⟨w.heap.size, j, none⟩ := by unfold Addr.add; split <;> simp_all
  rw [hadd, cell_of_row _ w.heap.size j cs.toArray t (0, 0) (heap_alloc_new w _)]
  simpa using hj

/-- An owned row, in a world where what was there is as it was. -/
theorem own_below {w w' : World} {base : Nat} {e : TypeId} {size : Nat} {v : Value} {n : Nat} {xs : List Value} (h : w.ownsRow base e size v n xs) (hb : Below w.heap.size w w') : w'.ownsRow base e size v n xs := by
  refine ⟨h.1, ?_⟩
  rcases h.2 with hn | ⟨g, cap, cur, rfl, hbg, hgg, rest⟩
  · exact .inl hn
  · refine .inr ⟨g, cap, cur, rfl, hbg, ?_, rest⟩
    rw [hb.block g (Array.getElem?_eq_some_iff.1 hgg).1]
    exact hgg
/-- The base of an owned row may be lowered. -/
theorem own_base {w : World} {base B : Nat} {e : TypeId} {size : Nat} {v : Value} {n : Nat} {xs : List Value} (h : w.ownsRow base e size v n xs) (hB : B ≤ base) : w.ownsRow B e size v n xs := by
  refine ⟨h.1, ?_⟩
  rcases h.2 with hn | ⟨g, cap, cur, rfl, hbg, rest⟩
  · exact .inl hn
  · exact .inr ⟨g, cap, cur, rfl, Nat.le_trans hB hbg, rest⟩

/-- An owned row of elements of one cell, read as a slice. -/
theorem own_Sl {w : World} {base : Nat} {e : TypeId} {v : Value} {xs : List Value} (h : w.ownsRow base e 1 v xs.length xs) : Sl w 1 v (xs.map fun x => [x]) := by
  rcases h.2 with ⟨rfl, hn⟩ | ⟨g, cap, cur, rfl, hbg, hgg, hnc, hcm, hcs, htake⟩
  · have : xs = [] := List.eq_nil_of_length_eq_zero hn
    subst this
    exact Sl.nil w 1
  · refine ⟨some ⟨g, 0, none⟩, cap, by rw [List.length_map], by rw [List.length_map]; exact hnc, hcm, (fun h => by cases h), fun _ => ⟨g, 0, rfl, (Array.getElem?_eq_some_iff.1 hgg).1, ?_⟩⟩
    intro i x hi
    rw [List.getElem?_map, Option.map_eq_some_iff] at hi
    obtain ⟨u, hu, rfl⟩ := hi
    refine ⟨rfl, fun j u' hj => ?_⟩
    have hj0 : j = 0 := by
      have := List.getElem?_eq_some_iff.1 hj
      obtain ⟨hl, _⟩ := this
      simp at hl; omega
    subst hj0
    simp at hj
    subst hj
    have := h.cells (g := g) rfl i u hu
    simpa [Addr.add_lit] using this

/-- A slice of integers reads as xs. -/
abbrev Ints (w : World) (v : Value) (xs : List Int) : Prop := Sl w 1 v (xs.map fun n => [Value.int .i64 n])
theorem Ints.cell {w : World} {A : Option Addr} {n cap : Nat} {xs : List Int} (h : Ints w (.slice A n cap) xs) {k : Nat} (hk : k < xs.length) :
    ∃ b off, A = some ⟨b, off, none⟩ ∧ b < w.heap.size ∧ ∀ i (hi : i < xs.length), w.cell? ⟨b, off + i, none⟩ = some (.int .i64 xs[i]) := by
  have hn := h.len
  rw [List.length_map] at hn
  obtain ⟨b, off, hA, hb, hx⟩ := Sl.at h (by omega)
  refine ⟨b, off, hA, hb, fun i hi => ?_⟩
  have := (hx i [.int .i64 xs[i]] (by simp [hi])).2 0 _ rfl
  simpa using this

/-! ### Stores into a known block -/
theorem heap_setCell {w : World} {g : Nat} {cur : Array Value} {t : TypeId} {fr : Nat × Nat} (h : w.heap[g]? = some (.cells cur t fr)) (o : Nat) (u : Value) :
    (w.setCell ⟨g, o, none⟩ u).heap[g]? = some (.cells (cur.setIfInBounds o u) t fr) := by
  have hlt := (Array.getElem?_eq_some_iff.1 h).1
  simp only [World.setCell, Array.getElem?_modify, if_true, h, Option.map_some]
  simp
theorem grown_refl (w : World) (row : Option Nat) : w.grownBy w row := ⟨rfl, rfl, rfl, Nat.le_refl _, fun _ _ _ => rfl⟩
theorem grown_below {w v u : World} {row : Option Nat} (h : w.grownBy v row) (hb : Below v.heap.size v u) : w.grownBy u row :=
  ⟨hb.os.trans h.os, hb.tape.trans h.tape, hb.output.trans h.output, Nat.le_trans h.size hb.size, fun k hk hr => (hb.block k (Nat.lt_of_lt_of_le hk h.size)).trans (h.block k hk hr)⟩
theorem grown_of_below {w v : World} (row : Option Nat) (hb : Below w.heap.size w v) : w.grownBy v row := ⟨hb.os, hb.tape, hb.output, hb.size, fun k hk _ => hb.block k hk⟩
theorem grown_setCell {w v : World} {g : Nat} (h : w.grownBy v (some g)) (o : Nat) (u : Value) : w.grownBy (v.setCell ⟨g, o, none⟩ u) (some g) :=
  ⟨h.os, h.tape, h.output, by simpa [World.setCell] using h.size, fun k hk hr => (Below.heap_setCell _ _ _ _ (fun e => hr (by rw [e]))).trans (h.block k hk hr)⟩
theorem grown_setRow {w v : World} {g : Nat} (h : w.grownBy v (some g)) (cs : Array Value) : w.grownBy (v.setRow g cs) (some g) :=
  ⟨h.os, h.tape, h.output, by simpa using h.size, fun k hk hr => (setRow_other _ _ _ _ (fun e => hr (by rw [e]))).trans (h.block k hk hr)⟩
theorem cell_blk {w : World} {g : Nat} {cur : Array Value} {t : TypeId} {fr : Nat × Nat} (h : w.heap[g]? = some (.cells cur t fr)) (o : Nat) : w.cell? ⟨g, o, none⟩ = cur[o]? := cell_of_row w g o cur t fr h
theorem frozen_blk {w : World} {g : Nat} {cur : Array Value} {t : TypeId} (h : w.heap[g]? = some (.cells cur t (0, 0))) (o : Nat) : w.frozen? ⟨g, o, none⟩ = false := by simp [World.frozen?, h]

/-- 'clear' of a piece of a known block, elements of one cell. -/
theorem run_clear_row {P : Program} (w : World) {t e ty : TypeId} {z : Value} (ht : P.underlying t = some (.slice e)) (hv : (zeroValue e).run P w = .ok z w) (hz : z.cells = #[z]) (h1 : z.oneCell' = true)
    {g o m c : Nat} {cur : Array Value} {el : TypeId} (hg : w.heap[g]? = some (.cells cur el (0, 0))) (hfit : o + m ≤ cur.size) :
    (Builtin.clear_ #[t] ty #[.slice (some ⟨g, o, none⟩) m c]).run P w = .ok (.tuple #[]) (w.setRow g (cur.toList.take o ++ List.replicate m z ++ cur.toList.drop (o + m)).toArray) := by
  cases m with
  | zero =>
    have : (w.setRow g (cur.toList.take o ++ List.replicate 0 z ++ cur.toList.drop (o + 0)).toArray) = w := by
      simp only [List.replicate_zero, List.append_nil, Nat.add_zero, List.take_append_drop, Array.toArray_toList]
      exact setRow_self w g cur el (0, 0) hg
    rw [this]
    simp [Builtin.clear_, run_underlying ht]
  | succ m =>
    have hzc : (Builtin.zeroCells #[z] (m + 1)).toList = List.replicate (m + 1) z := by
      simp [Builtin.zeroCells]
      apply List.ext_getElem
      · simp
      · intro i h1 h2
        simp [Nat.mod_one]
    have hst := run_storeCells_at P g o el (List.replicate (m + 1) z) 0 cur w hg (by simpa using hfit) (fun v hv => by rw [(List.mem_replicate.1 hv).2]; exact h1)
    simp only [Nat.add_zero, List.length_replicate] at hst
    simp [Builtin.clear_, run_underlying ht, hv, hz, hzc, hst]
end Go.Proofs.YthiimpleljaimaaGreatDoor

/- What the functions of package ring come to: sizes, items that may be. -/
namespace Go.Proofs.YthiimpleljaimaaGreatDoor
open Go.RowKit Flo

/-- The size of a key and a value. -/
def sizeB (k v : ByteArray) : Int := if 48 < k.size ∨ 64 < v.size then 0 else 32 + k.size + v.size

set_option maxHeartbeats 400000 in
theorem recSize_any (n : Int) (w : World) (h0 : 0 ≤ n) (h : n ≤ 200) : Gives 241 #[i64 n] w (i64 (8 + n)) := by
  have h1 : ¬ n < 0 := by omega
  have h2 : decide (65535 < n) = false := decide_eq_false (by omega)
  go_enter Tryz.func241, Tryz.ntmps241
  go_wp2_with fail
  go_ret
  exact ⟨rfl, rfl⟩

set_option maxHeartbeats 400000 in
theorem ringSize_any (k v : ByteArray) (w : World) : Gives 176 #[.string k, .string v] w (i64 (sizeB k v)) := by
  by_cases h1 : 48 < k.size
  · have hv : sizeB k v = 0 := if_pos (.inl h1)
    have t1 : decide ((48 : Int) < (k.size : Int)) = true := decide_eq_true (by omega)
    rw [hv]
    clear hv h1
    go_enter Tryz.func176, Tryz.ntmps176
    go_wp2_with fail
    go_ret
    exact ⟨rfl, rfl⟩
  · by_cases h2 : 64 < v.size
    · have hv : sizeB k v = 0 := if_pos (.inr h2)
      have t1 : decide ((48 : Int) < (k.size : Int)) = false := decide_eq_false (by omega)
      have t2 : decide ((64 : Int) < (v.size : Int)) = true := decide_eq_true (by omega)
      rw [hv]
      clear hv h1 h2
      go_enter Tryz.func176, Tryz.ntmps176
      go_wp2_with fail
      go_ret
      exact ⟨rfl, rfl⟩
    · have hv : sizeB k v = 32 + k.size + v.size := if_neg (by omega)
      have t1 : decide ((48 : Int) < (k.size : Int)) = false := decide_eq_false (by omega)
      have t2 : decide ((64 : Int) < (v.size : Int)) = false := decide_eq_false (by omega)
      have g := fun W => recSize_any (24 + k.size + v.size) W (by omega) (by omega)
      rw [show (8 : Int) + (24 + k.size + v.size) = sizeB k v from by rw [hv]; omega] at g
      have G := fun W => Lib.hid (g W)
      clear hv g
      go_enter Tryz.func176, Tryz.ntmps176
      go_wp2_with fail
      refine (G _).out.mono ?_; rintro e w1 ⟨rfl, rfl⟩
      go_wp2_with fail
      go_ret
      exact ⟨rfl, rfl⟩

/-- An item. -/
structure Item where
  seq : Int
  ver : Int
  index : Int
  count : Int
  a : Nat
  b : Nat
  gone : Bool
  key : ByteArray
  value : ByteArray
abbrev Item.row (x : Item) : List Value := [.int .u64 x.seq, .int .u64 x.ver, i64 x.index, i64 x.count, cx x.a x.b, .bool x.gone, .string x.key, .string x.value]
abbrev Item.val (x : Item) : Value := .agg #[.int .u64 x.seq, .int .u64 x.ver, i64 x.index, i64 x.count, cx x.a x.b, .bool x.gone, .string x.key, .string x.value]
noncomputable def placeOk (a b : Nat) : Bool := match parts? a b with | some (s, o) => decide (s ≤ 254) && decide (o ≤ 65535) | none => false
noncomputable def mayB (x : Item) : Bool :=
  (decide (1 ≤ x.count) && decide (x.count ≤ 255) && decide (0 ≤ x.index) && decide (x.index < x.count)) && placeOk x.a x.b && !decide (x.key.toList = []) && decide (0 < sizeB x.key x.value) && (!x.gone || decide (x.value.toList = []))

set_option maxHeartbeats 4000000 in
set_option maxRecDepth 100000 in
/-- An item whose index or count can't be. -/
theorem may_bad (x : Item) (w : World) (h : x.count < 1 ∨ 255 < x.count ∨ x.index < 0 ∨ x.count ≤ x.index) : Makes 130 #[x.val] w (.bool false) := by
  by_cases h1 : x.count < 1
  · clear h
    go_enter Tryz.func130, Tryz.ntmps130
    go_wp2_with fail
    go_ret
    exact ⟨rfl, Base.al (Below.refl _ _) _⟩
  · by_cases h2 : 255 < x.count
    · clear h
      go_enter Tryz.func130, Tryz.ntmps130
      go_wp2_with fail
      go_ret
      exact ⟨rfl, Base.al (Below.refl _ _) _⟩
    · by_cases h3 : x.index < 0
      · clear h
        go_enter Tryz.func130, Tryz.ntmps130
        go_wp2_with fail
        go_ret
        exact ⟨rfl, Base.al (Below.refl _ _) _⟩
      · have h4 : x.count ≤ x.index := by omega
        clear h
        go_enter Tryz.func130, Tryz.ntmps130
        go_wp2_with fail
        go_ret
        exact ⟨rfl, Base.al (Below.refl _ _) _⟩

set_option maxHeartbeats 4000000 in
set_option maxRecDepth 100000 in
/-- An item whose place can't be. -/
theorem may_place (x : Item) (w : World) (h1 : ¬ x.count < 1) (h2 : ¬ 255 < x.count) (h3 : ¬ x.index < 0) (h4 : ¬ x.count ≤ x.index) (h : placeOk x.a x.b = false) : Makes 130 #[x.val] w (.bool false) := by
  unfold placeOk parts? at h
  cases ha : part? x.a with
  | none =>
    have g := fun W => Lib.hid (parts_no (a := x.a) (b := x.b) W (.inl ha))
    clear h ha
    go_enter Tryz.func130, Tryz.ntmps130
    go_wp2_with fail
    refine (g _).out.mono ?_; rintro e w1 ⟨rfl, rfl⟩
    go_wp2_with fail
    go_ret
    exact ⟨rfl, Base.al (Below.refl _ _) _⟩
  | some s =>
    cases hb : part? x.b with
    | none =>
      have g := fun W => Lib.hid (parts_no (a := x.a) (b := x.b) W (.inr hb))
      clear h ha hb
      go_enter Tryz.func130, Tryz.ntmps130
      go_wp2_with fail
      refine (g _).out.mono ?_; rintro e w1 ⟨rfl, rfl⟩
      go_wp2_with fail
      go_ret
      exact ⟨rfl, Base.al (Below.refl _ _) _⟩
    | some o =>
      rw [ha, hb] at h
      have g := fun W => Lib.hid (parts_yes W ha hb)
      by_cases hs : s ≤ 254
      · have ho : ¬ o ≤ 65535 := by simpa [hs] using h
        have t1 : decide ((254 : Int) < (s : Int)) = false := decide_eq_false (by omega)
        have t2 : decide ((65535 : Int) < (o : Int)) = true := decide_eq_true (by omega)
        clear h ha hb hs ho
        go_enter Tryz.func130, Tryz.ntmps130
        go_wp2_with fail
        refine (g _).out.mono ?_; rintro e w1 ⟨rfl, rfl⟩
        go_wp2_with fail
        go_ret
        exact ⟨rfl, Base.al (Below.refl _ _) _⟩
      · have t1 : decide ((254 : Int) < (s : Int)) = true := decide_eq_true (by omega)
        clear h ha hb hs
        go_enter Tryz.func130, Tryz.ntmps130
        go_wp2_with fail
        refine (g _).out.mono ?_; rintro e w1 ⟨rfl, rfl⟩
        go_wp2_with fail
        go_ret
        exact ⟨rfl, Base.al (Below.refl _ _) _⟩

set_option maxHeartbeats 4000000 in
set_option maxRecDepth 100000 in
/-- An item whose place, index and count can be. -/
theorem may_rest (x : Item) (w : World) (h1 : ¬ x.count < 1) (h2 : ¬ 255 < x.count) (h3 : ¬ x.index < 0) (h4 : ¬ x.count ≤ x.index) (h : placeOk x.a x.b = true) : Makes 130 #[x.val] w (.bool (!decide (x.key.toList = []) && decide (0 < sizeB x.key x.value) && (!x.gone || decide (x.value.toList = [])))) := by
  unfold placeOk parts? at h
  cases ha : part? x.a with
  | none => rw [ha] at h; simp at h
  | some s =>
    cases hb : part? x.b with
    | none => rw [ha, hb] at h; simp at h
    | some o =>
      rw [ha, hb] at h
      have g := fun W => Lib.hid (parts_yes W ha hb)
      have g1 := fun W => Lib.hid (ringSize_any x.key x.value W)
      have hs : s ≤ 254 ∧ o ≤ 65535 := by simpa using h
      have t1 : decide ((254 : Int) < (s : Int)) = false := decide_eq_false (by omega)
      have t2 : decide ((65535 : Int) < (o : Int)) = false := decide_eq_false (by omega)
      clear h ha hb hs
      by_cases hk : x.key.toList = []
      · have hv : (!decide (x.key.toList = []) && decide (0 < sizeB x.key x.value) && (!x.gone || decide (x.value.toList = []))) = false := by rw [decide_eq_true hk]; rfl
        rw [hv]
        clear hv
        go_enter Tryz.func130, Tryz.ntmps130
        go_wp2_with fail
        refine (g _).out.mono ?_; rintro e w1 ⟨rfl, rfl⟩
        go_wp2_with fail
        go_ret
        exact ⟨rfl, Base.al (Below.refl _ _) _⟩
      · obtain ⟨sz, hsz⟩ : ∃ sz, sz = sizeB x.key x.value := ⟨_, rfl⟩
        rw [← hsz] at g1 ⊢
        rw [decide_eq_false hk]
        clear hsz
        cases hg : x.gone <;> by_cases hp : 0 < sz <;> by_cases hv : x.value.toList = []
        all_goals
          have HG := Lib.hid hg
          go_enter Tryz.func130, Tryz.ntmps130
          go_wp2_with fail
          refine (g _).out.mono ?_; rintro e w1 ⟨rfl, rfl⟩
          go_wp2_with fail
          refine (g1 _).out.mono ?_; rintro e w1 ⟨rfl, rfl⟩
          go_wp2_with fail
          go_ret
          exact ⟨congrArg (fun b => Ending.returned (Value.bool b)) (by simp [hp, hv, hk]), Base.al (Below.refl _ _) _⟩

theorem may_any (x : Item) (w : World) : Makes 130 #[x.val] w (.bool (mayB x)) := by
  by_cases h : x.count < 1 ∨ 255 < x.count ∨ x.index < 0 ∨ x.count ≤ x.index
  · have hv : mayB x = false := by
      have : (decide (1 ≤ x.count) && decide (x.count ≤ 255) && decide (0 ≤ x.index) && decide (x.index < x.count)) = false := by
        rw [← Bool.not_eq_true]
        simp
        omega
      unfold mayB
      rw [this]; rfl
    rw [hv]
    exact may_bad x w h
  · have hv : (decide (1 ≤ x.count) && decide (x.count ≤ 255) && decide (0 ≤ x.index) && decide (x.index < x.count)) = true := by simp; omega
    have hm : mayB x = (placeOk x.a x.b && !decide (x.key.toList = []) && decide (0 < sizeB x.key x.value) && (!x.gone || decide (x.value.toList = []))) := by unfold mayB; rw [hv, Bool.true_and]
    rw [hm]
    cases hp : placeOk x.a x.b
    · exact may_place x w (by omega) (by omega) (by omega) (by omega) hp
    · exact may_rest x w (by omega) (by omega) (by omega) (by omega) hp
end Go.Proofs.YthiimpleljaimaaGreatDoor

/- ring.Link. -/
namespace Go.Proofs.YthiimpleljaimaaGreatDoor
open Go.RowKit Flo

structure Pair where
  key : ByteArray
  value : ByteArray
  gone : Bool
abbrev Pair.row (p : Pair) : List Value := [.string p.key, .string p.value, .bool p.gone]
instance : Inhabited Pair := ⟨⟨ByteArray.empty, ByteArray.empty, false⟩⟩
abbrev Pairs (w : World) (v : Value) (l : List Pair) : Prop := Sl w 3 v (l.map Pair.row)
abbrev U64s (w : World) (v : Value) (l : List Int) : Prop := Sl w 1 v (l.map fun n => [Value.int .u64 n])
abbrev Places (w : World) (v : Value) (l : List (Nat × Nat)) : Prop := Sl w 1 v (l.map fun p => [cx p.1 p.2])

/-- The item number k of a ring. -/
def linkItem (seq : Int) (l : List Pair) (vers : List Int) (ps : List (Nat × Nat)) (k : Nat) : Item :=
  ⟨seq, vers.getD k 0, k, l.length, (ps.getD ((k + 1) % l.length) (0, 0)).1, (ps.getD ((k + 1) % l.length) (0, 0)).2, (l.getD k default).gone, (l.getD k default).key, (l.getD k default).value⟩
def linkOk (seq : Int) (l : List Pair) (vers : List Int) (ps : List (Nat × Nat)) : Prop :=
  l.length ≠ 0 ∧ vers.length = l.length ∧ ps.length = l.length ∧ ∀ k, k < l.length → mayB (linkItem seq l vers ps k) = true

set_option maxHeartbeats 2000000 in
set_option maxRecDepth 100000 in
theorem link_no (seq : Int) (A B C : Option Addr) (n m q c1 c2 c3 : Nat) (l : List Pair) (vers : List Int) (ps : List (Nat × Nat)) (w : World) (h1 : Pairs w (.slice A n c1) l) (h2 : U64s w (.slice B m c2) vers) (h3 : Places w (.slice C q c3) ps)
    (h : l.length = 0 ∨ vers.length ≠ l.length ∨ ps.length ≠ l.length) : Makes 138 #[.int .u64 seq, .slice A n c1, .slice B m c2, .slice C q c3] w (.tuple #[.slice none 0 0, i64 1]) := by
  have n1 := h1.len
  have n2 := h2.len
  have n3 := h3.len
  rw [List.length_map] at n1 n2 n3
  subst n1; subst n2; subst n3
  clear h1 h2 h3
  obtain ⟨t1, ht1⟩ : ∃ t, ((l.length : Int) == 0) = t := ⟨_, rfl⟩
  obtain ⟨t2, ht2⟩ : ∃ t, ((vers.length : Int) != (l.length : Int)) = t := ⟨_, rfl⟩
  obtain ⟨t3, ht3⟩ : ∃ t, ((ps.length : Int) != (l.length : Int)) = t := ⟨_, rfl⟩
  have hor : (t1 || t2 || t3) = true := by
    rw [← ht1, ← ht2, ← ht3, Bool.or_eq_true, Bool.or_eq_true, beq_iff_eq, bne_iff_ne, bne_iff_ne]
    omega
  cases t1 <;> cases t2 <;> cases t3
  · cases hor
  all_goals
    clear hor h
    go_enter Tryz.func138, Tryz.ntmps138
    go_wp2_with fail
    go_ret2
    exact ⟨rfl, Below.refl _ _⟩

theorem info_Item : (Tryz.prog.info? 129).map (fun i => (i.zero, i.size, i.bytes)) = some (some (Item.val ⟨0, 0, 0, 0, 0, 0, false, ByteArray.empty, ByteArray.empty⟩), 8, 88) := by kernel_rfl
end Go.Proofs.YthiimpleljaimaaGreatDoor

/- Two items, two places held against each other. -/
namespace Go.Proofs.YthiimpleljaimaaGreatDoor
open Go.RowKit Flo

/-- '==' of two places. -/
noncomputable def cxEq (a b c d : Nat) : Bool := (FloatKind.f64.format.order a c == some Ordering.eq) && (FloatKind.f64.format.order b d == some Ordering.eq)
noncomputable def itemEq (x y : Item) : Bool := (x.seq == y.seq) && (x.ver == y.ver) && (x.index == y.index) && (x.count == y.count) && cxEq x.a x.b y.a y.b && (x.gone == y.gone) && (x.key.toList == y.key.toList) && (x.value.toList == y.value.toList)

theorem run_equalIn_cx {P : Program} (w : World) (d : Nat) {t : TypeId} (ht : P.underlying t = some (.complex .f64)) (a b c e : Nat) :
    (Op.equalIn (d + 1) t (cx a b) (cx c e)).run P w = .ok (cxEq a b c e) w := by
  simp [Op.equalIn, run_underlying ht, cxEq, Op.floatEq]

set_option maxHeartbeats 1000000 in
theorem run_eq_item (x y : Item) (w : World) (d : Nat) : (Op.equalIn (d + 2) 129 x.val y.val).run Tryz.prog w = .ok (itemEq x y) w := by
  rw [run_equalIn_struct w (d + 1) 129 _ _ (by kernel_rfl) (by kernel_rfl)]
  simp [go_sem, Program.fieldsOf, Tryz.underlying129, Op.eqFields]
  simp only [run_equalIn_cx w d Tryz.underlying127, Result.andThen_ok]
  unfold itemEq
  generalize cxEq x.a x.b y.a y.b = c
  cases c <;> repeat' split
  all_goals simp_all

theorem cxEq_self {a b s o : Nat} (ha : part? a = some s) (hb : part? b = some o) : cxEq a b a b = true := by
  unfold cxEq
  rw [Bool.and_eq_true]
  exact ⟨eqF_same (part_of ha).1 (part_of ha).1, eqF_same (part_of hb).1 (part_of hb).1⟩
theorem placeOk_parts {a b : Nat} (h : placeOk a b = true) : ∃ s o, part? a = some s ∧ part? b = some o ∧ s ≤ 254 ∧ o ≤ 65535 := by
  unfold placeOk parts? at h
  cases ha : part? a with
  | none => rw [ha] at h; cases h
  | some s =>
    cases hb : part? b with
    | none => rw [ha, hb] at h; cases h
    | some o =>
      rw [ha, hb] at h
      simp at h
      exact ⟨s, o, rfl, rfl, h⟩
theorem itemEq_self {x : Item} (h : placeOk x.a x.b = true) : itemEq x x = true := by
  obtain ⟨s, o, ha, hb, _⟩ := placeOk_parts h
  unfold itemEq
  rw [cxEq_self ha hb]
  simp
end Go.Proofs.YthiimpleljaimaaGreatDoor

