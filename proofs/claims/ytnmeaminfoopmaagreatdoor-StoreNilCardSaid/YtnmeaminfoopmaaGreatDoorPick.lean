/- What the functions of package pick and of its reference come to: contracts. -/
import Derived.Test.YtnmeaminfoopmaaGreatDoorMg1
import Derived.Test.YtnmeaminfoopmaaGreatDoorMg2
namespace Go.Proofs.YtnmeaminfoopmaaGreatDoor
open Go.RowKit

/-- How a sector stands. -/
structure Info where
  cls : Int
  isOpen : Bool
  wear : Int
  age : Int
  need : Int
  held : Bool
abbrev Info.row (x : Info) : List Value := [i64 x.cls, .bool x.isOpen, i64 x.wear, .int .u64 x.age, i64 x.need, .bool x.held]
abbrev Infos (w : World) (v : Value) (l : List Info) : Prop := Sl w 6 v (l.map Info.row)

def greatOf (x : Info) : Bool := decide (1099511627776 < x.wear) || decide (x.wear < -1099511627776)
def great (l : List Info) : Bool := l.any greatOf || decide (200 < l.length)

theorem Infos.cells {w : World} {A : Option Addr} {n cap : Nat} {l : List Info} (h : Infos w (.slice A n cap) l) {k : Nat} (hk : k < l.length) :
    ∃ b off, A = some ⟨b, off, none⟩ ∧ b < w.heap.size ∧ w.cell? ⟨b, off + k * 6, none⟩ = some (i64 l[k].cls) ∧ w.cell? ⟨b, off + k * 6 + 1, none⟩ = some (.bool l[k].isOpen) ∧ w.cell? ⟨b, off + k * 6 + 2, none⟩ = some (i64 l[k].wear) ∧
      w.cell? ⟨b, off + k * 6 + 3, none⟩ = some (.int .u64 l[k].age) ∧ w.cell? ⟨b, off + k * 6 + 4, none⟩ = some (i64 l[k].need) ∧ w.cell? ⟨b, off + k * 6 + 5, none⟩ = some (.bool l[k].held) := by
  have hn := h.len
  rw [List.length_map] at hn
  obtain ⟨b, off, hA, hb, hx⟩ := h.at (by omega)
  have := (hx k l[k].row (by simp [hk])).2
  exact ⟨b, off, hA, hb, this 0 _ rfl, this 1 _ rfl, this 2 _ rfl, this 3 _ rfl, this 4 _ rfl, this 5 _ rfl⟩

theorem ret_bool {a b : Bool} (h : a = b) : Ending.returned (.bool a) = .returned (.bool b) := by rw [h]
theorem ret_int {k : IntKind} {a b : Int} (h : a = b) : Ending.returned (.int k a) = .returned (.int k b) := by rw [h]
theorem any_snoc {α : Type} (l : List α) (p : α → Bool) {k : Nat} (hk : k < l.length) : (l.take (k + 1)).any p = ((l.take k).any p || p l[k]) := by
  rw [List.take_succ_eq_append_getElem hk, List.any_append]; simp
theorem take_all {α : Type} {l : List α} {k : Nat} (h : ¬ k < l.length) : l.take k = l := List.take_of_length_le (by omega)

/-! ### pick.of: the numbers of those that are so -/
/-- The numbers of those that are so, from a number on. -/
def idx (p : Info → Bool) : Nat → List Info → List Int
  | _, [] => []
  | i, x :: l => if p x then (i : Int) :: idx p (i + 1) l else idx p (i + 1) l

abbrev Info.val (x : Info) : Value := .agg #[i64 x.cls, .bool x.isOpen, i64 x.wear, .int .u64 x.age, i64 x.need, .bool x.held]

set_option maxHeartbeats 400000 in
theorem pkBlank_any (x : Info) (w : World) : Makes 121 #[x.val] w (.bool (decide (x.cls = 0) && !x.held)) := by
  cases hb : x.held <;> by_cases hc : x.cls = 0
  all_goals
    go_enter Tryz.func121, Tryz.ntmps121
    go_wp2_with fail
    go_ret
    exact ⟨ret_bool (by simp [hc]), Base.al (Below.refl _ _) _⟩

/-- A call that comes back with a slice of its own of these integers. -/
def FreshInts (w : World) (xs : List Int) (e : Ending) (w' : World) : Prop :=
  ∃ v, e = .returned v ∧ w'.ownsRow w.heap.size 3 1 v xs.length (xs.map (Value.int .i64)) ∧ Below w.heap.size w w'

theorem idx_snoc (p : Info → Bool) : ∀ (l : List Info) (i : Nat) (x : Info), idx p i (l ++ [x]) = idx p i l ++ (if p x then [((i + l.length : Nat) : Int)] else [])
  | [], i, x => by simp [idx]
  | y :: l, i, x => by
    simp only [List.cons_append, idx]
    rw [idx_snoc p l (i + 1) x]
    simp only [List.length_cons]
    rw [show i + 1 + l.length = i + (l.length + 1) from by omega]
    split <;> simp
theorem idx_take (p : Info → Bool) (l : List Info) {k : Nat} (hk : k < l.length) : idx p 0 (l.take (k + 1)) = idx p 0 (l.take k) ++ (if p l[k] then [(k : Int)] else []) := by
  rw [List.take_succ_eq_append_getElem hk, idx_snoc]
  simp [Nat.min_eq_left (Nat.le_of_lt hk)]
theorem idx_len (p : Info → Bool) : ∀ (l : List Info) (i : Nat), (idx p i l).length ≤ l.length
  | [], _ => by simp [idx]
  | y :: l, i => by
    simp only [idx]
    have := idx_len p l (i + 1)
    split <;> simp <;> omega

theorem info_int : (Tryz.prog.info? 3).map (fun i => (i.zero, i.size, i.bytes)) = some (some (.int .i64 0), 1, 8) := by kernel_rfl

/-- Old cells and marks read as before. -/
theorem bcell {W w1 : World} (hb : Below W.heap.size W w1) : (∀ b o, b < W.heap.size → w1.cell? ⟨b, o, none⟩ = W.cell? ⟨b, o, none⟩) ∧ (∀ b o, b < W.heap.size → w1.frozen? ⟨b, o, none⟩ = W.frozen? ⟨b, o, none⟩) :=
  ⟨fun b o h => hb.cell (p := ⟨b, o, none⟩) h, fun b o h => hb.frozen (p := ⟨b, o, none⟩) h⟩

set_option maxHeartbeats 1000000 in
set_option maxRecDepth 100000 in
theorem of_blank (p : Info → Bool) (A : Option Addr) (n cap : Nat) (l : List Info) (w : World) (h : Infos w (.slice A n cap) l)
    (hp : ∀ (x : Info) (W : World), Makes 121 #[x.val] W (.bool (p x))) (hbig : l.length * 8 ≤ 140737488351232) :
    Calls Tryz.prog 85 #[.slice A n cap, .func (.func 121) #[] #[]] w (FreshInts w (idx p 0 l)) := by
  have hn := h.len
  rw [List.length_map] at hn
  subst hn
  obtain ⟨i0, hi, hz0, hz1, hz2⟩ := info_parts info_int
  go_enter Tryz.func85, Tryz.ntmps85
  go_wp2_with fail
  go_loopw [5, 10] (fun v i wr => ∃ k : Nat, k ≤ l.length ∧ i = .int .i64 k ∧ wr.ownsRow w.heap.size 3 1 v (idx p 0 (l.take k)).length ((idx p 0 (l.take k)).map (Value.int .i64)) ∧ Below w.heap.size w wr) (fun _ i _ => l.length - (intOf i).toNat)
  case atStart => exact ⟨0, Nat.zero_le _, rfl, World.ownsRow_nil _ _ _ _, Below.refl _ _⟩
  case round =>
    obtain ⟨k, hk, rfl, hown, hb⟩ := hrel
    by_cases hlt : k < l.length
    · obtain ⟨b, off, rfl, hbs, c0, c1, c2, c3, c4, c5⟩ := Infos.cells (Sl.below h hb) hlt
      have hs := Lib.hid (idx_take p l hlt)
      have hlen := idx_len p (l.take k) 0
      rw [List.length_take, Nat.min_eq_left hk] at hlen
      cases hg : p l[k]
      all_goals
        have hp1 := hp l[k]
        rw [hg] at hp1
        have hp2 := fun W => Lib.hid (hp1 W)
        have hg2 := Lib.hid hg
        clear hp1 hg
        go_wp2_with fail
        refine (hp2 _).out.mono ?_; rintro e w1 ⟨rfl, hb1⟩
        have hb2 := Base.tr (Base.al hb _) hb1
        have hown1 := own_below (hown.alloc _) hb1
      · go_wp2_with fail
        refine ⟨⟨k + 1, by omega, by go_num, ?_, hb2⟩, by simp [intOf]; omega⟩
        rw [hs.out, hg2.out, if_neg (by decide), List.append_nil]
        exact hown1
      · skip
        go_wp2_with (at_builtin; refine wpList_append_own _ rfl _ _ 102 rfl w.heap.size 3 i0 (.int .i64 0) 1 8 Tryz.underlying102 hi hz0 hz1 hz2 rfl (by decide) _ _ _ rfl (hown1.alloc _) ⟨w1.heap.size, 0, none⟩ 1 1 [.int .i64 k] rfl rfl ?c1 ?c2 ?c3 ?c4 ?c5 ?_)
        case c1 => exact news_of _ _ _
        case c2 => simp [Value.oneCell']
        case c3 => unfold maxLen; omega
        case c4 => omega
        case c5 => have := hb2.size; (try simp at this); (try simp); omega
        intro v' w2 hown2 hgrow _
        have hb3 := Base.gr (Base.al hb2 _) hgrow (fun g hg => (hown1.lt g hg).1)
        go_wp2_with fail
        refine ⟨⟨k + 1, by omega, by go_num, ?_, hb3⟩, by simp [intOf]; omega⟩
        rw [hs.out, hg2.out, if_pos rfl, List.map_append, List.length_append]
        exact hown2
    · have htk := Lib.hid (take_all hlt)
      go_wp2_with fail
      go_ret
      refine ⟨_, rfl, ?_, hb⟩
      have := htk.out
      rw [this] at hown
      exact hown
set_option maxHeartbeats 1000000 in
set_option maxRecDepth 100000 in
theorem of_erasable (p : Info → Bool) (A : Option Addr) (n cap : Nat) (l : List Info) (w : World) (h : Infos w (.slice A n cap) l)
    (hp : ∀ (x : Info) (W : World), Makes 86 #[x.val] W (.bool (p x))) (hbig : l.length * 8 ≤ 140737488351232) :
    Calls Tryz.prog 85 #[.slice A n cap, .func (.func 86) #[] #[]] w (FreshInts w (idx p 0 l)) := by
  have hn := h.len
  rw [List.length_map] at hn
  subst hn
  obtain ⟨i0, hi, hz0, hz1, hz2⟩ := info_parts info_int
  go_enter Tryz.func85, Tryz.ntmps85
  go_wp2_with fail
  go_loopw [5, 10] (fun v i wr => ∃ k : Nat, k ≤ l.length ∧ i = .int .i64 k ∧ wr.ownsRow w.heap.size 3 1 v (idx p 0 (l.take k)).length ((idx p 0 (l.take k)).map (Value.int .i64)) ∧ Below w.heap.size w wr) (fun _ i _ => l.length - (intOf i).toNat)
  case atStart => exact ⟨0, Nat.zero_le _, rfl, World.ownsRow_nil _ _ _ _, Below.refl _ _⟩
  case round =>
    obtain ⟨k, hk, rfl, hown, hb⟩ := hrel
    by_cases hlt : k < l.length
    · obtain ⟨b, off, rfl, hbs, c0, c1, c2, c3, c4, c5⟩ := Infos.cells (Sl.below h hb) hlt
      have hs := Lib.hid (idx_take p l hlt)
      have hlen := idx_len p (l.take k) 0
      rw [List.length_take, Nat.min_eq_left hk] at hlen
      cases hg : p l[k]
      all_goals
        have hp1 := hp l[k]
        rw [hg] at hp1
        have hp2 := fun W => Lib.hid (hp1 W)
        have hg2 := Lib.hid hg
        clear hp1 hg
        go_wp2_with fail
        refine (hp2 _).out.mono ?_; rintro e w1 ⟨rfl, hb1⟩
        have hb2 := Base.tr (Base.al hb _) hb1
        have hown1 := own_below (hown.alloc _) hb1
      · go_wp2_with fail
        refine ⟨⟨k + 1, by omega, by go_num, ?_, hb2⟩, by simp [intOf]; omega⟩
        rw [hs.out, hg2.out, if_neg (by decide), List.append_nil]
        exact hown1
      · skip
        go_wp2_with (at_builtin; refine wpList_append_own _ rfl _ _ 102 rfl w.heap.size 3 i0 (.int .i64 0) 1 8 Tryz.underlying102 hi hz0 hz1 hz2 rfl (by decide) _ _ _ rfl (hown1.alloc _) ⟨w1.heap.size, 0, none⟩ 1 1 [.int .i64 k] rfl rfl ?c1 ?c2 ?c3 ?c4 ?c5 ?_)
        case c1 => exact news_of _ _ _
        case c2 => simp [Value.oneCell']
        case c3 => unfold maxLen; omega
        case c4 => omega
        case c5 => have := hb2.size; (try simp at this); (try simp); omega
        intro v' w2 hown2 hgrow _
        have hb3 := Base.gr (Base.al hb2 _) hgrow (fun g hg => (hown1.lt g hg).1)
        go_wp2_with fail
        refine ⟨⟨k + 1, by omega, by go_num, ?_, hb3⟩, by simp [intOf]; omega⟩
        rw [hs.out, hg2.out, if_pos rfl, List.map_append, List.length_append]
        exact hown2
    · have htk := Lib.hid (take_all hlt)
      go_wp2_with fail
      go_ret
      refine ⟨_, rfl, ?_, hb⟩
      have := htk.out
      rw [this] at hown
      exact hown
set_option maxHeartbeats 1000000 in
set_option maxRecDepth 100000 in
theorem of_once (p : Info → Bool) (A : Option Addr) (n cap : Nat) (l : List Info) (w : World) (h : Infos w (.slice A n cap) l)
    (hp : ∀ (x : Info) (W : World), Makes 167 #[x.val] W (.bool (p x))) (hbig : l.length * 8 ≤ 140737488351232) :
    Calls Tryz.prog 85 #[.slice A n cap, .func (.func 167) #[] #[]] w (FreshInts w (idx p 0 l)) := by
  have hn := h.len
  rw [List.length_map] at hn
  subst hn
  obtain ⟨i0, hi, hz0, hz1, hz2⟩ := info_parts info_int
  go_enter Tryz.func85, Tryz.ntmps85
  go_wp2_with fail
  go_loopw [5, 10] (fun v i wr => ∃ k : Nat, k ≤ l.length ∧ i = .int .i64 k ∧ wr.ownsRow w.heap.size 3 1 v (idx p 0 (l.take k)).length ((idx p 0 (l.take k)).map (Value.int .i64)) ∧ Below w.heap.size w wr) (fun _ i _ => l.length - (intOf i).toNat)
  case atStart => exact ⟨0, Nat.zero_le _, rfl, World.ownsRow_nil _ _ _ _, Below.refl _ _⟩
  case round =>
    obtain ⟨k, hk, rfl, hown, hb⟩ := hrel
    by_cases hlt : k < l.length
    · obtain ⟨b, off, rfl, hbs, c0, c1, c2, c3, c4, c5⟩ := Infos.cells (Sl.below h hb) hlt
      have hs := Lib.hid (idx_take p l hlt)
      have hlen := idx_len p (l.take k) 0
      rw [List.length_take, Nat.min_eq_left hk] at hlen
      cases hg : p l[k]
      all_goals
        have hp1 := hp l[k]
        rw [hg] at hp1
        have hp2 := fun W => Lib.hid (hp1 W)
        have hg2 := Lib.hid hg
        clear hp1 hg
        go_wp2_with fail
        refine (hp2 _).out.mono ?_; rintro e w1 ⟨rfl, hb1⟩
        have hb2 := Base.tr (Base.al hb _) hb1
        have hown1 := own_below (hown.alloc _) hb1
      · go_wp2_with fail
        refine ⟨⟨k + 1, by omega, by go_num, ?_, hb2⟩, by simp [intOf]; omega⟩
        rw [hs.out, hg2.out, if_neg (by decide), List.append_nil]
        exact hown1
      · skip
        go_wp2_with (at_builtin; refine wpList_append_own _ rfl _ _ 102 rfl w.heap.size 3 i0 (.int .i64 0) 1 8 Tryz.underlying102 hi hz0 hz1 hz2 rfl (by decide) _ _ _ rfl (hown1.alloc _) ⟨w1.heap.size, 0, none⟩ 1 1 [.int .i64 k] rfl rfl ?c1 ?c2 ?c3 ?c4 ?c5 ?_)
        case c1 => exact news_of _ _ _
        case c2 => simp [Value.oneCell']
        case c3 => unfold maxLen; omega
        case c4 => omega
        case c5 => have := hb2.size; (try simp at this); (try simp); omega
        intro v' w2 hown2 hgrow _
        have hb3 := Base.gr (Base.al hb2 _) hgrow (fun g hg => (hown1.lt g hg).1)
        go_wp2_with fail
        refine ⟨⟨k + 1, by omega, by go_num, ?_, hb3⟩, by simp [intOf]; omega⟩
        rw [hs.out, hg2.out, if_pos rfl, List.map_append, List.length_append]
        exact hown2
    · have htk := Lib.hid (take_all hlt)
      go_wp2_with fail
      go_ret
      refine ⟨_, rfl, ?_, hb⟩
      have := htk.out
      rw [this] at hown
      exact hown
set_option maxHeartbeats 1000000 in
set_option maxRecDepth 100000 in
theorem of_free (p : Info → Bool) (A : Option Addr) (n cap : Nat) (l : List Info) (w : World) (h : Infos w (.slice A n cap) l)
    (hp : ∀ (x : Info) (W : World), Makes 89 #[x.val] W (.bool (p x))) (hbig : l.length * 8 ≤ 140737488351232) :
    Calls Tryz.prog 85 #[.slice A n cap, .func (.func 89) #[] #[]] w (FreshInts w (idx p 0 l)) := by
  have hn := h.len
  rw [List.length_map] at hn
  subst hn
  obtain ⟨i0, hi, hz0, hz1, hz2⟩ := info_parts info_int
  go_enter Tryz.func85, Tryz.ntmps85
  go_wp2_with fail
  go_loopw [5, 10] (fun v i wr => ∃ k : Nat, k ≤ l.length ∧ i = .int .i64 k ∧ wr.ownsRow w.heap.size 3 1 v (idx p 0 (l.take k)).length ((idx p 0 (l.take k)).map (Value.int .i64)) ∧ Below w.heap.size w wr) (fun _ i _ => l.length - (intOf i).toNat)
  case atStart => exact ⟨0, Nat.zero_le _, rfl, World.ownsRow_nil _ _ _ _, Below.refl _ _⟩
  case round =>
    obtain ⟨k, hk, rfl, hown, hb⟩ := hrel
    by_cases hlt : k < l.length
    · obtain ⟨b, off, rfl, hbs, c0, c1, c2, c3, c4, c5⟩ := Infos.cells (Sl.below h hb) hlt
      have hs := Lib.hid (idx_take p l hlt)
      have hlen := idx_len p (l.take k) 0
      rw [List.length_take, Nat.min_eq_left hk] at hlen
      cases hg : p l[k]
      all_goals
        have hp1 := hp l[k]
        rw [hg] at hp1
        have hp2 := fun W => Lib.hid (hp1 W)
        have hg2 := Lib.hid hg
        clear hp1 hg
        go_wp2_with fail
        refine (hp2 _).out.mono ?_; rintro e w1 ⟨rfl, hb1⟩
        have hb2 := Base.tr (Base.al hb _) hb1
        have hown1 := own_below (hown.alloc _) hb1
      · go_wp2_with fail
        refine ⟨⟨k + 1, by omega, by go_num, ?_, hb2⟩, by simp [intOf]; omega⟩
        rw [hs.out, hg2.out, if_neg (by decide), List.append_nil]
        exact hown1
      · skip
        go_wp2_with (at_builtin; refine wpList_append_own _ rfl _ _ 102 rfl w.heap.size 3 i0 (.int .i64 0) 1 8 Tryz.underlying102 hi hz0 hz1 hz2 rfl (by decide) _ _ _ rfl (hown1.alloc _) ⟨w1.heap.size, 0, none⟩ 1 1 [.int .i64 k] rfl rfl ?c1 ?c2 ?c3 ?c4 ?c5 ?_)
        case c1 => exact news_of _ _ _
        case c2 => simp [Value.oneCell']
        case c3 => unfold maxLen; omega
        case c4 => omega
        case c5 => have := hb2.size; (try simp at this); (try simp); omega
        intro v' w2 hown2 hgrow _
        have hb3 := Base.gr (Base.al hb2 _) hgrow (fun g hg => (hown1.lt g hg).1)
        go_wp2_with fail
        refine ⟨⟨k + 1, by omega, by go_num, ?_, hb3⟩, by simp [intOf]; omega⟩
        rw [hs.out, hg2.out, if_pos rfl, List.map_append, List.length_append]
        exact hown2
    · have htk := Lib.hid (take_all hlt)
      go_wp2_with fail
      go_ret
      refine ⟨_, rfl, ?_, hb⟩
      have := htk.out
      rw [this] at hown
      exact hown
end Go.Proofs.YtnmeaminfoopmaaGreatDoor
