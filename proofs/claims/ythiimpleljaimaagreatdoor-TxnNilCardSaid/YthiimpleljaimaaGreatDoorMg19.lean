/- What the functions of package pick and of its reference come to: contracts. -/
import Derived.Test.YthiimpleljaimaaGreatDoorMg2
import Derived.Test.YthiimpleljaimaaGreatDoorMg1
import Derived.Test.YthiimpleljaimaaGreatDoorMg3
import Derived.Test.YthiimpleljaimaaGreatDoorMg6
import Derived.Test.YthiimpleljaimaaGreatDoorMg10
namespace Go.Proofs.YthiimpleljaimaaGreatDoor
open Go.RowKit

/-- How a sector stands. -/
structure Info where
  cls : Int
  isOpen : Bool
  wear : Int
  age : Int
  need : Int
  held : Bool
abbrev Info.row (x : Info) : List Value := [i64 x.cls, .bool x.isOpen, i64 x.wear, .int .u64 x.age, i64 x.need, .bool x.held]
abbrev Infos (w : World) (v : Value) (l : List Info) : Prop := Sl w 6 v (l.map Info.row)

def greatOf (x : Info) : Bool := decide (1099511627776 < x.wear) || decide (x.wear < -1099511627776)
def great (l : List Info) : Bool := l.any greatOf || decide (200 < l.length)

theorem Infos.cells {w : World} {A : Option Addr} {n cap : Nat} {l : List Info} (h : Infos w (.slice A n cap) l) {k : Nat} (hk : k < l.length) :
    ∃ b off, A = some ⟨b, off, none⟩ ∧ b < w.heap.size ∧ w.cell? ⟨b, off + k * 6, none⟩ = some (i64 l[k].cls) ∧ w.cell? ⟨b, off + k * 6 + 1, none⟩ = some (.bool l[k].isOpen) ∧ w.cell? ⟨b, off + k * 6 + 2, none⟩ = some (i64 l[k].wear) ∧
      w.cell? ⟨b, off + k * 6 + 3, none⟩ = some (.int .u64 l[k].age) ∧ w.cell? ⟨b, off + k * 6 + 4, none⟩ = some (i64 l[k].need) ∧ w.cell? ⟨b, off + k * 6 + 5, none⟩ = some (.bool l[k].held) := by
  have hn := h.len
  rw [List.length_map] at hn
  obtain ⟨b, off, hA, hb, hx⟩ := h.at (by omega)
  have := (hx k l[k].row (by simp [hk])).2
  exact ⟨b, off, hA, hb, this 0 _ rfl, this 1 _ rfl, this 2 _ rfl, this 3 _ rfl, this 4 _ rfl, this 5 _ rfl⟩

theorem ret_bool {a b : Bool} (h : a = b) : Ending.returned (.bool a) = .returned (.bool b) := by rw [h]
theorem ret_int {k : IntKind} {a b : Int} (h : a = b) : Ending.returned (.int k a) = .returned (.int k b) := by rw [h]
theorem any_snoc {α : Type} (l : List α) (p : α → Bool) {k : Nat} (hk : k < l.length) : (l.take (k + 1)).any p = ((l.take k).any p || p l[k]) := by
  rw [List.take_succ_eq_append_getElem hk, List.any_append]; simp
theorem take_all {α : Type} {l : List α} {k : Nat} (h : ¬ k < l.length) : l.take k = l := List.take_of_length_le (by omega)

/-! ### pick.of: the numbers of those that are so -/
/-- The numbers of those that are so, from a number on. -/
def idx (p : Info → Bool) : Nat → List Info → List Int
  | _, [] => []
  | i, x :: l => if p x then (i : Int) :: idx p (i + 1) l else idx p (i + 1) l

abbrev Info.val (x : Info) : Value := .agg #[i64 x.cls, .bool x.isOpen, i64 x.wear, .int .u64 x.age, i64 x.need, .bool x.held]

set_option maxHeartbeats 400000 in
theorem pkBlank_any (x : Info) (w : World) : Makes 181 #[x.val] w (.bool (decide (x.cls = 0) && !x.held)) := by
  cases hb : x.held <;> by_cases hc : x.cls = 0
  all_goals
    go_enter Tryz.func181, Tryz.ntmps181
    go_wp2_with fail
    go_ret
    exact ⟨ret_bool (by simp [hc]), Base.al (Below.refl _ _) _⟩

/-- A call that comes back with a slice of its own of these integers. -/
def FreshInts (w : World) (xs : List Int) (e : Ending) (w' : World) : Prop :=
  ∃ v, e = .returned v ∧ w'.ownsRow w.heap.size 3 1 v xs.length (xs.map (Value.int .i64)) ∧ Below w.heap.size w w'

theorem idx_snoc (p : Info → Bool) : ∀ (l : List Info) (i : Nat) (x : Info), idx p i (l ++ [x]) = idx p i l ++ (if p x then [((i + l.length : Nat) : Int)] else [])
  | [], i, x => by simp [idx]
  | y :: l, i, x => by
    simp only [List.cons_append, idx]
    rw [idx_snoc p l (i + 1) x]
    simp only [List.length_cons]
    rw [show i + 1 + l.length = i + (l.length + 1) from by omega]
    split <;> simp
theorem idx_take (p : Info → Bool) (l : List Info) {k : Nat} (hk : k < l.length) : idx p 0 (l.take (k + 1)) = idx p 0 (l.take k) ++ (if p l[k] then [(k : Int)] else []) := by
  rw [List.take_succ_eq_append_getElem hk, idx_snoc]
  simp [Nat.min_eq_left (Nat.le_of_lt hk)]
theorem idx_len (p : Info → Bool) : ∀ (l : List Info) (i : Nat), (idx p i l).length ≤ l.length
  | [], _ => by simp [idx]
  | y :: l, i => by
    simp only [idx]
    have := idx_len p l (i + 1)
    split <;> simp <;> omega

theorem info_int : (Tryz.prog.info? 3).map (fun i => (i.zero, i.size, i.bytes)) = some (some (.int .i64 0), 1, 8) := by kernel_rfl

/-- Old cells and marks read as before. -/
theorem bcell {W w1 : World} (hb : Below W.heap.size W w1) : (∀ b o, b < W.heap.size → w1.cell? ⟨b, o, none⟩ = W.cell? ⟨b, o, none⟩) ∧ (∀ b o, b < W.heap.size → w1.frozen? ⟨b, o, none⟩ = W.frozen? ⟨b, o, none⟩) :=
  ⟨fun b o h => hb.cell (p := ⟨b, o, none⟩) h, fun b o h => hb.frozen (p := ⟨b, o, none⟩) h⟩

set_option maxHeartbeats 1000000 in
set_option maxRecDepth 100000 in
theorem of_blank (p : Info → Bool) (A : Option Addr) (n cap : Nat) (l : List Info) (w : World) (h : Infos w (.slice A n cap) l)
    (hp : ∀ (x : Info) (W : World), Makes 181 #[x.val] W (.bool (p x))) (hbig : l.length * 8 ≤ 140737488351232) :
    Calls Tryz.prog 180 #[.slice A n cap, .func (.func 181) #[] #[]] w (FreshInts w (idx p 0 l)) := by
  have hn := h.len
  rw [List.length_map] at hn
  subst hn
  obtain ⟨i0, hi, hz0, hz1, hz2⟩ := info_parts info_int
  go_enter Tryz.func180, Tryz.ntmps180
  go_wp2_with fail
  go_loopw [5, 10] (fun v i wr => ∃ k : Nat, k ≤ l.length ∧ i = .int .i64 k ∧ wr.ownsRow w.heap.size 3 1 v (idx p 0 (l.take k)).length ((idx p 0 (l.take k)).map (Value.int .i64)) ∧ Below w.heap.size w wr) (fun _ i _ => l.length - (intOf i).toNat)
  case atStart => exact ⟨0, Nat.zero_le _, rfl, World.ownsRow_nil _ _ _ _, Below.refl _ _⟩
  case round =>
    obtain ⟨k, hk, rfl, hown, hb⟩ := hrel
    by_cases hlt : k < l.length
    · obtain ⟨b, off, rfl, hbs, c0, c1, c2, c3, c4, c5⟩ := Infos.cells (Sl.below h hb) hlt
      have hs := Lib.hid (idx_take p l hlt)
      have hlen := idx_len p (l.take k) 0
      rw [List.length_take, Nat.min_eq_left hk] at hlen
      cases hg : p l[k]
      all_goals
        have hp1 := hp l[k]
        rw [hg] at hp1
        have hp2 := fun W => Lib.hid (hp1 W)
        have hg2 := Lib.hid hg
        clear hp1 hg
        go_wp2_with fail
        refine (hp2 _).out.mono ?_; rintro e w1 ⟨rfl, hb1⟩
        have hb2 := Base.tr (Base.al hb _) hb1
        have hown1 := own_below (hown.alloc _) hb1
      · go_wp2_with fail
        refine ⟨⟨k + 1, by omega, by go_num, ?_, hb2⟩, by simp [intOf]; omega⟩
        rw [hs.out, hg2.out, if_neg (by decide), List.append_nil]
        exact hown1
      · skip
        go_wp2_with (at_builtin; refine wpList_append_own _ rfl _ _ 85 rfl w.heap.size 3 i0 (.int .i64 0) 1 8 Tryz.underlying85 hi hz0 hz1 hz2 rfl (by decide) _ _ _ rfl (hown1.alloc _) ⟨w1.heap.size, 0, none⟩ 1 1 [.int .i64 k] rfl rfl ?c1 ?c2 ?c3 ?c4 ?c5 ?_)
        case c1 => exact news_of _ _ _
        case c2 => simp [Value.oneCell']
        case c3 => unfold maxLen; omega
        case c4 => omega
        case c5 => have := hb2.size; (try simp at this); (try simp); omega
        intro v' w2 hown2 hgrow _
        have hb3 := Base.gr (Base.al hb2 _) hgrow (fun g hg => (hown1.lt g hg).1)
        go_wp2_with fail
        refine ⟨⟨k + 1, by omega, by go_num, ?_, hb3⟩, by simp [intOf]; omega⟩
        rw [hs.out, hg2.out, if_pos rfl, List.map_append, List.length_append]
        exact hown2
    · have htk := Lib.hid (take_all hlt)
      go_wp2_with fail
      go_ret
      refine ⟨_, rfl, ?_, hb⟩
      have := htk.out
      rw [this] at hown
      exact hown
set_option maxHeartbeats 1000000 in
set_option maxRecDepth 100000 in
theorem of_erasable (p : Info → Bool) (A : Option Addr) (n cap : Nat) (l : List Info) (w : World) (h : Infos w (.slice A n cap) l)
    (hp : ∀ (x : Info) (W : World), Makes 184 #[x.val] W (.bool (p x))) (hbig : l.length * 8 ≤ 140737488351232) :
    Calls Tryz.prog 180 #[.slice A n cap, .func (.func 184) #[] #[]] w (FreshInts w (idx p 0 l)) := by
  have hn := h.len
  rw [List.length_map] at hn
  subst hn
  obtain ⟨i0, hi, hz0, hz1, hz2⟩ := info_parts info_int
  go_enter Tryz.func180, Tryz.ntmps180
  go_wp2_with fail
  go_loopw [5, 10] (fun v i wr => ∃ k : Nat, k ≤ l.length ∧ i = .int .i64 k ∧ wr.ownsRow w.heap.size 3 1 v (idx p 0 (l.take k)).length ((idx p 0 (l.take k)).map (Value.int .i64)) ∧ Below w.heap.size w wr) (fun _ i _ => l.length - (intOf i).toNat)
  case atStart => exact ⟨0, Nat.zero_le _, rfl, World.ownsRow_nil _ _ _ _, Below.refl _ _⟩
  case round =>
    obtain ⟨k, hk, rfl, hown, hb⟩ := hrel
    by_cases hlt : k < l.length
    · obtain ⟨b, off, rfl, hbs, c0, c1, c2, c3, c4, c5⟩ := Infos.cells (Sl.below h hb) hlt
      have hs := Lib.hid (idx_take p l hlt)
      have hlen := idx_len p (l.take k) 0
      rw [List.length_take, Nat.min_eq_left hk] at hlen
      cases hg : p l[k]
      all_goals
        have hp1 := hp l[k]
        rw [hg] at hp1
        have hp2 := fun W => Lib.hid (hp1 W)
        have hg2 := Lib.hid hg
        clear hp1 hg
        go_wp2_with fail
        refine (hp2 _).out.mono ?_; rintro e w1 ⟨rfl, hb1⟩
        have hb2 := Base.tr (Base.al hb _) hb1
        have hown1 := own_below (hown.alloc _) hb1
      · go_wp2_with fail
        refine ⟨⟨k + 1, by omega, by go_num, ?_, hb2⟩, by simp [intOf]; omega⟩
        rw [hs.out, hg2.out, if_neg (by decide), List.append_nil]
        exact hown1
      · skip
        go_wp2_with (at_builtin; refine wpList_append_own _ rfl _ _ 85 rfl w.heap.size 3 i0 (.int .i64 0) 1 8 Tryz.underlying85 hi hz0 hz1 hz2 rfl (by decide) _ _ _ rfl (hown1.alloc _) ⟨w1.heap.size, 0, none⟩ 1 1 [.int .i64 k] rfl rfl ?c1 ?c2 ?c3 ?c4 ?c5 ?_)
        case c1 => exact news_of _ _ _
        case c2 => simp [Value.oneCell']
        case c3 => unfold maxLen; omega
        case c4 => omega
        case c5 => have := hb2.size; (try simp at this); (try simp); omega
        intro v' w2 hown2 hgrow _
        have hb3 := Base.gr (Base.al hb2 _) hgrow (fun g hg => (hown1.lt g hg).1)
        go_wp2_with fail
        refine ⟨⟨k + 1, by omega, by go_num, ?_, hb3⟩, by simp [intOf]; omega⟩
        rw [hs.out, hg2.out, if_pos rfl, List.map_append, List.length_append]
        exact hown2
    · have htk := Lib.hid (take_all hlt)
      go_wp2_with fail
      go_ret
      refine ⟨_, rfl, ?_, hb⟩
      have := htk.out
      rw [this] at hown
      exact hown
set_option maxHeartbeats 1000000 in
set_option maxRecDepth 100000 in
theorem of_once (p : Info → Bool) (A : Option Addr) (n cap : Nat) (l : List Info) (w : World) (h : Infos w (.slice A n cap) l)
    (hp : ∀ (x : Info) (W : World), Makes 281 #[x.val] W (.bool (p x))) (hbig : l.length * 8 ≤ 140737488351232) :
    Calls Tryz.prog 180 #[.slice A n cap, .func (.func 281) #[] #[]] w (FreshInts w (idx p 0 l)) := by
  have hn := h.len
  rw [List.length_map] at hn
  subst hn
  obtain ⟨i0, hi, hz0, hz1, hz2⟩ := info_parts info_int
  go_enter Tryz.func180, Tryz.ntmps180
  go_wp2_with fail
  go_loopw [5, 10] (fun v i wr => ∃ k : Nat, k ≤ l.length ∧ i = .int .i64 k ∧ wr.ownsRow w.heap.size 3 1 v (idx p 0 (l.take k)).length ((idx p 0 (l.take k)).map (Value.int .i64)) ∧ Below w.heap.size w wr) (fun _ i _ => l.length - (intOf i).toNat)
  case atStart => exact ⟨0, Nat.zero_le _, rfl, World.ownsRow_nil _ _ _ _, Below.refl _ _⟩
  case round =>
    obtain ⟨k, hk, rfl, hown, hb⟩ := hrel
    by_cases hlt : k < l.length
    · obtain ⟨b, off, rfl, hbs, c0, c1, c2, c3, c4, c5⟩ := Infos.cells (Sl.below h hb) hlt
      have hs := Lib.hid (idx_take p l hlt)
      have hlen := idx_len p (l.take k) 0
      rw [List.length_take, Nat.min_eq_left hk] at hlen
      cases hg : p l[k]
      all_goals
        have hp1 := hp l[k]
        rw [hg] at hp1
        have hp2 := fun W => Lib.hid (hp1 W)
        have hg2 := Lib.hid hg
        clear hp1 hg
        go_wp2_with fail
        refine (hp2 _).out.mono ?_; rintro e w1 ⟨rfl, hb1⟩
        have hb2 := Base.tr (Base.al hb _) hb1
        have hown1 := own_below (hown.alloc _) hb1
      · go_wp2_with fail
        refine ⟨⟨k + 1, by omega, by go_num, ?_, hb2⟩, by simp [intOf]; omega⟩
        rw [hs.out, hg2.out, if_neg (by decide), List.append_nil]
        exact hown1
      · skip
        go_wp2_with (at_builtin; refine wpList_append_own _ rfl _ _ 85 rfl w.heap.size 3 i0 (.int .i64 0) 1 8 Tryz.underlying85 hi hz0 hz1 hz2 rfl (by decide) _ _ _ rfl (hown1.alloc _) ⟨w1.heap.size, 0, none⟩ 1 1 [.int .i64 k] rfl rfl ?c1 ?c2 ?c3 ?c4 ?c5 ?_)
        case c1 => exact news_of _ _ _
        case c2 => simp [Value.oneCell']
        case c3 => unfold maxLen; omega
        case c4 => omega
        case c5 => have := hb2.size; (try simp at this); (try simp); omega
        intro v' w2 hown2 hgrow _
        have hb3 := Base.gr (Base.al hb2 _) hgrow (fun g hg => (hown1.lt g hg).1)
        go_wp2_with fail
        refine ⟨⟨k + 1, by omega, by go_num, ?_, hb3⟩, by simp [intOf]; omega⟩
        rw [hs.out, hg2.out, if_pos rfl, List.map_append, List.length_append]
        exact hown2
    · have htk := Lib.hid (take_all hlt)
      go_wp2_with fail
      go_ret
      refine ⟨_, rfl, ?_, hb⟩
      have := htk.out
      rw [this] at hown
      exact hown
set_option maxHeartbeats 1000000 in
set_option maxRecDepth 100000 in
theorem of_free (p : Info → Bool) (A : Option Addr) (n cap : Nat) (l : List Info) (w : World) (h : Infos w (.slice A n cap) l)
    (hp : ∀ (x : Info) (W : World), Makes 187 #[x.val] W (.bool (p x))) (hbig : l.length * 8 ≤ 140737488351232) :
    Calls Tryz.prog 180 #[.slice A n cap, .func (.func 187) #[] #[]] w (FreshInts w (idx p 0 l)) := by
  have hn := h.len
  rw [List.length_map] at hn
  subst hn
  obtain ⟨i0, hi, hz0, hz1, hz2⟩ := info_parts info_int
  go_enter Tryz.func180, Tryz.ntmps180
  go_wp2_with fail
  go_loopw [5, 10] (fun v i wr => ∃ k : Nat, k ≤ l.length ∧ i = .int .i64 k ∧ wr.ownsRow w.heap.size 3 1 v (idx p 0 (l.take k)).length ((idx p 0 (l.take k)).map (Value.int .i64)) ∧ Below w.heap.size w wr) (fun _ i _ => l.length - (intOf i).toNat)
  case atStart => exact ⟨0, Nat.zero_le _, rfl, World.ownsRow_nil _ _ _ _, Below.refl _ _⟩
  case round =>
    obtain ⟨k, hk, rfl, hown, hb⟩ := hrel
    by_cases hlt : k < l.length
    · obtain ⟨b, off, rfl, hbs, c0, c1, c2, c3, c4, c5⟩ := Infos.cells (Sl.below h hb) hlt
      have hs := Lib.hid (idx_take p l hlt)
      have hlen := idx_len p (l.take k) 0
      rw [List.length_take, Nat.min_eq_left hk] at hlen
      cases hg : p l[k]
      all_goals
        have hp1 := hp l[k]
        rw [hg] at hp1
        have hp2 := fun W => Lib.hid (hp1 W)
        have hg2 := Lib.hid hg
        clear hp1 hg
        go_wp2_with fail
        refine (hp2 _).out.mono ?_; rintro e w1 ⟨rfl, hb1⟩
        have hb2 := Base.tr (Base.al hb _) hb1
        have hown1 := own_below (hown.alloc _) hb1
      · go_wp2_with fail
        refine ⟨⟨k + 1, by omega, by go_num, ?_, hb2⟩, by simp [intOf]; omega⟩
        rw [hs.out, hg2.out, if_neg (by decide), List.append_nil]
        exact hown1
      · skip
        go_wp2_with (at_builtin; refine wpList_append_own _ rfl _ _ 85 rfl w.heap.size 3 i0 (.int .i64 0) 1 8 Tryz.underlying85 hi hz0 hz1 hz2 rfl (by decide) _ _ _ rfl (hown1.alloc _) ⟨w1.heap.size, 0, none⟩ 1 1 [.int .i64 k] rfl rfl ?c1 ?c2 ?c3 ?c4 ?c5 ?_)
        case c1 => exact news_of _ _ _
        case c2 => simp [Value.oneCell']
        case c3 => unfold maxLen; omega
        case c4 => omega
        case c5 => have := hb2.size; (try simp at this); (try simp); omega
        intro v' w2 hown2 hgrow _
        have hb3 := Base.gr (Base.al hb2 _) hgrow (fun g hg => (hown1.lt g hg).1)
        go_wp2_with fail
        refine ⟨⟨k + 1, by omega, by go_num, ?_, hb3⟩, by simp [intOf]; omega⟩
        rw [hs.out, hg2.out, if_pos rfl, List.map_append, List.length_append]
        exact hown2
    · have htk := Lib.hid (take_all hlt)
      go_wp2_with fail
      go_ret
      refine ⟨_, rfl, ?_, hb⟩
      have := htk.out
      rw [this] at hown
      exact hown
end Go.Proofs.YthiimpleljaimaaGreatDoor

/- The shelf as it stands in memory; its smallest functions. -/
namespace Go.Proofs.YthiimpleljaimaaGreatDoor
open Go Go.RowKit

/-! ### Rows of one length, one behind the other -/
theorem flat_get {α : Type} (row : α → List Value) (k : Nat) (hk : ∀ x, (row x).length = k) : ∀ (l : List α) (i : Nat) (x : α) (f : Nat), l[i]? = some x → f < k → (l.flatMap row)[i * k + f]? = (row x)[f]?
  | [], i, x, f, h, _ => by cases h
  | y :: l, 0, x, f, h, hf => by
    injection h with h
    subst h
    rw [List.flatMap_cons, Nat.zero_mul, Nat.zero_add, List.getElem?_append_left (by rw [hk]; exact hf)]
  | y :: l, i + 1, x, f, h, hf => by
    rw [List.flatMap_cons, List.getElem?_append_right (by rw [hk, Nat.add_mul]; omega), hk, show (i + 1) * k + f - k = i * k + f by rw [Nat.add_mul]; omega]
    exact flat_get row k hk l i x f h hf
theorem flat_set {α : Type} (row : α → List Value) (k : Nat) (hk : ∀ x, (row x).length = k) : ∀ (l : List α) (i : Nat) (x x' : α) (f : Nat) (v : Value), l[i]? = some x → f < k → row x' = (row x).set f v → (l.flatMap row).set (i * k + f) v = (l.set i x').flatMap row
  | [], i, x, x', f, v, h, _, _ => by cases h
  | y :: l, 0, x, x', f, v, h, hf, hr => by
    injection h with h
    subst h
    rw [List.flatMap_cons, List.set_cons_zero, List.flatMap_cons, Nat.zero_mul, Nat.zero_add, List.set_append_left _ _ (by rw [hk]; exact hf), hr]
  | y :: l, i + 1, x, x', f, v, h, hf, hr => by
    rw [List.flatMap_cons, List.set_cons_succ, List.flatMap_cons, List.set_append_right _ _ (by rw [hk, Nat.add_mul]; omega), hk, show (i + 1) * k + f - k = i * k + f by rw [Nat.add_mul]; omega]
    rw [flat_set row k hk l i x x' f v h hf hr]
theorem flat_len {α : Type} (row : α → List Value) (k : Nat) (hk : ∀ x, (row x).length = k) (l : List α) : (l.flatMap row).length = l.length * k := by
  induction l with
  | nil => simp
  | cons y l ih => rw [List.flatMap_cons, List.length_append, hk, ih, List.length_cons, Nat.add_mul]; omega
theorem info_len (x : Info) : x.row.length = 6 := rfl

structure ShV where
  SB : Nat
  LB : Nat
  EB : Nat
  lc : Nat
  ec : Nat
  D : Nat
  S : Nat
  Z : Nat
  il : List Info
  el : List Nat
  op : Int
def ShV.cells (H : ShV) : Array Value := #[.pointer (some ⟨H.D, 0, none⟩), i64 H.S, i64 H.Z, .slice (some ⟨H.LB, 0, none⟩) H.S H.lc, .slice (some ⟨H.EB, 0, none⟩) H.S H.ec, .int .i64 H.op]
abbrev ShV.ptr (H : ShV) : Value := .pointer (some ⟨H.SB, 0, none⟩)
/-- The shelf's own blocks. -/
def ShV.own (H : ShV) (k : Nat) : Prop := k = H.SB ∨ k = H.LB ∨ k = H.EB
/-- The shelf stands in memory. -/
structure ShR (w : World) (H : ShV) : Prop where
  hS : w.heap[H.SB]? = some (.cells H.cells 178 (0, 0))
  hL : ∃ junk, w.heap[H.LB]? = some (.cells (H.il.flatMap Info.row ++ junk).toArray 182 (0, 0))
  hE : ∃ junk, w.heap[H.EB]? = some (.cells ((H.el.map fun n : Nat => i64 n) ++ junk).toArray 3 (0, 0))
  il : H.il.length = H.S
  el : H.el.length = H.S
  lc : H.S ≤ H.lc
  ec : H.S ≤ H.ec
  lm : H.lc ≤ maxLen
  em : H.ec ≤ maxLen
  S64 : H.S ≤ 64
  Z4 : H.Z ≤ 4096
theorem ShR.keep {w w' : World} {H : ShV} (h : ShR w H) (h1 : w'.heap[H.SB]? = w.heap[H.SB]?) (h2 : w'.heap[H.LB]? = w.heap[H.LB]?) (h3 : w'.heap[H.EB]? = w.heap[H.EB]?) : ShR w' H :=
  { h with hS := by rw [h1]; exact h.hS, hL := by rw [h2]; exact h.hL, hE := by rw [h3]; exact h.hE }
theorem ShR.below {w w' : World} {H : ShV} (h : ShR w H) (hb : Below w.heap.size w w') : ShR w' H := by
  obtain ⟨j1, h1⟩ := h.hL
  obtain ⟨j2, h2⟩ := h.hE
  exact { h with hS := blk_below h.hS hb, hL := ⟨j1, blk_below h1 hb⟩, hE := ⟨j2, blk_below h2 hb⟩ }
theorem ne_type {w : World} {a b : Nat} {c d : Array Value} {t u : TypeId} {f g : Nat × Nat} (h1 : w.heap[a]? = some (.cells c t f)) (h2 : w.heap[b]? = some (.cells d u g)) (hn : t ≠ u) : a ≠ b := by
  rintro rfl
  rw [h1] at h2
  injection h2 with h2
  injection h2 with _ h3
  exact hn h3
theorem ShR.apart {w : World} {H : ShV} (h : ShR w H) : H.SB ≠ H.LB ∧ H.SB ≠ H.EB ∧ H.LB ≠ H.EB := by
  obtain ⟨j1, h1⟩ := h.hL
  obtain ⟨j2, h2⟩ := h.hE
  exact ⟨ne_type h.hS h1 (by decide), ne_type h.hS h2 (by decide), ne_type h1 h2 (by decide)⟩
/-- How a sector stands, read. -/
theorem ShR.info {w : World} {H : ShV} (h : ShR w H) {i : Nat} {x : Info} (hx : H.il[i]? = some x) (f : Nat) (hf : f < 6) : w.cell? ⟨H.LB, i * 6 + f, none⟩ = x.row[f]? := by
  obtain ⟨j1, h1⟩ := h.hL
  rw [cell_blk h1]
  have hi := (List.getElem?_eq_some_iff.1 hx).1
  rw [List.getElem?_toArray, List.getElem?_append_left (by rw [flat_len _ 6 info_len]; omega)]
  exact flat_get _ 6 info_len _ _ _ _ hx hf
theorem ShR.endAt {w : World} {H : ShV} (h : ShR w H) {i n : Nat} (hx : H.el[i]? = some n) : w.cell? ⟨H.EB, i, none⟩ = some (i64 n) := by
  obtain ⟨j2, h2⟩ := h.hE
  rw [cell_blk h2]
  have hi := (List.getElem?_eq_some_iff.1 hx).1
  rw [List.getElem?_toArray, List.getElem?_append_left (by rw [List.length_map]; exact hi), List.getElem?_map, hx]
  rfl
/-- Another sector is open. -/
theorem ShR.setOp {w : World} {H : ShV} (h : ShR w H) (k : Int) : ShR (w.setCell ⟨H.SB, 5, none⟩ (.int .i64 k)) { H with op := k } := by
  obtain ⟨a1, a2, a3⟩ := h.apart
  obtain ⟨j1, h1⟩ := h.hL
  obtain ⟨j2, h2⟩ := h.hE
  exact { h with hS := heap_setCell h.hS 5 (.int .i64 k), hL := ⟨j1, blk_set h1 _ _ (Ne.symm a1)⟩, hE := ⟨j2, blk_set h2 _ _ (Ne.symm a2)⟩ }
theorem ShR.setI {w : World} {H : ShV} (h : ShR w H) {i : Nat} {x x' : Info} (hx : H.il[i]? = some x) (f : Nat) (hf : f < 6) (v : Value) (hr : x'.row = x.row.set f v) : ShR (w.setCell ⟨H.LB, i * 6 + f, none⟩ v) { H with il := H.il.set i x' } := by
  obtain ⟨a1, a2, a3⟩ := h.apart
  obtain ⟨j1, h1⟩ := h.hL
  obtain ⟨j2, h2⟩ := h.hE
  have hi := (List.getElem?_eq_some_iff.1 hx).1
  refine { h with hS := blk_set h.hS _ _ a1, hL := ⟨j1, ?_⟩, hE := ⟨j2, blk_set h2 _ _ (Ne.symm a3)⟩, il := by rw [List.length_set]; exact h.il }
  rw [heap_setCell h1]
  congr 2
  apply Array.ext'
  rw [Array.toList_setIfInBounds]
  show ((H.il.flatMap Info.row ++ j1).set _ v) = _
  rw [List.set_append_left _ _ (by rw [flat_len _ 6 info_len]; omega), flat_set _ 6 info_len _ _ _ _ _ _ hx hf hr]
theorem ShR.setE {w : World} {H : ShV} (h : ShR w H) (i n : Nat) (hi : i < H.S) : ShR (w.setCell ⟨H.EB, i, none⟩ (i64 n)) { H with el := H.el.set i n } := by
  obtain ⟨a1, a2, a3⟩ := h.apart
  obtain ⟨j1, h1⟩ := h.hL
  obtain ⟨j2, h2⟩ := h.hE
  refine { h with hS := blk_set h.hS _ _ a2, hL := ⟨j1, blk_set h1 _ _ a3⟩, hE := ⟨j2, ?_⟩, el := by rw [List.length_set]; exact h.el }
  rw [heap_setCell h2]
  congr 2
  apply Array.ext'
  rw [Array.toList_setIfInBounds]
  show (((H.el.map fun n : Nat => i64 n) ++ j2).set _ _) = _
  rw [List.set_append_left _ _ (by rw [List.length_map, h.el]; exact hi), List.map_set]

set_option maxHeartbeats 2000000 in
set_option maxRecDepth 100000 in
theorem room_any {w : World} {H : ShV} (h : ShR w H) (n : Int) (h0 : -1000000 ≤ n) (h1 : n ≤ 1000000) : Gives 178 #[H.ptr, i64 n] w (i64 ((H.Z : Int) - n)) := by
  have c2 : w.cell? ⟨H.SB, 2, none⟩ = some (i64 H.Z) := cell_blk h.hS 2
  have hz := h.Z4
  have kw : IntKind.i64.wrap ((H.Z : Int) - n) = (H.Z : Int) - n := by rw [IntKind.wrap_i64]; omega
  clear h
  go_enter Tryz.func178, Tryz.ntmps178
  go_wp2_with fail
  go_ret
  exact ⟨rfl, rfl⟩
def fitsB (Z : Nat) (n : Int) : Bool := decide (1 ≤ n) && decide (n ≤ (Z : Int) - 8)
set_option maxHeartbeats 2000000 in
set_option maxRecDepth 100000 in
theorem fits_any {w : World} {H : ShV} (h : ShR w H) (n : Int) : Gives 177 #[H.ptr, i64 n] w (.bool (fitsB H.Z n)) := by
  have G := Lib.hid (room_any h 8 (by decide) (by decide))
  unfold fitsB
  by_cases h1 : 1 ≤ n
  · have t1 : decide (1 ≤ n) = true := decide_eq_true h1
    rw [t1, Bool.true_and]
    clear h
    go_enter Tryz.func177, Tryz.ntmps177
    go_wp2_with fail
    refine G.out.mono ?_; rintro e x1 ⟨rfl, rfl⟩
    go_wp2_with fail
    go_ret
    exact ⟨rfl, rfl⟩
  · have t1 : decide (1 ≤ n) = false := decide_eq_false h1
    rw [t1, Bool.false_and]
    clear h
    go_enter Tryz.func177, Tryz.ntmps177
    go_wp2_with fail
    go_ret
    exact ⟨rfl, rfl⟩

/-- An act failed: the sector is closed; it is held, if it is bad. -/
def ShV.failed (H : ShV) (s e : Nat) : ShV :=
  { H with op := if e ≠ 0 ∧ H.op = (s : Int) then -1 else H.op, il := if e = 8 then H.il.set s { H.il.getD s ⟨0, false, 0, 0, 0, false⟩ with held := true } else H.il }
set_option maxHeartbeats 4000000 in
set_option maxRecDepth 100000 in
theorem failed_any {w : World} {H : ShV} (h : ShR w H) (s e : Nat) (hs : s < H.S) : Calls Tryz.prog 207 #[H.ptr, i64 s, i64 e] w fun en w' => en = .returned (i64 e) ∧ ShR w' (H.failed s e) ∧ Out H.own w w' := by
  have c5 : w.cell? ⟨H.SB, 5, none⟩ = some (.int .i64 H.op) := cell_blk h.hS 5
  have c3 : w.cell? ⟨H.SB, 3, none⟩ = some (.slice (some ⟨H.LB, 0, none⟩) H.S H.lc) := cell_blk h.hS 3
  obtain ⟨x, hx⟩ : ∃ x, H.il[s]? = some x := ⟨_, List.getElem?_eq_getElem (by rw [h.il]; exact hs)⟩
  have hxd : H.il.getD s ⟨0, false, 0, 0, 0, false⟩ = x := by rw [List.getD_eq_getElem?_getD, hx]; rfl
  have i5 : w.cell? ⟨H.LB, s * 6 + 5, none⟩ = some (.bool x.held) := h.info hx 5 (by decide)
  obtain ⟨a1, a2, a3⟩ := h.apart
  have a1' := Ne.symm a1
  have f1 := fun o => frozen_blk h.hS o
  obtain ⟨jL, hL⟩ := h.hL
  have f2 := fun o => frozen_blk hL o
  have hsI : (s : Int) < (H.S : Int) := by omega
  have hs64 := h.S64
  have kws : IntKind.i64.wrap (s : Int) = (s : Int) := by rw [IntKind.wrap_i64]; omega
  have HH := Lib.hid h
  have HX := Lib.hid hx
  have HXD := Lib.hid hxd
  clear hL hxd hx h a3 a2
  by_cases h0 : e = 0
  · subst h0
    go_enter Tryz.func207, Tryz.ntmps207
    go_wp2_with fail
    go_ret
    exact ⟨rfl, by unfold ShV.failed; simpa using HH.out, Out.refl _ _⟩
  · have t1 : ((e : Int) == 0) = false := by rw [beq_eq_false_iff_ne]; omega
    have t1' : ((e : Int) != 0) = true := by rw [bne_iff_ne]; omega
    by_cases hop : H.op = (s : Int)
    · have h5 := HH.out.setOp (-1)
      have H5 := Lib.hid h5
      rw [hop] at c5
      by_cases h8 : e = 8
      · have h6 := h5.setI (x := x) (x' := { x with held := true }) HX.out 5 (by decide) (.bool true) rfl
        have H6 := Lib.hid h6
        have hfa : H.failed s e = { H with op := -1, il := H.il.set s { x with held := true } } := by
          unfold ShV.failed
          rw [if_pos h8, if_pos ⟨h0, hop⟩]
          rw [HXD.out]
        rw [hfa]
        subst h8
        clear hop h5 h6 hfa
        go_enter Tryz.func207, Tryz.ntmps207
        go_wp2_with fail
        go_ret
        exact ⟨rfl, H6.out, ((Out.refl _ _).set (.inl rfl) _ _).set (.inr (.inl rfl)) _ _⟩
      · have hfa : H.failed s e = { H with op := -1 } := by
          unfold ShV.failed
          rw [if_neg h8, if_pos ⟨h0, hop⟩]
        have t8 : ((e : Int) == 8) = false := by rw [beq_eq_false_iff_ne]; omega
        rw [hfa]
        clear hop h5 hfa
        go_enter Tryz.func207, Tryz.ntmps207
        go_wp2_with fail
        go_ret
        exact ⟨rfl, H5.out, (Out.refl _ _).set (.inl rfl) _ _⟩
    · have to : (H.op == (s : Int)) = false := by rw [beq_eq_false_iff_ne]; exact hop
      by_cases h8 : e = 8
      · have h6 := HH.out.setI (x := x) (x' := { x with held := true }) HX.out 5 (by decide) (.bool true) rfl
        have H6 := Lib.hid h6
        have hfa : H.failed s e = { H with il := H.il.set s { x with held := true } } := by
          unfold ShV.failed
          rw [if_pos h8, if_neg (fun h => hop h.2)]
          rw [HXD.out]
        rw [hfa]
        subst h8
        clear hop h6 hfa
        go_enter Tryz.func207, Tryz.ntmps207
        go_wp2_with fail
        go_ret
        exact ⟨rfl, H6.out, (Out.refl _ _).set (.inr (.inl rfl)) _ _⟩
      · have hfa : H.failed s e = H := by
          unfold ShV.failed
          rw [if_neg h8, if_neg (fun h => hop h.2)]
        have t8 : ((e : Int) == 8) = false := by rw [beq_eq_false_iff_ne]; omega
        rw [hfa]
        clear hop hfa
        go_enter Tryz.func207, Tryz.ntmps207
        go_wp2_with fail
        go_ret
        exact ⟨rfl, HH.out, Out.refl _ _⟩
end Go.Proofs.YthiimpleljaimaaGreatDoor

/- How all sectors of a shelf stand, with wear. -/
namespace Go.Proofs.YthiimpleljaimaaGreatDoor
open Go Go.RowKit Flo

theorem info_infoE : (Tryz.prog.info? 182).map (fun i => (i.zero, i.size, i.bytes)) = some (some (.agg #[.int .i64 0, .bool false, .int .i64 0, .int .u64 0, .int .i64 0, .bool false]), 6, 48) := by kernel_rfl
set_option maxHeartbeats 4000000 in
set_option maxRecDepth 100000 in
theorem cloneInfo_any (LB S lc : Nat) (il : List Info) (w : World) (hc : ∀ j u, (il.flatMap Info.row)[j]? = some u → w.cell? ⟨LB, j, none⟩ = some u) (hlt : LB < w.heap.size) (hl : il.length = S) (hS : S ≤ 64) :
    Calls Tryz.prog 182 #[.slice (some ⟨LB, 0, none⟩) S lc] w fun e w' => ∃ v, e = .returned v ∧ w'.ownsRow w.heap.size 182 6 v S (il.flatMap Info.row) ∧ Below w.heap.size w w' := by
  obtain ⟨i0, hi, hz0, hz1, hz2⟩ := info_parts info_infoE
  have he := fun w => Lib.run_eql_slice_nil (P := Tryz.prog) w 176 182 (some ⟨LB, 0, none⟩) S lc 0 0 Tryz.underlying176
  have hfl := flat_len Info.row 6 info_len il
  have HC := Lib.hid hc
  clear hc
  go_enter Tryz.func182, Tryz.ntmps182
  go_wp2_with (at_builtin; refine wpList_append_own _ rfl _ _ 176 rfl w.heap.size 182 i0 _ 6 48 Tryz.underlying176 hi hz0 hz1 hz2 rfl (by decide) _ _ _ rfl (World.ownsRow_made w #[] 0 (Nat.le_refl _) (Nat.zero_le _) rfl) ⟨LB, 0, none⟩ S lc (il.flatMap Info.row) rfl ?c0 ?c1 ?c2 ?c3 ?c4 ?c5 ?_)
  case c0 => rw [hfl, hl]
  case c1 =>
    intro j u hu
    have := HC.out j u hu
    rw [World.cell?_alloc_lt w _ _ (by rw [block_add]; exact hlt)]
    by_cases hj : j = 0
    · subst hj; simpa [Addr.add] using this
    · simpa [Addr.add, hj] using this
  case c2 => intro u hu; obtain ⟨x, _, hx⟩ := List.mem_flatMap.1 hu; simp at hx; rcases hx with rfl | rfl | rfl | rfl | rfl | rfl <;> rfl
  case c3 => unfold maxLen; omega
  case c4 => omega
  case c5 => simp
  intro v' w2 hown2 hgrow _
  go_wp2_with fail
  go_ret
  refine ⟨_, rfl, ?_, ?_⟩
  · simpa using hown2
  · exact Base.gr (Base.al (Below.refl _ _) _) hgrow (fun k hk => by simp [Value.ownBlock] at hk; omega)

/-- With wear, and which one is open. -/
def seenAt (H : ShV) (N : Nor) (i : Nat) : Info := { H.il.getD i ⟨0, false, 0, 0, 0, false⟩ with isOpen := decide (H.op = (i : Int)), wear := N.wearAt i }
def seenL (H : ShV) (N : Nor) : Nat → List Info
  | 0 => H.il
  | i + 1 => (seenL H N i).set i (seenAt H N i)
theorem seenL_len (H : ShV) (N : Nor) : ∀ i, (seenL H N i).length = H.il.length
  | 0 => rfl
  | i + 1 => by rw [seenL, List.length_set]; exact seenL_len H N i
theorem seenL_from (H : ShV) (N : Nor) : ∀ i k, i ≤ k → (seenL H N i)[k]? = H.il[k]?
  | 0, _, _ => rfl
  | i + 1, k, h => by rw [seenL, List.getElem?_set_ne (by omega)]; exact seenL_from H N i k (by omega)

set_option maxHeartbeats 8000000 in
set_option maxRecDepth 100000 in
theorem infos_any {O : Nat → Prop} {w : World} {N : Nor} {H : ShV} (hd : DevR O w N) (h : ShR w H) (hD : H.D = N.D) (hpos : 0 < H.S) :
    Calls Tryz.prog 134 #[H.ptr] w fun e w' => ∃ v, e = .returned v ∧ w'.ownsRow w.heap.size 182 6 v H.S ((seenL H N H.S).flatMap Info.row) ∧ Below w.heap.size w w' := by
  have c0 : w.cell? ⟨H.SB, 0, none⟩ = some (ptrD N) := by rw [show ptrD N = .pointer (some ⟨H.D, 0, none⟩) by rw [hD]]; exact cell_blk h.hS 0
  have c3 : w.cell? ⟨H.SB, 3, none⟩ = some (.slice (some ⟨H.LB, 0, none⟩) H.S H.lc) := cell_blk h.hS 3
  have c5 : w.cell? ⟨H.SB, 5, none⟩ = some (.int .i64 H.op) := cell_blk h.hS 5
  have zs := (Array.getElem?_eq_some_iff.1 h.hS).1
  obtain ⟨jL, hL⟩ := h.hL
  have zl := (Array.getElem?_eq_some_iff.1 hL).1
  have G := Lib.hid (cloneInfo_any H.LB H.S H.lc H.il w (fun j u hu => by
    rw [cell_blk hL, List.getElem?_toArray, List.getElem?_append_left (List.getElem?_eq_some_iff.1 hu).1]; exact hu) zl h.il h.S64)
  have HD := Lib.hid hd
  have HH := Lib.hid h
  have hS64 := h.S64
  clear hL hd h zl
  go_enter Tryz.func134, Tryz.ntmps134
  go_wp2_with fail
  refine G.out.mono ?_; rintro e x1 ⟨v, rfl, hown, hb1⟩
  obtain ⟨g, cap, cur, rfl, hbg, hgg, hnc, hcm, hcs, htk⟩ : ∃ g cap cur, v = .slice (some ⟨g, 0, none⟩) H.S cap ∧ w.heap.size ≤ g ∧ x1.heap[g]? = some (.cells cur 182 (0, 0)) ∧ H.S ≤ cap ∧ cap ≤ maxLen ∧ cur.size = cap * 6 ∧ cur.toList.take (H.S * 6) = H.il.flatMap Info.row := by
    rcases hown.2 with ⟨_, h0⟩ | h2
    · omega
    · exact h2
  have hcur : cur = (H.il.flatMap Info.row ++ cur.toList.drop (H.S * 6)).toArray := by rw [← htk, List.take_append_drop]
  obtain ⟨junk, hj⟩ : ∃ junk, cur.toList.drop (H.S * 6) = junk := ⟨_, rfl⟩
  have hjl : junk.length = (cap - H.S) * 6 := by rw [← hj, List.length_drop, Array.length_toList, hcs, Nat.sub_mul]
  rw [hj] at hcur
  rw [hcur] at hgg
  have BG : Hid (x1.heap[g]? = some (.cells ((seenL H N 0).flatMap Info.row ++ junk).toArray 182 (0, 0))) := Lib.hid hgg
  have HJ := Lib.hid hjl
  have HB1 := Lib.hid hb1
  clear hcur hj hjl htk hcs hgg hown hb1 G c0 c3 c5
  go_wp2_with fail
  go_loopw [14] (fun iv wr => ∃ i : Nat, iv = .int .i64 i ∧ i ≤ H.S ∧ Hid (wr.heap[g]? = some (.cells ((seenL H N i).flatMap Info.row ++ junk).toArray 182 (0, 0))) ∧ Hid (Below w.heap.size w wr)) (fun iv _ => H.S - (intOf iv).toNat)
  case atStart => exact ⟨0, rfl, Nat.zero_le _, BG, HB1⟩
  case round =>
    clear BG HB1
    obtain ⟨i, rfl, hi, bg, hb⟩ := hrel
    have kwi : IntKind.i64.wrap ((i : Int) + 1) = (i : Int) + 1 := by rw [IntKind.wrap_i64]; omega
    have kwi0 : IntKind.i64.wrap (i : Int) = (i : Int) := by rw [IntKind.wrap_i64]; omega
    by_cases hlt : i < H.S
    · have hr := HH.out.below hb.out
      have c0 : wr.cell? ⟨H.SB, 0, none⟩ = some (ptrD N) := by rw [show ptrD N = .pointer (some ⟨H.D, 0, none⟩) by rw [hD]]; exact cell_blk hr.hS 0
      have c5 : wr.cell? ⟨H.SB, 5, none⟩ = some (.int .i64 H.op) := cell_blk hr.hS 5
      have GW := Lib.hid (wear_any (HD.out.below hb.out) (i : Int))
      obtain ⟨x, hx⟩ : ∃ x, H.il[i]? = some x := ⟨_, List.getElem?_eq_getElem (by rw [HH.out.il]; exact hlt)⟩
      have hx2 : (seenL H N i)[i]? = some x := by rw [seenL_from H N i i (Nat.le_refl _)]; exact hx
      have hsee : seenAt H N i = { x with isOpen := decide (H.op = (i : Int)), wear := N.wearAt i } := by unfold seenAt; rw [List.getD_eq_getElem?_getD, hx]; rfl
      have hll : i * 6 + 5 < ((seenL H N i).flatMap Info.row).length := by rw [flat_len _ 6 info_len, seenL_len, HH.out.il]; omega
      have e2 : wr.cell? ⟨g, i * 6 + 2, none⟩ = some (i64 x.wear) := by
        rw [cell_blk bg.out, List.getElem?_toArray, List.getElem?_append_left (by omega)]
        exact flat_get _ 6 info_len _ _ _ 2 hx2 (by decide)
      have fz := fun o => frozen_blk bg.out o
      have n1 : H.SB ≠ g := by have := (Array.getElem?_eq_some_iff.1 HH.out.hS).1; omega
      -- behind the first store
      have h1 := heap_setCell bg.out (i * 6 + 2) (i64 (N.wearAt i))
      have h1' : (wr.setCell ⟨g, i * 6 + 2, none⟩ (i64 (N.wearAt i))).heap[g]? = some (.cells (((seenL H N i).set i { x with wear := (N.wearAt i : Int) }).flatMap Info.row ++ junk).toArray 182 (0, 0)) := by
        rw [h1]
        congr 2
        apply Array.ext'
        rw [Array.toList_setIfInBounds]
        show (((seenL H N i).flatMap Info.row ++ junk).set _ _) = _
        rw [List.set_append_left _ _ (by omega), flat_set _ 6 info_len _ _ x { x with wear := (N.wearAt i : Int) } 2 _ hx2 (by decide) rfl]
      have hx3 : ((seenL H N i).set i { x with wear := (N.wearAt i : Int) })[i]? = some { x with wear := (N.wearAt i : Int) } := by
        rw [List.getElem?_set_self]
        rw [seenL_len, HH.out.il]; exact hlt
      have hll2 : i * 6 + 5 < (((seenL H N i).set i { x with wear := (N.wearAt i : Int) }).flatMap Info.row).length := by rw [flat_len _ 6 info_len, List.length_set, seenL_len, HH.out.il]; omega
      have e1 : (wr.setCell ⟨g, i * 6 + 2, none⟩ (i64 (N.wearAt i))).cell? ⟨g, i * 6 + 1, none⟩ = some (.bool x.isOpen) := by
        rw [cell_blk h1', List.getElem?_toArray, List.getElem?_append_left (by omega)]
        exact flat_get Info.row 6 info_len _ _ { x with wear := (N.wearAt i : Int) } 1 hx3 (by decide)
      have fz1 := fun o => frozen_blk h1' o
      have d5 : (wr.setCell ⟨g, i * 6 + 2, none⟩ (i64 (N.wearAt i))).cell? ⟨H.SB, 5, none⟩ = some (.int .i64 H.op) := cell_blk (blk_set hr.hS _ _ n1) 5
      have h2 := heap_setCell h1' (i * 6 + 1) (.bool (decide (H.op = (i : Int))))
      have h2' : ((wr.setCell ⟨g, i * 6 + 2, none⟩ (i64 (N.wearAt i))).setCell ⟨g, i * 6 + 1, none⟩ (.bool (decide (H.op = (i : Int))))).heap[g]? = some (.cells ((seenL H N (i + 1)).flatMap Info.row ++ junk).toArray 182 (0, 0)) := by
        rw [h2]
        congr 2
        apply Array.ext'
        rw [Array.toList_setIfInBounds]
        show ((((seenL H N i).set i { x with wear := (N.wearAt i : Int) }).flatMap Info.row ++ junk).set _ _) = _
        rw [List.set_append_left _ _ (by omega), flat_set _ 6 info_len _ _ _ { x with wear := (N.wearAt i : Int), isOpen := decide (H.op = (i : Int)) } 1 _ hx3 (by decide) rfl, List.set_set, seenL, hsee]
      have hbe : ((i : Int) == H.op) = decide (H.op = (i : Int)) := by rw [Bool.eq_iff_iff, beq_iff_eq, decide_eq_true_iff]; exact eq_comm
      have H2 := Lib.hid h2'
      have HB2 := Lib.hid (Base.st (Base.st hb.out hbg (i * 6 + 2) (i64 (N.wearAt i))) hbg (i * 6 + 1) (.bool (decide (H.op = (i : Int)))))
      have HLT := Lib.hid hlt
      clear h1 h1' h2 h2' hx3 hll2 hll hx2 hx hsee hr hi
      generalize N.wearAt i = wa at *
      generalize decide (H.op = (i : Int)) = ob at *
      go_wp2_with fail
      refine GW.out.mono ?_; rintro e x2 ⟨rfl, rfl⟩
      go_wp2_with fail
      have := HLT.out
      exact ⟨⟨i + 1, by go_num, by omega, H2, HB2⟩, by simp [intOf]; omega⟩
    · obtain rfl : i = H.S := by omega
      go_wp2_with fail
      go_ret
      refine ⟨_, rfl, ⟨by rw [flat_len _ 6 info_len, seenL_len, HH.out.il], .inr ⟨g, cap, _, rfl, hbg, bg.out, hnc, hcm, ?_, ?_⟩⟩, hb.out⟩
      · rw [List.size_toArray, List.length_append, flat_len _ 6 info_len, seenL_len, HH.out.il, HJ.out, Nat.sub_mul]
        have := Nat.mul_le_mul_right 6 hnc
        omega
      · rw [List.take_left' (by rw [flat_len _ 6 info_len, seenL_len, HH.out.il])]
end Go.Proofs.YthiimpleljaimaaGreatDoor

