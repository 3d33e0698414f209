/- Search trees: what package tree's functions come to, and a tree in memory. -/
import Derived.Test.YthiimpleljaimaaGreatDoorMg6
import Derived.Test.YthiimpleljaimaaGreatDoorMg2
import Derived.Test.YthiimpleljaimaaGreatDoorPh2
namespace Go.Proofs.YthiimpleljaimaaGreatDoor
open Go Go.RowKit Flo

inductive Tr where
  | nil
  | node (k x : ByteArray) (l r : Tr)
def Tr.size : Tr → Nat
  | .nil => 0
  | .node _ _ l r => 1 + l.size + r.size
def Tr.high : Tr → Nat
  | .nil => 0
  | .node _ _ l r => 1 + max l.high r.high
theorem Tr.high_le : ∀ t : Tr, t.high ≤ t.size
  | .nil => Nat.le_refl _
  | .node _ _ l r => by
    have h1 := Tr.high_le l
    have h2 := Tr.high_le r
    show 1 + max l.high r.high ≤ 1 + l.size + r.size
    omega
theorem Tr.node_of {t : Tr} (h : 0 < t.high) : ∃ k x l r, t = .node k x l r := by
  cases t with
  | nil => exact absurd h (by decide)
  | node k x l r => exact ⟨k, x, l, r, rfl⟩
def leanT : Tr → Int
  | .nil => 0
  | .node _ _ l r => (l.high : Int) - r.high
def turnR : Tr → Tr
  | .node k x (.node lk lx ll lr) r => .node lk lx ll (.node k x lr r)
  | t => t
def turnL : Tr → Tr
  | .node k x l (.node rk rx rl rr) => .node rk rx (.node k x l rl) rr
  | t => t
def joinT (k x : ByteArray) (l r : Tr) : Tr :=
  if 1 < (l.high : Int) - r.high then turnR (.node k x (if leanT l < 0 then turnL l else l) r)
  else if (l.high : Int) - r.high < -1 then turnL (.node k x l (if 0 < leanT r then turnR r else r))
  else .node k x l r
theorem turnR_size : ∀ t : Tr, (turnR t).size = t.size
  | .nil => rfl
  | .node _ _ .nil _ => rfl
  | .node k x (.node lk lx ll lr) r => by simp only [turnR, Tr.size]; omega
theorem turnL_size : ∀ t : Tr, (turnL t).size = t.size
  | .nil => rfl
  | .node _ _ _ .nil => rfl
  | .node k x l (.node rk rx rl rr) => by simp only [turnL, Tr.size]; omega
theorem joinT_size (k x : ByteArray) (l r : Tr) : (joinT k x l r).size = 1 + l.size + r.size := by
  unfold joinT
  split
  · rw [turnR_size]
    show 1 + Tr.size _ + r.size = _
    split
    · rw [turnL_size]
    · rfl
  · split
    · rw [turnL_size]
      show 1 + l.size + Tr.size _ = _
      split
      · rw [turnR_size]
      · rfl
    · rfl
/-- Strings in the order of their bytes. -/
def ltB (a b : ByteArray) : Bool := Op.bytesLess a.toList b.toList
def setT (key val : ByteArray) : Tr → Tr
  | .nil => .node key val .nil .nil
  | .node k x l r => if ltB key k then joinT k x (setT key val l) r else if key = k then .node key val l r else joinT k x l (setT key val r)
theorem setT_size (key val : ByteArray) : ∀ t, (setT key val t).size ≤ t.size + 1
  | .nil => Nat.le_refl _
  | .node k x l r => by
    have h1 := setT_size key val l
    have h2 := setT_size key val r
    unfold setT
    split
    · rw [joinT_size]; show _ ≤ 1 + l.size + r.size + 1; omega
    · split
      · exact Nat.le_succ _
      · rw [joinT_size]; show _ ≤ 1 + l.size + r.size + 1; omega
def getT (key : ByteArray) : Tr → Option ByteArray
  | .nil => none
  | .node k x l r => if k = key then some x else if ltB key k then getT key l else getT key r
/-- The least key of a tree that has some. -/
def minT (k x : ByteArray) : Tr → ByteArray × ByteArray
  | .nil => (k, x)
  | .node lk lx l _ => minT lk lx l
def minKey : Tr → ByteArray
  | .nil => ByteArray.empty
  | .node k x l _ => (minT k x l).1
/-- A tree without its top. -/
def cutMid : Tr → Tr → Tr → Tr
  | .nil, r, _ => r
  | .node lk lx ll lr, .nil, _ => .node lk lx ll lr
  | .node lk lx ll lr, .node rk rx rl _, r' => joinT (minT rk rx rl).1 (minT rk rx rl).2 (.node lk lx ll lr) r'
def cutT (key : ByteArray) : Tr → Tr
  | .nil => .nil
  | .node k x l r => if getT key (.node k x l r) = none then .node k x l r
    else if ltB key k then joinT k x (cutT key l) r
    else if key ≠ k then joinT k x l (cutT key r)
    else cutMid l r (cutT (minKey r) r)

theorem cutT_nil (key : ByteArray) : cutT key .nil = .nil := rfl
theorem cutT_none {key k x : ByteArray} {l r : Tr} (h : getT key (.node k x l r) = none) : cutT key (.node k x l r) = .node k x l r := by
  unfold cutT
  rw [if_pos h]
theorem cutT_left {key k x : ByteArray} {l r : Tr} (h : getT key (.node k x l r) ≠ none) (hl : ltB key k = true) : cutT key (.node k x l r) = joinT k x (cutT key l) r := by
  rw [cutT, if_neg h, if_pos hl]
theorem cutT_right {key k x : ByteArray} {l r : Tr} (h : getT key (.node k x l r) ≠ none) (hl : ¬ ltB key k = true) (hk : key ≠ k) : cutT key (.node k x l r) = joinT k x l (cutT key r) := by
  rw [cutT, if_neg h, if_neg hl, if_pos hk]
theorem cutT_r {k x : ByteArray} {r : Tr} (hl : ¬ ltB k k = true) : cutT k (.node k x .nil r) = r := by
  have h : getT k (.node k x .nil r) ≠ none := by unfold getT; rw [if_pos rfl]; intro e; cases e
  rw [cutT, if_neg h, if_neg hl, if_neg (by simp)]
  rfl
theorem cutT_l {k x lk lx : ByteArray} {ll lr : Tr} (hl : ¬ ltB k k = true) : cutT k (.node k x (.node lk lx ll lr) .nil) = .node lk lx ll lr := by
  have h : getT k (.node k x (.node lk lx ll lr) .nil) ≠ none := by unfold getT; rw [if_pos rfl]; intro e; cases e
  rw [cutT, if_neg h, if_neg hl, if_neg (by simp)]
  rfl
theorem cutT_mid {k x lk lx rk rx : ByteArray} {ll lr rl rr : Tr} (hl : ¬ ltB k k = true) : cutT k (.node k x (.node lk lx ll lr) (.node rk rx rl rr)) = joinT (minT rk rx rl).1 (minT rk rx rl).2 (.node lk lx ll lr) (cutT (minT rk rx rl).1 (.node rk rx rl rr)) := by
  have h : getT k (.node k x (.node lk lx ll lr) (.node rk rx rl rr)) ≠ none := by unfold getT; rw [if_pos rfl]; intro e; cases e
  rw [cutT, if_neg h, if_neg hl, if_neg (by simp)]
  rfl
theorem cutT_size : ∀ (t : Tr) (key : ByteArray), (cutT key t).size ≤ t.size
  | .nil, key => by rw [cutT_nil]; exact Nat.le_refl _
  | .node k x l r, key => by
    have h1 := cutT_size l key
    have h2 := cutT_size r key
    have e : (Tr.node k x l r).size = 1 + l.size + r.size := rfl
    by_cases hn : getT key (.node k x l r) = none
    · rw [cutT_none hn]; exact Nat.le_refl _
    · by_cases hl : ltB key k = true
      · rw [cutT_left hn hl, joinT_size]; omega
      · by_cases hk : key = k
        · subst hk
          cases l with
          | nil => rw [cutT_r hl]; omega
          | node lk lx ll lr =>
            cases r with
            | nil => rw [cutT_l hl]; omega
            | node rk rx rl rr =>
              have h3 := cutT_size (.node rk rx rl rr) (minT rk rx rl).1
              rw [cutT_mid hl, joinT_size]
              omega
        · rw [cutT_right hn hl hk, joinT_size]; omega

/-- A tree in memory, in blocks from B on. -/
def TreeR (w : World) (B : Nat) : Tr → Value → Prop
  | .nil, v => v = .pointer none
  | .node k x l r, v => ∃ (b : Nat) (lv rv : Value), v = .pointer (some ⟨b, 0, none⟩) ∧ B ≤ b ∧ w.heap[b]? = some (.cells #[.string k, .string x, lv, rv, i64 (1 + l.size + r.size : Nat), i64 (1 + max l.high r.high : Nat)] 101 (0, 0)) ∧ TreeR w B l lv ∧ TreeR w B r rv
theorem TreeR.keep {w w' : World} {B : Nat} : ∀ {t : Tr} {v : Value}, TreeR w B t v → (∀ g cs f, B ≤ g → w.heap[g]? = some (.cells cs 101 f) → w'.heap[g]? = some (.cells cs 101 f)) → TreeR w' B t v
  | .nil, _, h, _ => h
  | .node _ _ _ _, _, ⟨b, lv, rv, h1, h2, h3, h4, h5⟩, hk => ⟨b, lv, rv, h1, h2, hk _ _ _ h2 h3, TreeR.keep h4 hk, TreeR.keep h5 hk⟩
theorem TreeR.below {w w' : World} {B : Nat} {t : Tr} {v : Value} (h : TreeR w B t v) (hb : Below w.heap.size w w') : TreeR w' B t v := h.keep fun _ _ _ _ hx => blk_below hx hb
theorem TreeR.ptr {w : World} {B : Nat} {t : Tr} {v : Value} (h : TreeR w B t v) : ∃ q, v = .pointer q := by
  cases t with
  | nil => exact ⟨_, h⟩
  | node k x l r =>
    obtain ⟨b, lv, rv, h1, _⟩ := h
    exact ⟨_, h1⟩
/-- A node's block. -/
theorem TreeR.node {w : World} {B : Nat} {k x : ByteArray} {l r : Tr} {v : Value} (h : TreeR w B (.node k x l r) v) :
    ∃ (b : Nat) (lq rq : Option Addr), v = .pointer (some ⟨b, 0, none⟩) ∧ b < w.heap.size ∧ w.cell? ⟨b, 0, none⟩ = some (.string k) ∧ w.cell? ⟨b, 1, none⟩ = some (.string x) ∧ w.cell? ⟨b, 2, none⟩ = some (.pointer lq) ∧ w.cell? ⟨b, 3, none⟩ = some (.pointer rq) ∧
      w.cell? ⟨b, 4, none⟩ = some (i64 (1 + l.size + r.size : Nat)) ∧ w.cell? ⟨b, 5, none⟩ = some (i64 (1 + max l.high r.high : Nat)) ∧ TreeR w B l (.pointer lq) ∧ TreeR w B r (.pointer rq) := by
  obtain ⟨b, lv, rv, h1, h2, h3, h4, h5⟩ := h
  obtain ⟨lq, rfl⟩ := h4.ptr
  obtain ⟨rq, rfl⟩ := h5.ptr
  exact ⟨b, lq, rq, h1, (Array.getElem?_eq_some_iff.1 h3).1, cell_blk h3 0, cell_blk h3 1, cell_blk h3 2, cell_blk h3 3, cell_blk h3 4, cell_blk h3 5, h4, h5⟩
theorem TreeR.mk {w : World} {B b : Nat} {k x : ByteArray} {l r : Tr} {lv rv : Value} (hb : B ≤ b) (h : w.heap[b]? = some (.cells #[.string k, .string x, lv, rv, i64 (1 + l.size + r.size : Nat), i64 (1 + max l.high r.high : Nat)] 101 (0, 0))) (hl : TreeR w B l lv) (hr : TreeR w B r rv) : TreeR w B (.node k x l r) (.pointer (some ⟨b, 0, none⟩)) :=
  ⟨b, lv, rv, rfl, hb, h, hl, hr⟩
end Go.Proofs.YthiimpleljaimaaGreatDoor

/- Package tree: Len, High, with, lean, the turns, join. -/
namespace Go.Proofs.YthiimpleljaimaaGreatDoor
open Go Go.RowKit Flo

set_option maxHeartbeats 2000000 in
set_option maxRecDepth 100000 in
theorem trLen_any {w : World} {B : Nat} {t : Tr} {v : Value} (h : TreeR w B t v) : Gives 16 #[v] w (i64 t.size) := by
  cases t with
  | nil =>
    obtain rfl : v = .pointer none := h
    go_enter Tryz.func16, Tryz.ntmps16
    go_wp2_with fail
    go_ret
    exact ⟨rfl, rfl⟩
  | node k x l r =>
    obtain ⟨b, lq, rq, rfl, hb, c0, c1, c2, c3, c4, c5, h4, h5⟩ := h.node
    clear h h4 h5
    show Gives _ _ _ (i64 (1 + l.size + r.size : Nat))
    generalize 1 + l.size + r.size = n at *
    go_enter Tryz.func16, Tryz.ntmps16
    go_wp2_with fail
    go_ret
    exact ⟨rfl, rfl⟩
set_option maxHeartbeats 2000000 in
set_option maxRecDepth 100000 in
theorem trHigh_any {w : World} {B : Nat} {t : Tr} {v : Value} (h : TreeR w B t v) : Gives 270 #[v] w (i64 t.high) := by
  cases t with
  | nil =>
    obtain rfl : v = .pointer none := h
    go_enter Tryz.func270, Tryz.ntmps270
    go_wp2_with fail
    go_ret
    exact ⟨rfl, rfl⟩
  | node k x l r =>
    obtain ⟨b, lq, rq, rfl, hb, c0, c1, c2, c3, c4, c5, h4, h5⟩ := h.node
    clear h h4 h5
    show Gives _ _ _ (i64 (1 + max l.high r.high : Nat))
    generalize 1 + max l.high r.high = n at *
    go_enter Tryz.func270, Tryz.ntmps270
    go_wp2_with fail
    go_ret
    exact ⟨rfl, rfl⟩

/-- What a function of trees comes back with. -/
abbrev TrPost (w : World) (B : Nat) (t : Tr) (e : Ending) (w' : World) : Prop := ∃ q, e = .returned (.pointer q) ∧ TreeR w' B t (.pointer q) ∧ Below w.heap.size w w'

set_option maxHeartbeats 4000000 in
set_option maxRecDepth 100000 in
theorem with_any {w : World} {B : Nat} {k x : ByteArray} {l0 r0 l r : Tr} {p : Value} {lq rq : Option Addr} (h : TreeR w B (.node k x l0 r0) p) (hl : TreeR w B l (.pointer lq)) (hr : TreeR w B r (.pointer rq)) (hB : B ≤ w.heap.size) (hs : l.size + r.size ≤ 1000000) :
    Calls Tryz.prog 221 #[p, .pointer lq, .pointer rq] w (TrPost w B (.node k x l r)) := by
  obtain ⟨b, lq0, rq0, rfl, hb, c0, c1, c2, c3, c4, c5, h4, h5⟩ := h.node
  have g1 := fun p : OnOf w => Lib.hid (trLen_any (hl.below p.h))
  have g2 := fun p : OnOf w => Lib.hid (trLen_any (hr.below p.h))
  have g3 := fun p : OnOf w => Lib.hid (trHigh_any (hl.below p.h))
  have g4 := fun p : OnOf w => Lib.hid (trHigh_any (hr.below p.h))
  have k1 : IntKind.i64.wrap (1 + (l.size : Int)) = 1 + (l.size : Int) := by rw [IntKind.wrap_i64]; omega
  have k2 : IntKind.i64.wrap (1 + (l.size : Int) + (r.size : Int)) = 1 + (l.size : Int) + (r.size : Int) := by rw [IntKind.wrap_i64]; omega
  obtain ⟨m, hm⟩ : ∃ m : Nat, max l.high r.high = m := ⟨_, rfl⟩
  have km : (if l.high < r.high then (r.high : Int) else (l.high : Int)) = (m : Int) := by
    rw [← hm]
    split <;> omega
  have k3 : IntKind.i64.wrap (1 + (m : Int)) = 1 + (m : Int) := by
    have := l.high_le
    have := r.high_le
    rw [IntKind.wrap_i64]; omega
  have HM := Lib.hid hm
  have q0 := fun p : OnOf w => on_cell hb c0 p
  have q1 := fun p : OnOf w => on_cell hb c1 p
  have HL := Lib.hid hl
  have HR := Lib.hid hr
  clear h h4 h5 hl hr c0 c1 c2 c3 c4 c5 hs hm
  go_enter Tryz.func221, Tryz.ntmps221
  go_wp2_with fail
  refine wp_region_po (fun w' => ∃ p : OnOf w, w' = p.v) 25 [11, 14, 17, 19, 23] (by kernel_rfl) (by kernel_rfl) ⟨⟨_, Base.dr (Below.refl _ _)⟩, rfl⟩ ?_
  simp only [List.take_succ_cons, List.take_zero, List.drop_succ_cons, List.drop_zero]
  have on0 := @on_rd0; have on1 := @on_rd1; have on2 := @on_rd2; have on3 := @on_new1; have on4 := @on_new2; have on5 := @gr_rd0
  repeat ((with_reducible refine seq_read ?_ ?_); (focus rfl); (intro K hK); (unfold readsAt); go_simp; first | ((with_reducible refine hK _ ?_); clear hK K) | (rw [if_neg (by intro h; cases h)]; (with_reducible refine hK _ ?_); clear hK K))
  refine seq_eff (by rfl) (by first | rfl | go_simp) ?_
  intro K hK
  unfold effAt2
  go_simp
  refine ⟨rfl, (g1 ⟨_, Base.dr (Below.refl _ _)⟩).out.mono ?_⟩; rintro e w1 ⟨rfl, rfl⟩
  refine ⟨_, rfl, ⟨⟨_, Base.dr (Below.refl _ _)⟩, rfl⟩, hK _ _ ?_⟩
  clear hK K
  repeat ((with_reducible refine seq_read ?_ ?_); (focus rfl); (intro K hK); (unfold readsAt); go_simp; first | ((with_reducible refine hK _ ?_); clear hK K) | (rw [if_neg (by intro h; cases h)]; (with_reducible refine hK _ ?_); clear hK K))
  refine seq_eff (by rfl) (by first | rfl | go_simp) ?_
  intro K hK
  unfold effAt2
  go_simp
  refine ⟨rfl, (g2 ⟨_, Base.dr (Below.refl _ _)⟩).out.mono ?_⟩; rintro e w1 ⟨rfl, rfl⟩
  refine ⟨_, rfl, ⟨⟨_, Base.dr (Below.refl _ _)⟩, rfl⟩, hK _ _ ?_⟩
  clear hK K
  repeat ((with_reducible refine seq_read ?_ ?_); (focus rfl); (intro K hK); (unfold readsAt); go_simp; first | ((with_reducible refine hK _ ?_); clear hK K) | (rw [if_neg (by intro h; cases h)]; (with_reducible refine hK _ ?_); clear hK K))
  refine seq_eff (by rfl) (by first | rfl | go_simp) ?_
  intro K hK
  unfold effAt2
  go_simp
  refine ⟨rfl, (g3 ⟨_, Base.dr (Below.refl _ _)⟩).out.mono ?_⟩; rintro e w1 ⟨rfl, rfl⟩
  refine ⟨_, rfl, ⟨⟨_, Base.dr (Below.refl _ _)⟩, rfl⟩, hK _ _ ?_⟩
  clear hK K
  repeat ((with_reducible refine seq_read ?_ ?_); (focus rfl); (intro K hK); (unfold readsAt); go_simp; first | ((with_reducible refine hK _ ?_); clear hK K) | (rw [if_neg (by intro h; cases h)]; (with_reducible refine hK _ ?_); clear hK K))
  refine seq_eff (by rfl) (by first | rfl | go_simp) ?_
  intro K hK
  unfold effAt2
  go_simp
  refine ⟨rfl, (g4 ⟨_, Base.dr (Below.refl _ _)⟩).out.mono ?_⟩; rintro e w1 ⟨rfl, rfl⟩
  refine ⟨_, rfl, ⟨⟨_, Base.dr (Below.refl _ _)⟩, rfl⟩, hK _ _ ?_⟩
  clear hK K
  repeat ((with_reducible refine seq_read ?_ ?_); (focus rfl); (intro K hK); (unfold readsAt); go_simp; first | ((with_reducible refine hK _ ?_); clear hK K) | (rw [if_neg (by intro h; cases h)]; (with_reducible refine hK _ ?_); clear hK K))
  refine seq_eff (by rfl) (by first | rfl | go_simp) ?_
  intro K hK
  unfold effAt2
  go_simp
  unfold effUpon2
  refine ⟨⟨⟨_, Base.dr (Base.al (Below.refl _ _) _)⟩, rfl⟩, hK _ _ ?_⟩
  clear hK K
  repeat ((with_reducible refine seq_read ?_ ?_); (focus rfl); (intro K hK); (unfold readsAt); go_simp; first | ((with_reducible refine hK _ ?_); clear hK K) | (rw [if_neg (by intro h; cases h)]; (with_reducible refine hK _ ?_); clear hK K))
  clear on0 on1 on2 on3 on4 on5
  with_reducible refine seq_nil ?_
  clear g1 g2 g3 g4 q0 q1
  have hfin : TreeR (w.alloc (.cells #[.string k, .string x, .pointer lq, .pointer rq, .int .i64 (1 + (l.size : Int) + (r.size : Int)), .int .i64 (1 + (m : Int))] 101)).drew B (.node k x l r) (.pointer (some ⟨w.heap.size, 0, none⟩)) := by
    refine TreeR.mk hB ?_ (HL.out.below (Base.dr (Base.al (Below.refl _ _) _))) (HR.out.below (Base.dr (Base.al (Below.refl _ _) _)))
    rw [HM.out]
    exact blk_new w _
  have HF := Lib.hid hfin
  clear hfin HL HR
  go_wp2_with fail
  go_ret
  exact ⟨_, rfl, HF.out, Base.dr (Base.al (Below.refl _ _) _)⟩

set_option maxHeartbeats 4000000 in
set_option maxRecDepth 100000 in
theorem lean_any {w : World} {B : Nat} {k x : ByteArray} {l r : Tr} {p : Value} (h : TreeR w B (.node k x l r) p) (hs : l.size + r.size ≤ 1000000) : Makes 222 #[p] w (i64 ((l.high : Int) - r.high)) := by
  obtain ⟨b, lq, rq, rfl, hb, c0, c1, c2, c3, c4, c5, h4, h5⟩ := h.node
  have g1 := fun p : OnOf w => Lib.hid (trHigh_any (h4.below p.h))
  have g2 := fun p : OnOf w => Lib.hid (trHigh_any (h5.below p.h))
  have k1 : IntKind.i64.wrap ((l.high : Int) - (r.high : Int)) = (l.high : Int) - (r.high : Int) := by
    have := l.high_le
    have := r.high_le
    rw [IntKind.wrap_i64]; omega
  have q2 := fun p : OnOf w => on_cell hb c2 p
  have q3 := fun p : OnOf w => on_cell hb c3 p
  clear h h4 h5 c0 c1 c2 c3 c4 c5 hs
  go_enter Tryz.func222, Tryz.ntmps222
  go_wp2_with fail
  refine wp_region_quiet_on (by kernel_rfl) (by kernel_rfl) ?_
  repeat ((with_reducible refine wpQuiet_step (fun K hK => ?_)); go_simp; first | ((with_reducible refine hK _ ?_); clear hK K) | (rw [if_neg (by intro h; cases h)]; (with_reducible refine hK _ ?_); clear hK K) | (apply Exists.intro; refine ⟨fun _ => ?_, hK _ ?_⟩; (first | (with_reducible exact on_of_same (g1 _).out) | (with_reducible exact on_of_same (g2 _).out)); clear hK K))
  with_reducible refine wpQuiet_nil ?_
  intro _ hw'
  obtain ⟨pq, hw''⟩ := hw'
  subst hw''
  go_wp2_with fail
  go_ret
  exact ⟨rfl, pq.h⟩

set_option maxHeartbeats 4000000 in
set_option maxRecDepth 100000 in
theorem turnRight_any {w : World} {B : Nat} {k x lk lx : ByteArray} {ll lr r : Tr} {p : Value} (h : TreeR w B (.node k x (.node lk lx ll lr) r) p) (hB : B ≤ w.heap.size) (hs : ll.size + lr.size + r.size ≤ 900000) :
    Calls Tryz.prog 224 #[p] w (TrPost w B (.node lk lx ll (.node k x lr r))) := by
  have h0 := h
  obtain ⟨b, lq, rq, rfl, hb, c0, c1, c2, c3, c4, c5, h4, h5⟩ := h.node
  obtain ⟨b2, llq, lrq, e2, hb2, d0, d1, d2, d3, d4, d5, h6, h7⟩ := h4.node
  injection e2 with e2
  subst e2
  have q2 := fun p : OnOf w => on_cell hb c2 p
  have q3 := fun p : OnOf w => on_cell hb c3 p
  have u2 := fun p : OnOf w => on_cell hb2 d2 p
  have u3 := fun p : OnOf w => on_cell hb2 d3 p
  have W1 := fun v (hv : Below w.heap.size w v) => Lib.hid (with_any (l := lr) (r := r) (h0.below hv) (h7.below hv) (h5.below hv) (Nat.le_trans hB hv.size) (by omega))
  have W2 := fun v (hv : Below w.heap.size w v) q (hq : TreeR v B (.node k x lr r) (.pointer q)) => Lib.hid (with_any (l := ll) (r := .node k x lr r) (h4.below hv) (h6.below hv) hq (Nat.le_trans hB hv.size) (by show ll.size + (1 + lr.size + r.size) ≤ 1000000; omega))
  clear h h0 h4 h5 h6 h7 c0 c1 c2 c3 c4 c5 d0 d1 d2 d3 d4 d5 hs
  go_enter Tryz.func224, Tryz.ntmps224
  go_wp2_with fail
  refine wp_region_po (fun w' => ∃ p : OnOf w, w' = p.v) 26 [23, 24] (by kernel_rfl) (by kernel_rfl) ⟨⟨_, Base.dr (Below.refl _ _)⟩, rfl⟩ ?_
  simp only [List.take_succ_cons, List.take_zero, List.drop_succ_cons, List.drop_zero]
  have on0 := @on_rd0; have on1 := @on_rd1; have on2 := @on_rd2; have on3 := @on_new1; have on4 := @on_new2; have on5 := @gr_rd0
  repeat ((with_reducible refine seq_read ?_ ?_); (focus rfl); (intro K hK); (unfold readsAt); go_simp; first | ((with_reducible refine hK _ ?_); clear hK K) | (rw [if_neg (by intro h; cases h)]; (with_reducible refine hK _ ?_); clear hK K))
  refine seq_eff (by rfl) (by first | rfl | go_simp) ?_
  intro K hK
  unfold effAt2
  go_simp
  refine ⟨rfl, (W1 _ (Base.dr (Below.refl _ _))).out.mono ?_⟩; rintro e w1 ⟨q1, rfl, ht1, hb1⟩
  have hb3 := Base.tr (Base.dr (Below.refl _ w)) hb1
  refine ⟨_, rfl, ⟨⟨_, hb3⟩, rfl⟩, hK _ _ ?_⟩
  clear hK K
  repeat ((with_reducible refine seq_read ?_ ?_); (focus rfl); (intro K hK); (unfold readsAt); go_simp; first | ((with_reducible refine hK _ ?_); clear hK K) | (rw [if_neg (by intro h; cases h)]; (with_reducible refine hK _ ?_); clear hK K))
  refine seq_eff (by rfl) (by first | rfl | go_simp) ?_
  intro K hK
  unfold effAt2
  go_simp
  refine ⟨rfl, (W2 _ hb3 q1 ht1).out.mono ?_⟩; rintro e w2 ⟨q4, rfl, ht2, hb4⟩
  have hb5 := Base.tr hb3 hb4
  refine ⟨_, rfl, ⟨⟨_, hb5⟩, rfl⟩, hK _ _ ?_⟩
  clear hK K
  repeat ((with_reducible refine seq_read ?_ ?_); (focus rfl); (intro K hK); (unfold readsAt); go_simp; first | ((with_reducible refine hK _ ?_); clear hK K) | (rw [if_neg (by intro h; cases h)]; (with_reducible refine hK _ ?_); clear hK K))
  clear on0 on1 on2 on3 on4 on5
  with_reducible refine seq_nil ?_
  have HT := Lib.hid ht2
  clear ht1 ht2 W1 W2 q2 q3 u2 u3
  go_wp2_with fail
  go_ret
  exact ⟨_, rfl, HT.out, hb5⟩

set_option maxHeartbeats 4000000 in
set_option maxRecDepth 100000 in
theorem turnLeft_any {w : World} {B : Nat} {k x rk rx : ByteArray} {l rl rr : Tr} {p : Value} (h : TreeR w B (.node k x l (.node rk rx rl rr)) p) (hB : B ≤ w.heap.size) (hs : l.size + rl.size + rr.size ≤ 900000) :
    Calls Tryz.prog 223 #[p] w (TrPost w B (.node rk rx (.node k x l rl) rr)) := by
  have h0 := h
  obtain ⟨b, lq, rq, rfl, hb, c0, c1, c2, c3, c4, c5, h4, h5⟩ := h.node
  obtain ⟨b2, rlq, rrq, e2, hb2, d0, d1, d2, d3, d4, d5, h6, h7⟩ := h5.node
  injection e2 with e2
  subst e2
  have q2 := fun p : OnOf w => on_cell hb c2 p
  have q3 := fun p : OnOf w => on_cell hb c3 p
  have u2 := fun p : OnOf w => on_cell hb2 d2 p
  have u3 := fun p : OnOf w => on_cell hb2 d3 p
  have W1 := fun v (hv : Below w.heap.size w v) => Lib.hid (with_any (l := l) (r := rl) (h0.below hv) (h4.below hv) (h6.below hv) (Nat.le_trans hB hv.size) (by omega))
  have W2 := fun v (hv : Below w.heap.size w v) q (hq : TreeR v B (.node k x l rl) (.pointer q)) => Lib.hid (with_any (l := .node k x l rl) (r := rr) (h5.below hv) hq (h7.below hv) (Nat.le_trans hB hv.size) (by show (1 + l.size + rl.size) + rr.size ≤ 1000000; omega))
  clear h h0 h4 h5 h6 h7 c0 c1 c2 c3 c4 c5 d0 d1 d2 d3 d4 d5 hs
  go_enter Tryz.func223, Tryz.ntmps223
  go_wp2_with fail
  refine wp_region_po (fun w' => ∃ p : OnOf w, w' = p.v) 26 [16, 24] (by kernel_rfl) (by kernel_rfl) ⟨⟨_, Base.dr (Below.refl _ _)⟩, rfl⟩ ?_
  simp only [List.take_succ_cons, List.take_zero, List.drop_succ_cons, List.drop_zero]
  have on0 := @on_rd0; have on1 := @on_rd1; have on2 := @on_rd2; have on3 := @on_new1; have on4 := @on_new2; have on5 := @gr_rd0
  repeat ((with_reducible refine seq_read ?_ ?_); (focus rfl); (intro K hK); (unfold readsAt); go_simp; first | ((with_reducible refine hK _ ?_); clear hK K) | (rw [if_neg (by intro h; cases h)]; (with_reducible refine hK _ ?_); clear hK K))
  refine seq_eff (by rfl) (by first | rfl | go_simp) ?_
  intro K hK
  unfold effAt2
  go_simp
  refine ⟨rfl, (W1 _ (Base.dr (Below.refl _ _))).out.mono ?_⟩; rintro e w1 ⟨q1, rfl, ht1, hb1⟩
  have hb3 := Base.tr (Base.dr (Below.refl _ w)) hb1
  refine ⟨_, rfl, ⟨⟨_, hb3⟩, rfl⟩, hK _ _ ?_⟩
  clear hK K
  repeat ((with_reducible refine seq_read ?_ ?_); (focus rfl); (intro K hK); (unfold readsAt); go_simp; first | ((with_reducible refine hK _ ?_); clear hK K) | (rw [if_neg (by intro h; cases h)]; (with_reducible refine hK _ ?_); clear hK K))
  refine seq_eff (by rfl) (by first | rfl | go_simp) ?_
  intro K hK
  unfold effAt2
  go_simp
  refine ⟨rfl, (W2 _ hb3 q1 ht1).out.mono ?_⟩; rintro e w2 ⟨q4, rfl, ht2, hb4⟩
  have hb5 := Base.tr hb3 hb4
  refine ⟨_, rfl, ⟨⟨_, hb5⟩, rfl⟩, hK _ _ ?_⟩
  clear hK K
  repeat ((with_reducible refine seq_read ?_ ?_); (focus rfl); (intro K hK); (unfold readsAt); go_simp; first | ((with_reducible refine hK _ ?_); clear hK K) | (rw [if_neg (by intro h; cases h)]; (with_reducible refine hK _ ?_); clear hK K))
  clear on0 on1 on2 on3 on4 on5
  with_reducible refine seq_nil ?_
  have HT := Lib.hid ht2
  clear ht1 ht2 W1 W2 q2 q3 u2 u3
  go_wp2_with fail
  go_ret
  exact ⟨_, rfl, HT.out, hb5⟩
end Go.Proofs.YthiimpleljaimaaGreatDoor

