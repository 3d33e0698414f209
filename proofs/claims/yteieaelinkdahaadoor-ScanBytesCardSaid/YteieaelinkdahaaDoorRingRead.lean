/- The reader of package ring: numbers and texts, errors stay. -/
import Derived.Test.YteieaelinkdahaaDoorRingPut
namespace Go.Proofs.YteieaelinkdahaaDoor
open Go.RowKit Flo

/-- A reader that stands at a, with error e. -/
abbrev RdAt (w : World) (r : Nat) (v : Value) (a e : Nat) : Prop := w.heap[r]? = some (.cells #[v, i64 a, i64 e] 75 (0, 0))
def pNum (l : List Nat) (k a e : Nat) : Nat × Nat × Nat := if e = 0 then pGet l a k else (0, a, e)
def pTxt (l : List Nat) (most a e : Nat) : List Nat × Nat × Nat := if e = 0 then pText l a most else ([], a, e)

set_option maxHeartbeats 4000000 in
set_option maxRecDepth 100000 in
theorem number_any (r : Nat) (A : Option Addr) (n cap : Nat) (l : List Nat) (k a e : Nat) (w : World) (h : RdAt w r (.slice A n cap) a e) (hy : Byt w (.slice A n cap) l) (hl : ∀ b ∈ l, b < 256) (ha : a ≤ l.length) (hk : 1 ≤ k) (hk2 : k ≤ 8) (hm : l.length ≤ 100000) :
    Calls Tryd.prog 32 #[.pointer (some ⟨r, 0, none⟩), i64 k] w fun en w' => en = .returned (.int .u64 (pNum l k a e).1) ∧ RdAt w' r (.slice A n cap) (pNum l k a e).2.1 (pNum l k a e).2.2 ∧ w.grownBy w' (some r) := by
  have c0 : w.cell? ⟨r, 0, none⟩ = some (.slice A n cap) := cell_blk h 0
  have c1 : w.cell? ⟨r, 1, none⟩ = some (i64 a) := cell_blk h 1
  have c2 : w.cell? ⟨r, 2, none⟩ = some (i64 e) := cell_blk h 2
  have hf := fun o => frozen_blk h o
  have hr : r < w.heap.size := (Array.getElem?_eq_some_iff.1 h).1
  by_cases he : e = 0
  · have hv : pNum l k a e = pGet l a k := if_pos he
    rw [hv]
    have G := fun p : OnOf w => Lib.hid (pkGet_any A n cap l a k p.v (Sl.below hy p.h) hl ha hk hk2 hm)
    generalize pGet l a k = q at *
    obtain ⟨q0, q1, q2⟩ := q
    simp only at G ⊢
    subst he
    clear hv
    go_enter Tryd.func32, Tryd.ntmps32
    go_wp2_with fail
    have k0 := fun p => on_cell (w := w) hr c0 p
    have k1 := fun p => on_cell (w := w) hr c1 p
    refine wp_region_quiet_on (by kernel_rfl) (by kernel_rfl) ?_
    repeat ((with_reducible refine wpQuiet_step (fun K hK => ?_)); go_simp; first | ((with_reducible refine hK _ ?_); clear hK K) | (rw [if_neg (by intro h; cases h)]; (with_reducible refine hK _ ?_); clear hK K) | (apply Exists.intro; refine ⟨fun _ => ?_, hK _ ?_⟩; ((with_reducible exact on_of_same (G _).out)); clear hK K))
    with_reducible refine wpQuiet_nil ?_
    intro _ hw'
    obtain ⟨pq, hw''⟩ := hw'
    subst hw''
    have h2 := blk_below h pq.h
    have hb2 := pq.h
    generalize pq.v = w2 at *
    have d0 : w2.cell? ⟨r, 0, none⟩ = some (.slice A n cap) := cell_blk h2 0
    have d1 : w2.cell? ⟨r, 1, none⟩ = some (i64 a) := cell_blk h2 1
    have d2 : w2.cell? ⟨r, 2, none⟩ = some (i64 (0 : Nat)) := cell_blk h2 2
    have df := fun o => frozen_blk h2 o
    clear c0 c1 c2 hf k0 k1 G
    go_wp2_with fail
    go_ret
    have h3 := heap_setCell (heap_setCell h2 1 (.int .i64 (q1 : Int))) 2 (.int .i64 (q2 : Int))
    refine ⟨rfl, by simpa using h3, ?_⟩
    exact grown_setCell (grown_setCell (grown_of_below _ hb2) _ _) _ _
  · have hv : pNum l k a e = (0, a, e) := if_neg he
    rw [hv]
    have t1 : ((e : Int) != 0) = true := by rw [bne_iff_ne]; omega
    clear hv he
    go_enter Tryd.func32, Tryd.ntmps32
    go_wp2_with fail
    go_ret
    exact ⟨rfl, h, grown_same _ _⟩

set_option maxHeartbeats 4000000 in
set_option maxRecDepth 100000 in
theorem text_any (r : Nat) (A : Option Addr) (n cap : Nat) (l : List Nat) (most a e : Nat) (w : World) (h : RdAt w r (.slice A n cap) a e) (hy : Byt w (.slice A n cap) l) (hl : ∀ b ∈ l, b < 256) (ha : a ≤ l.length) (hm : l.length ≤ 100000) :
    Calls Tryd.prog 34 #[.pointer (some ⟨r, 0, none⟩), i64 most] w fun en w' => en = .returned (.string (toB (pTxt l most a e).1)) ∧ RdAt w' r (.slice A n cap) (pTxt l most a e).2.1 (pTxt l most a e).2.2 ∧ w.grownBy w' (some r) := by
  have c0 : w.cell? ⟨r, 0, none⟩ = some (.slice A n cap) := cell_blk h 0
  have c1 : w.cell? ⟨r, 1, none⟩ = some (i64 a) := cell_blk h 1
  have c2 : w.cell? ⟨r, 2, none⟩ = some (i64 e) := cell_blk h 2
  have hf := fun o => frozen_blk h o
  have hr : r < w.heap.size := (Array.getElem?_eq_some_iff.1 h).1
  by_cases he : e = 0
  · have hv : pTxt l most a e = pText l a most := if_pos he
    rw [hv]
    have G := fun p : OnOf w => Lib.hid (pkText_any A n cap l a most p.v (Sl.below hy p.h) hl ha hm)
    generalize pText l a most = q at *
    obtain ⟨q0, q1, q2⟩ := q
    simp only at G ⊢
    subst he
    clear hv
    go_enter Tryd.func34, Tryd.ntmps34
    go_wp2_with fail
    have k0 := fun p => on_cell (w := w) hr c0 p
    have k1 := fun p => on_cell (w := w) hr c1 p
    refine wp_region_quiet_on (by kernel_rfl) (by kernel_rfl) ?_
    repeat ((with_reducible refine wpQuiet_step (fun K hK => ?_)); go_simp; first | ((with_reducible refine hK _ ?_); clear hK K) | (rw [if_neg (by intro h; cases h)]; (with_reducible refine hK _ ?_); clear hK K) | (apply Exists.intro; refine ⟨fun _ => ?_, hK _ ?_⟩; ((with_reducible exact on_of_same (G _).out)); clear hK K))
    with_reducible refine wpQuiet_nil ?_
    intro _ hw'
    obtain ⟨pq, hw''⟩ := hw'
    subst hw''
    have h2 := blk_below h pq.h
    have hb2 := pq.h
    generalize pq.v = w2 at *
    have d0 : w2.cell? ⟨r, 0, none⟩ = some (.slice A n cap) := cell_blk h2 0
    have d1 : w2.cell? ⟨r, 1, none⟩ = some (i64 a) := cell_blk h2 1
    have d2 : w2.cell? ⟨r, 2, none⟩ = some (i64 (0 : Nat)) := cell_blk h2 2
    have df := fun o => frozen_blk h2 o
    clear c0 c1 c2 hf k0 k1 G
    go_wp2_with fail
    go_ret
    have h3 := heap_setCell (heap_setCell h2 1 (.int .i64 (q1 : Int))) 2 (.int .i64 (q2 : Int))
    refine ⟨rfl, by simpa using h3, ?_⟩
    exact grown_setCell (grown_setCell (grown_of_below _ hb2) _ _) _ _
  · have hv : pTxt l most a e = ([], a, e) := if_neg he
    rw [hv]
    have t1 : ((e : Int) != 0) = true := by rw [bne_iff_ne]; omega
    clear hv he
    go_enter Tryd.func34, Tryd.ntmps34
    go_wp2_with fail
    go_ret
    exact ⟨rfl, h, grown_same _ _⟩
end Go.Proofs.YteieaelinkdahaaDoor
