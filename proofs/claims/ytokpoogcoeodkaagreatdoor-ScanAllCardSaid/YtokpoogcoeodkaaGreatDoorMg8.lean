/- ring.Put. -/
import Derived.Test.YtokpoogcoeodkaaGreatDoorPackR
namespace Go.Proofs.YtokpoogcoeodkaaGreatDoor
open Go.RowKit Flo
attribute [local go_sem] run_store_complex

/-- An item's bytes. -/
def headIt (seq ver idx cnt s o : Nat) (gone : Bool) : List Nat := be 8 seq ++ be 8 ver ++ [idx, cnt, s, o / 256, o % 256, if gone then 1 else 0]
def itemB (seq ver idx cnt s o : Nat) (gone : Bool) (k v : ByteArray) : List Nat := headIt seq ver idx cnt s o gone ++ k.size :: sb k ++ v.size :: sb v
/-- An item that may be, in plain numbers. -/
structure Plain (x : Item) (seq ver idx cnt s o : Nat) : Prop where
  hseq : x.seq = seq
  hver : x.ver = ver
  hidx : x.index = idx
  hcnt : x.count = cnt
  hs : part? x.a = some s
  ho : part? x.b = some o
  seq2 : seq < 2 ^ 64
  ver2 : ver < 2 ^ 64
  cnt1 : 1 ≤ cnt
  cnt2 : cnt ≤ 255
  idx1 : idx < cnt
  s2 : s ≤ 254
  o2 : o ≤ 65535
  key1 : x.key.toList ≠ []
  key2 : x.key.size ≤ 48
  val2 : x.value.size ≤ 64
  gone1 : x.gone = false ∨ x.value.toList = []
theorem plain_of {x : Item} (h : mayB x = true) (h1 : 0 ≤ x.seq) (h2 : x.seq < 2 ^ 64) (h3 : 0 ≤ x.ver) (h4 : x.ver < 2 ^ 64) : ∃ seq ver idx cnt s o, Plain x seq ver idx cnt s o := by
  rw [mayB_rest, Bool.and_eq_true] at h
  obtain ⟨hp, hr⟩ := h
  obtain ⟨⟨c1, c2, c3, c4⟩, c5, c6, c7, c8⟩ := (restB_iff x).1 hr
  unfold placeOk parts? at hp
  cases ha : part? x.a with
  | none => rw [ha] at hp; cases hp
  | some s =>
    cases hb : part? x.b with
    | none => rw [ha, hb] at hp; cases hp
    | some o =>
      rw [ha, hb] at hp
      have hso : s ≤ 254 ∧ o ≤ 65535 := by simpa using hp
      exact ⟨x.seq.toNat, x.ver.toNat, x.index.toNat, x.count.toNat, s, o, by omega, by omega, by omega, by omega, ha, hb, by omega, by omega, by omega, by omega, by omega, hso.1, hso.2, c5, by omega, by omega, c8⟩

theorem cell_drew (w : World) (a : Addr) : w.drew.cell? a = w.cell? a := rfl

end Go.Proofs.YtokpoogcoeodkaaGreatDoor

/- The reader of package ring: numbers and texts, errors stay. -/
namespace Go.Proofs.YtokpoogcoeodkaaGreatDoor
open Go.RowKit Flo

/-- A reader that stands at a, with error e. -/
abbrev RdAt (w : World) (r : Nat) (v : Value) (a e : Nat) : Prop := w.heap[r]? = some (.cells #[v, i64 a, i64 e] 142 (0, 0))
def pNum (l : List Nat) (k a e : Nat) : Nat × Nat × Nat := if e = 0 then pGet l a k else (0, a, e)
def pTxt (l : List Nat) (most a e : Nat) : List Nat × Nat × Nat := if e = 0 then pText l a most else ([], a, e)

set_option maxHeartbeats 4000000 in
set_option maxRecDepth 100000 in
theorem number_any (r : Nat) (A : Option Addr) (n cap : Nat) (l : List Nat) (k a e : Nat) (w : World) (h : RdAt w r (.slice A n cap) a e) (hy : Byt w (.slice A n cap) l) (hl : ∀ b ∈ l, b < 256) (ha : a ≤ l.length) (hk : 1 ≤ k) (hk2 : k ≤ 8) (hm : l.length ≤ 100000) :
    Calls Tryz.prog 78 #[.pointer (some ⟨r, 0, none⟩), i64 k] w fun en w' => en = .returned (.int .u64 (pNum l k a e).1) ∧ RdAt w' r (.slice A n cap) (pNum l k a e).2.1 (pNum l k a e).2.2 ∧ w.grownBy w' (some r) := by
  have c0 : w.cell? ⟨r, 0, none⟩ = some (.slice A n cap) := cell_blk h 0
  have c1 : w.cell? ⟨r, 1, none⟩ = some (i64 a) := cell_blk h 1
  have c2 : w.cell? ⟨r, 2, none⟩ = some (i64 e) := cell_blk h 2
  have hf := fun o => frozen_blk h o
  have hr : r < w.heap.size := (Array.getElem?_eq_some_iff.1 h).1
  by_cases he : e = 0
  · have hv : pNum l k a e = pGet l a k := if_pos he
    rw [hv]
    have G := fun p : OnOf w => Lib.hid (pkGet_any A n cap l a k p.v (Sl.below hy p.h) hl ha hk hk2 hm)
    generalize pGet l a k = q at *
    obtain ⟨q0, q1, q2⟩ := q
    simp only at G ⊢
    subst he
    clear hv
    go_enter Tryz.func78, Tryz.ntmps78
    go_wp2_with fail
    have k0 := fun p => on_cell (w := w) hr c0 p
    have k1 := fun p => on_cell (w := w) hr c1 p
    refine wp_region_quiet_on (by kernel_rfl) (by kernel_rfl) ?_
    repeat ((with_reducible refine wpQuiet_step (fun K hK => ?_)); go_simp; first | ((with_reducible refine hK _ ?_); clear hK K) | (rw [if_neg (by intro h; cases h)]; (with_reducible refine hK _ ?_); clear hK K) | (apply Exists.intro; refine ⟨fun _ => ?_, hK _ ?_⟩; ((with_reducible exact on_of_same (G _).out)); clear hK K))
    with_reducible refine wpQuiet_nil ?_
    intro _ hw'
    obtain ⟨pq, hw''⟩ := hw'
    subst hw''
    have h2 := blk_below h pq.h
    have hb2 := pq.h
    generalize pq.v = w2 at *
    have d0 : w2.cell? ⟨r, 0, none⟩ = some (.slice A n cap) := cell_blk h2 0
    have d1 : w2.cell? ⟨r, 1, none⟩ = some (i64 a) := cell_blk h2 1
    have d2 : w2.cell? ⟨r, 2, none⟩ = some (i64 (0 : Nat)) := cell_blk h2 2
    have df := fun o => frozen_blk h2 o
    clear c0 c1 c2 hf k0 k1 G
    go_wp2_with fail
    go_ret
    have h3 := heap_setCell (heap_setCell h2 1 (.int .i64 (q1 : Int))) 2 (.int .i64 (q2 : Int))
    refine ⟨rfl, by simpa using h3, ?_⟩
    exact grown_setCell (grown_setCell (grown_of_below _ hb2) _ _) _ _
  · have hv : pNum l k a e = (0, a, e) := if_neg he
    rw [hv]
    have t1 : ((e : Int) != 0) = true := by rw [bne_iff_ne]; omega
    clear hv he
    go_enter Tryz.func78, Tryz.ntmps78
    go_wp2_with fail
    go_ret
    exact ⟨rfl, h, grown_same _ _⟩

set_option maxHeartbeats 4000000 in
set_option maxRecDepth 100000 in
theorem text_any (r : Nat) (A : Option Addr) (n cap : Nat) (l : List Nat) (most a e : Nat) (w : World) (h : RdAt w r (.slice A n cap) a e) (hy : Byt w (.slice A n cap) l) (hl : ∀ b ∈ l, b < 256) (ha : a ≤ l.length) (hm : l.length ≤ 100000) :
    Calls Tryz.prog 80 #[.pointer (some ⟨r, 0, none⟩), i64 most] w fun en w' => en = .returned (.string (toB (pTxt l most a e).1)) ∧ RdAt w' r (.slice A n cap) (pTxt l most a e).2.1 (pTxt l most a e).2.2 ∧ w.grownBy w' (some r) := by
  have c0 : w.cell? ⟨r, 0, none⟩ = some (.slice A n cap) := cell_blk h 0
  have c1 : w.cell? ⟨r, 1, none⟩ = some (i64 a) := cell_blk h 1
  have c2 : w.cell? ⟨r, 2, none⟩ = some (i64 e) := cell_blk h 2
  have hf := fun o => frozen_blk h o
  have hr : r < w.heap.size := (Array.getElem?_eq_some_iff.1 h).1
  by_cases he : e = 0
  · have hv : pTxt l most a e = pText l a most := if_pos he
    rw [hv]
    have G := fun p : OnOf w => Lib.hid (pkText_any A n cap l a most p.v (Sl.below hy p.h) hl ha hm)
    generalize pText l a most = q at *
    obtain ⟨q0, q1, q2⟩ := q
    simp only at G ⊢
    subst he
    clear hv
    go_enter Tryz.func80, Tryz.ntmps80
    go_wp2_with fail
    have k0 := fun p => on_cell (w := w) hr c0 p
    have k1 := fun p => on_cell (w := w) hr c1 p
    refine wp_region_quiet_on (by kernel_rfl) (by kernel_rfl) ?_
    repeat ((with_reducible refine wpQuiet_step (fun K hK => ?_)); go_simp; first | ((with_reducible refine hK _ ?_); clear hK K) | (rw [if_neg (by intro h; cases h)]; (with_reducible refine hK _ ?_); clear hK K) | (apply Exists.intro; refine ⟨fun _ => ?_, hK _ ?_⟩; ((with_reducible exact on_of_same (G _).out)); clear hK K))
    with_reducible refine wpQuiet_nil ?_
    intro _ hw'
    obtain ⟨pq, hw''⟩ := hw'
    subst hw''
    have h2 := blk_below h pq.h
    have hb2 := pq.h
    generalize pq.v = w2 at *
    have d0 : w2.cell? ⟨r, 0, none⟩ = some (.slice A n cap) := cell_blk h2 0
    have d1 : w2.cell? ⟨r, 1, none⟩ = some (i64 a) := cell_blk h2 1
    have d2 : w2.cell? ⟨r, 2, none⟩ = some (i64 (0 : Nat)) := cell_blk h2 2
    have df := fun o => frozen_blk h2 o
    clear c0 c1 c2 hf k0 k1 G
    go_wp2_with fail
    go_ret
    have h3 := heap_setCell (heap_setCell h2 1 (.int .i64 (q1 : Int))) 2 (.int .i64 (q2 : Int))
    refine ⟨rfl, by simpa using h3, ?_⟩
    exact grown_setCell (grown_setCell (grown_of_below _ hb2) _ _) _ _
  · have hv : pTxt l most a e = ([], a, e) := if_neg he
    rw [hv]
    have t1 : ((e : Int) != 0) = true := by rw [bne_iff_ne]; omega
    clear hv he
    go_enter Tryz.func80, Tryz.ntmps80
    go_wp2_with fail
    go_ret
    exact ⟨rfl, h, grown_same _ _⟩
end Go.Proofs.YtokpoogcoeodkaaGreatDoor

