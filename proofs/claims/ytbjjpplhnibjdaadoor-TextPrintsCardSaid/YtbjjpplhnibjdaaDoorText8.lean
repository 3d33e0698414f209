/- text.Parse: what is thrown is caught. -/
import Derived.Test.YtbjjpplhnibjdaaDoorText7
import Derived.Defers
import Derived.Recover
namespace Go.Proofs.YtbjjpplhnibjdaaDoor
open Go Go.RowKit

def tParse (l : List Nat) : Except Nat OpT := if 8192 < l.length then .error 4 else tOp l
abbrev noOp : List Value := [.int .u8 0, .string ByteArray.empty, .string ByteArray.empty, .int .i64 0, .int .i64 0, .int .i64 0, .slice none 0 0]

set_option maxHeartbeats 2000000 in
set_option maxRecDepth 100000 in
theorem catch_idle (p q : Addr) (w : World) :
    CallsD Tryd.prog 17 #[.pointer (some p), .pointer (some q)] .returning w fun e u' w' => e = .returned (.tuple #[]) ∧ u' = .returning ∧ w' = w := by
  refine callsD_of_wpS Tryd.func17 rfl fun c₀ cs hu => ?_
  apply wpS_seq
  apply wpS_region
  simp only [Tryd.ntmps17, List.size_toArray, List.length_cons, List.length_nil, Nat.reduceAdd, Nat.reduceSub, Array.replicate_succ, Array.replicate_zero, List.push_toArray, List.append_toArray, List.nil_append, List.cons_append]
  simp [wpOpsS, go_sem, recoverD, hu, Exit.thenS]
  refine wpS_of_wp ?_
  go_wp2
  simp [bodyPostS, results, Tryd.results17]
  cases c₀
  simp only at hu
  subst hu
  rfl

set_option maxHeartbeats 2000000 in
set_option maxRecDepth 100000 in
theorem catch_panic (P Q k : Nat) (w : World) (hP : w.heap[P]? = some (.cells noOp.toArray 25 (0, 0))) (hQ : w.heap[Q]? = some (.cells #[i64 0] 26 (0, 0))) (hne : P ≠ Q) :
    CallsD Tryd.prog 17 #[.pointer (some ⟨P, 0, none⟩), .pointer (some ⟨Q, 0, none⟩)] (.panicking (thrown k)) w fun e u' w' =>
      e = .returned (.tuple #[]) ∧ u' = .panicking [{ v := .iface 44 (i64 k), recovered := true }] ∧ w' = (sets w P 0 noOp).setCell ⟨Q, 0, none⟩ (i64 k) := by
  have p0 := cell_blk hP 0
  have p1 := cell_blk hP 1
  have p2 := cell_blk hP 2
  have p3 := cell_blk hP 3
  have p4 := cell_blk hP 4
  have p5 := cell_blk hP 5
  have p6 := cell_blk hP 6
  have q0 : w.cell? ⟨Q, 0, none⟩ = some (i64 0) := cell_blk hQ 0
  have fP := fun o => frozen_blk hP o
  have fQ := fun o => frozen_blk hQ o
  have hne2 := hne.symm
  have hta : ∀ W, (Instr.typeAssert (.iface 44 (i64 k)) 20 44 true).run Tryd.prog W = .ok (.tuple #[i64 k, .bool true]) W := fun W => by
    simp [Instr.typeAssert, run_underlying Tryd.underlying44]
  refine callsD_of_wpS Tryd.func17 rfl fun c₀ cs hu => ?_
  apply wpS_seq
  apply wpS_region
  simp only [Tryd.ntmps17, List.size_toArray, List.length_cons, List.length_nil, Nat.reduceAdd, Nat.reduceSub, Array.replicate_succ, Array.replicate_zero, List.push_toArray, List.append_toArray, List.nil_append, List.cons_append]
  simp [wpOpsS, go_sem, recoverD, hu, Exit.thenS]
  refine wpS_of_wp ?_
  go_wp2
  change bodyPostS _ _ _ _ _ _ _ _ ((sets w P 0 noOp).setCell ⟨Q, 0, none⟩ (i64 k))
  generalize ((sets w P 0 noOp).setCell ⟨Q, 0, none⟩ (i64 k)) = W
  simp [bodyPostS, results, Tryd.results17]
/-- What a line is. -/
def ParsePost (w : World) (x : Except Nat OpT) (e : Ending) (w' : World) : Prop :=
  match x with
  | .ok o => ∃ v, e = .returned (.tuple #[.agg (o.cells v), i64 0]) ∧ w'.ownsRow w.heap.size 5 1 v o.data.length (o.data.map bv) ∧ Below w.heap.size w w'
  | .error k => e = .returned (.tuple #[.agg ((zeroT 0).cells (.slice none 0 0)), i64 k]) ∧ Below w.heap.size w w'

set_option maxHeartbeats 4000000 in
set_option maxRecDepth 100000 in
theorem parse_any (s : ByteArray) (w : World) (hw : WordsIn w) (hsz : s.size ≤ 100000) : Calls Tryd.prog 6 #[.string s] w (ParsePost w (tParse (sb s))) := by
  have hmf : ∀ (fn : Fn) (first cap : Array Value) (w : World), (Instr.makeFunc fn first cap).run Tryd.prog w = .ok (.func fn first cap) w := fun _ _ _ _ => rfl
  unfold tParse
  rw [sb_len]
  by_cases hl : 8192 < s.size
  · rw [if_pos hl]
    have t1 : decide ((8192 : Int) < (s.size : Int)) = true := decide_eq_true (by omega)
    clear hl
    go_enter_defers Tryd.func6, Tryd.ntmps6
    go_wp2_with fail
    simp [bodyPostD, Leaves, settle, results, Tryd.results6, go_sem]
    exact ⟨rfl, Base.al (Base.al (Below.refl _ _) _) _⟩
  · rw [if_neg hl]
    have t1 : decide ((8192 : Int) < (s.size : Int)) = false := decide_eq_false (by omega)
    have hm : s.size ≤ 50000 := by omega
    have GO := fun W r h' hW hr => Lib.hid (op_any r s W h' hW hr hm)
    clear hl
    go_enter_defers Tryd.func6, Tryd.ntmps6
    go_wp2_with fail
    have hr : RdT (((w.alloc (.cells #[.int .u8 0, .string ByteArray.empty, .string ByteArray.empty, .int .i64 0, .int .i64 0, .int .i64 0, .slice none 0 0] 25)).alloc (.cells #[.int .i64 0] 26)).alloc (.cells #[.string s, .int .i64 0] 48)) (w.heap.size + 1 + 1) s 0 := blk_new2 w _ _ _
    have hP := blk_old (x := .cells #[.string s, .int .i64 0] 48) (blk_old (x := .cells #[.int .i64 0] 26) (blk_new w (.cells #[.int .u8 0, .string ByteArray.empty, .string ByteArray.empty, .int .i64 0, .int .i64 0, .int .i64 0, .slice none 0 0] 25)))
    have hQ := blk_old (x := .cells #[.string s, .int .i64 0] 48) (blk_new1 w (.cells #[.int .u8 0, .string ByteArray.empty, .string ByteArray.empty, .int .i64 0, .int .i64 0, .int .i64 0, .slice none 0 0] 25) (.cells #[.int .i64 0] 26))
    have hb3 : Below w.heap.size w (((w.alloc (.cells #[.int .u8 0, .string ByteArray.empty, .string ByteArray.empty, .int .i64 0, .int .i64 0, .int .i64 0, .slice none 0 0] 25)).alloc (.cells #[.int .i64 0] 26)).alloc (.cells #[.string s, .int .i64 0] 48)) := Base.al (Base.al (Base.al (Below.refl _ _) _) _) _
    change Calls _ _ _ (((w.alloc (.cells #[.int .u8 0, .string ByteArray.empty, .string ByteArray.empty, .int .i64 0, .int .i64 0, .int .i64 0, .slice none 0 0] 25)).alloc (.cells #[.int .i64 0] 26)).alloc (.cells #[.string s, .int .i64 0] 48)) _
    have hw3 := hw.below hb3
    generalize (((w.alloc (.cells #[.int .u8 0, .string ByteArray.empty, .string ByteArray.empty, .int .i64 0, .int .i64 0, .int .i64 0, .slice none 0 0] 25)).alloc (.cells #[.int .i64 0] 26)).alloc (.cells #[.string s, .int .i64 0] 48)) = w3 at *
    have G1 := GO w3 _ hr hw3 (by omega)
    have hsz3 := (Array.getElem?_eq_some_iff.1 hr).1
    clear GO hw3 hw
    cases hx : tOp (sb s) with
    | ok o =>
      rw [hx] at G1
      refine G1.out.mono ?_; rintro e1 w1 ⟨v, rfl, hown, hg1⟩
      have kP := (hg1.block w.heap.size (by omega) (fun e => by injection e with e; omega)).trans hP
      have kQ := (hg1.block (w.heap.size + 1) (by omega) (fun e => by injection e with e; omega)).trans hQ
      have hb1 := Base.gr hb3 hg1 (fun g hg => by injection hg with hg; omega)
      obtain ⟨A, c, rfl⟩ := own_val3 hown
      have hown1 : w1.ownsRow (w.heap.size + 1 + 1) 5 1 (.slice A o.data.length c) o.data.length (o.data.map bv) := own_base hown (by omega)
      have f0 := fun o => frozen_blk kP o
      have f1 := fun o => frozen_blk kQ o
      have p0 := cell_blk kP 0
      have p1 := cell_blk kP 1
      have p2 := cell_blk kP 2
      have p3 := cell_blk kP 3
      have p4 := cell_blk kP 4
      have p5 := cell_blk kP 5
      have p6 := cell_blk kP 6
      have q0 := cell_blk kQ 0
      unfold OpT.cells
      have HX := Lib.hid hx
      clear hx G1 hown hg1 hP hQ hr hb3 hsz3
      go_wp2_with fail
      change bodyPostD _ _ _ _ _ ((sets w1 w.heap.size 0 [bv o.kind, .string (toB o.path), .string (toB o.other), i64 o.handle, i64 o.from_, i64 o.n, .slice A o.data.length c]).setCell ⟨w.heap.size + 1, 0, none⟩ (.int .i64 0))
      have eP := blk_set (sets_at kP [bv o.kind, .string (toB o.path), .string (toB o.other), i64 o.handle, i64 o.from_, i64 o.n, .slice A o.data.length c] rfl) (k := w.heap.size + 1) 0 (.int .i64 0) (by omega)
      have eQ := heap_setCell (sets_old (g := w.heap.size) (by omega) [bv o.kind, .string (toB o.path), .string (toB o.other), i64 o.handle, i64 o.from_, i64 o.n, .slice A o.data.length c] w1 0 kQ) 0 (.int .i64 0)
      have o7 : ((sets w1 w.heap.size 0 [bv o.kind, .string (toB o.path), .string (toB o.other), i64 o.handle, i64 o.from_, i64 o.n, .slice A o.data.length c]).setCell ⟨w.heap.size + 1, 0, none⟩ (.int .i64 0)).ownsRow w.heap.size 5 1 (.slice A o.data.length c) o.data.length (o.data.map bv) := own_base (own_keepG hown1 fun g x hb hx => blk_set (sets_old (by omega) _ _ _ hx) _ _ (by omega)) (by omega)
      have b7 := Base.st (sets_below (a := w) (Nat.le_refl _) [bv o.kind, .string (toB o.path), .string (toB o.other), i64 o.handle, i64 o.from_, i64 o.n, .slice A o.data.length c] w1 0 hb1) (g := w.heap.size + 1) (Nat.le_succ _) 0 (.int .i64 0)
      generalize ((sets w1 w.heap.size 0 [bv o.kind, .string (toB o.path), .string (toB o.other), i64 o.handle, i64 o.from_, i64 o.n, .slice A o.data.length c]).setCell ⟨w.heap.size + 1, 0, none⟩ (.int .i64 0)) = y at *
      have c0 := cell_blk eP 0
      have c1 := cell_blk eP 1
      have c2 := cell_blk eP 2
      have c3 := cell_blk eP 3
      have c4 := cell_blk eP 4
      have c5 := cell_blk eP 5
      have c6 := cell_blk eP 6
      have c7 : y.cell? ⟨w.heap.size + 1, 0, none⟩ = some (.int .i64 0) := cell_blk eQ 0
      refine leaves_cons (f := 17) (args := #[.pointer (some ⟨w.heap.size, 0, none⟩), .pointer (some ⟨w.heap.size + 1, 0, none⟩)]) (by simp) (by simp [go_sem]) ?_
      refine (catch_idle _ _ _).mono ?_; rintro e u' w'' ⟨rfl, rfl, rfl⟩
      rw [HX.out]
      simp [Leaves, settle, results, Tryd.results6, go_sem, c0, c1, c2, c3, c4, c5, c6, c7]
      exact ⟨_, rfl, o7, b7⟩
    | error k =>
      rw [hx] at G1
      refine G1.out.mono ?_; rintro e1 w1 ⟨rfl, hg1⟩
      have kP := (hg1.block w.heap.size (by omega) (fun e => by injection e with e; omega)).trans hP
      have kQ := (hg1.block (w.heap.size + 1) (by omega) (fun e => by injection e with e; omega)).trans hQ
      have hb1 := Base.gr hb3 hg1 (fun g hg => by injection hg with hg; omega)
      have HX := Lib.hid hx
      clear hx G1 hg1 hP hQ hr hb3 hsz3
      go_wp2_with fail
      refine leaves_cons (f := 17) (args := #[.pointer (some ⟨w.heap.size, 0, none⟩), .pointer (some ⟨w.heap.size + 1, 0, none⟩)]) (by simp) (by simp [go_sem]) ?_
      refine (catch_panic w.heap.size (w.heap.size + 1) k w1 kP kQ (by omega)).mono ?_; rintro e u' w'' ⟨rfl, rfl, rfl⟩
      have eP := blk_set (sets_at kP noOp rfl) (k := w.heap.size + 1) 0 (i64 k) (by omega)
      have eQ := heap_setCell (sets_old (g := w.heap.size) (by omega) noOp w1 0 kQ) 0 (i64 k)
      have b7 := Base.st (sets_below (a := w) (Nat.le_refl _) noOp w1 0 hb1) (g := w.heap.size + 1) (Nat.le_succ _) 0 (i64 k)
      generalize ((sets w1 w.heap.size 0 noOp).setCell ⟨w.heap.size + 1, 0, none⟩ (i64 k)) = y at *
      have c0 := cell_blk eP 0
      have c1 := cell_blk eP 1
      have c2 := cell_blk eP 2
      have c3 := cell_blk eP 3
      have c4 := cell_blk eP 4
      have c5 := cell_blk eP 5
      have c6 := cell_blk eP 6
      have c7 : y.cell? ⟨w.heap.size + 1, 0, none⟩ = some (i64 k) := cell_blk eQ 0
      simp [Leaves, settle, results, Tryd.results6, go_sem, c0, c1, c2, c3, c4, c5, c6, c7]
      exact ⟨rfl, b7⟩
end Go.Proofs.YtbjjpplhnibjdaaDoor
