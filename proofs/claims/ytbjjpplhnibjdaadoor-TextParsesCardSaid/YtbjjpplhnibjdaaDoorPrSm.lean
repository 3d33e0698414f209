/- Great, small, Same, Part. -/
import Derived.Test.YtbjjpplhnibjdaaDoorPr3
namespace Go.Proofs.YtbjjpplhnibjdaaDoor
open Go Go.RowKit

def greatB (a b m : Nat) : Bool := decide (600 < a) || decide (600 < b) || decide (1500 < m)
set_option maxHeartbeats 4000000 in
set_option maxRecDepth 100000 in
theorem great_any (k : Nat) (s1 s2 : ByteArray) (h f n : Int) (A : Option Addr) (m c : Nat) (w : World) :
    Makes 8 #[.agg #[bv k, .string s1, .string s2, i64 h, i64 f, i64 n, .slice A m c]] w (.bool (greatB s1.size s2.size m)) := by
  unfold greatB
  go_enter Tryd.func8, Tryd.ntmps8
  go_wp2_with fail
  all_goals
    go_ret
    refine ⟨retB ?_, Base.al (Below.refl _ w) _⟩
    rw [Bool.eq_iff_iff]
    first | (simp; omega) | simp | omega

def smallB (n : Int) : Bool := decide (-4611686018427387904 ≤ n) && decide (n ≤ 4611686018427387904)
set_option maxHeartbeats 4000000 in
set_option maxRecDepth 100000 in
theorem small_any (n : Int) (w : World) : Gives 14 #[i64 n] w (.bool (smallB n)) := by
  unfold smallB
  go_enter Tryd.func14, Tryd.ntmps14
  go_wp2_with fail
  all_goals
    go_ret
    refine ⟨retB ?_, rfl⟩
    rw [Bool.eq_iff_iff]
    first | (simp; omega) | simp | omega

set_option maxHeartbeats 8000000 in
set_option maxRecDepth 100000 in
theorem same_refl (o : OpT) (v1 v2 : Value) (w : World) (s1 : ∃ A n c, v1 = .slice A n c) (h1 : Byt w v1 o.data) (s2 : ∃ A n c, v2 = .slice A n c) (h2 : Byt w v2 o.data) :
    Makes 15 #[.agg (o.cells v1), .agg (o.cells v2)] w (.bool true) := by
  have C1 := fun W (hb : Below w.heap.size w W) => Lib.hid (conv_slice s1 (Sl.below h1 hb))
  have C2 := fun W (hb : Below w.heap.size w W) => Lib.hid (conv_slice s2 (Sl.below h2 hb))
  clear h1 h2 s1 s2
  have hb := Base.al (Base.al (Below.refl _ w) (.cells (o.cells v1) 25)) (.cells (o.cells v2) 25)
  have c1 := (C1 _ hb).out
  have c2 := (C2 _ hb).out
  have HB := Lib.hid hb
  clear hb C1 C2
  unfold OpT.cells at c1 c2 ⊢
  have t0 : ((o.kind : Int) == (o.kind : Int)) = true := beq_self_eq_true _
  go_enter Tryd.func15, Tryd.ntmps15
  go_wp2_with fail
  go_ret
  exact ⟨rfl, HB.out⟩
end Go.Proofs.YtbjjpplhnibjdaaDoor

/- flintref26.Part: the fields that a kind names. -/
namespace Go.Proofs.YtbjjpplhnibjdaaDoor
open Go Go.RowKit

def partT (o : OpT) : OpT :=
  { kind := o.kind, path := if 0 < (hasT o.kind).1 then o.path else [], other := if 1 < (hasT o.kind).1 then o.other else [], handle := if (hasT o.kind).2.1 then o.handle else 0, from_ := if (hasT o.kind).2.2.1 then o.from_ else 0, n := if (hasT o.kind).2.2.2.1 then o.n else 0, data := if (hasT o.kind).2.2.2.2 then o.data else [] }
def partV (o : OpT) (v : Value) : Value := if (hasT o.kind).2.2.2.2 then v else .slice none 0 0
theorem class_all (k : Nat) : (hasT k) = (1, false, false, false, false) ∨ (hasT k) = (2, false, false, false, false) ∨ (hasT k) = (0, true, false, false, false) ∨ (hasT k) = (0, true, true, true, false) ∨ (hasT k) = (0, true, true, false, true) ∨ (hasT k) = (0, true, false, true, false) ∨ (hasT k) = (0, false, false, false, false) := by
  unfold hasT
  repeat (split; · simp)
  simp

set_option maxHeartbeats 16000000 in
set_option maxRecDepth 100000 in
theorem part_any (o : OpT) (v : Value) (w : World) (hv : ∃ A n c, v = .slice A n c) : Makes 13 #[.agg (o.cells v)] w (.agg ((partT o).cells (partV o v))) := by
  have GH := fun W => Lib.hid (has_any o.kind W)
  have hc := class_all o.kind
  unfold partT partV
  obtain ⟨A, n, c, rfl⟩ := hv
  generalize hasT o.kind = hs at *
  unfold OpT.cells
  rcases hc with rfl | rfl | rfl | rfl | rfl | rfl | rfl
  all_goals
    go_enter Tryd.func13, Tryd.ntmps13
    go_wp2_with fail
    refine (GH _).out.mono ?_; rintro e1 w1 ⟨rfl, rfl⟩
    unfold hasV
    go_wp2_with fail
    exact bodyPost_ret (v := _) (by simp [results, Tryd.results13, go_sem, toB_nil]) rfl ⟨rfl, Base.al (Base.al (Base.al (Below.refl _ w) _) _) _⟩
end Go.Proofs.YtbjjpplhnibjdaaDoor

