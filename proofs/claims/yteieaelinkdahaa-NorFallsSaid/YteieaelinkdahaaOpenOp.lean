/- An operation of the law, as an argument. -/
import Derived.Test.YteieaelinkdahaaNorCN
import Derived.Test.YteieaelinkdahaaFlat
namespace Go.Proofs.Yteieaelinkdahaa
open Go Go.ChangeShapes Go.WideShapes Go.ChangeAt Go.RowKit Go.Deep

section
variable {H : Type} {enc : TypeId × Value → H} {P : Program} {w : World} {base : Nat} {spare : Nat → Bool} {held : Bool}
/-- A struct that came in. -/
theorem open_flat_struct {r : Reach} {b0 : Nat} {t : TypeId} {n : Nat} {fs : Array Field} {ls : List Leaf} {v : Value} {d : DataW H} {ps : List MemPlace} (ht : P.underlying t = some (.struct fs)) (hfl : flat P n t = some ls)
    (hval : Value.okWide P w r b0 t v) (hd : DataW.Trod enc P w base spare held t v d ps) : ∃ cs : Array Value, v = .agg cs ∧ leaves enc P w base spare held ls cs.toList := by
  unfold Value.okWide at hval
  rw [ht] at hval
  obtain ⟨cs, rfl, _, _⟩ := hval
  obtain ⟨fuel, h⟩ := hd
  exact ⟨cs, rfl, trod_flat n t ls _ _ _ hfl h⟩
end

section
variable {H : Type} {enc : TypeId × Value → H} {w : World} {spare : Nat → Bool} {held : Bool}
def opLeaves : List Leaf := [.int .i64, .int .i64, .int .i64, .sl 22, .int .i64, .int .i64, .int .u8]
set_option maxRecDepth 100000 in
/-- Bytes that came in. -/
theorem leaf_bytes {c : Value} (h : leafOk enc Try.prog w 0 spare held (.sl 22) c) : ∃ (A : Option Addr) (n cap : Nat) (l : List Nat), c = .slice A n cap ∧ Byt w (.slice A n cap) l ∧ ∀ x ∈ l, x < 256 := by
  obtain ⟨m, y, hy⟩ := h
  obtain ⟨rows, hsl, hlv, _, A, cap, rfl⟩ := open_flat (n := 2) (k := 1) (ls := [.int .u8]) Try.underlying22 (by kernel_rfl) rfl (by kernel_rfl) (by decide) hy
  obtain ⟨l, hl, hG⟩ := rows_of (α := Nat) (row := fun x => [bv x]) (G := fun x => x < 256) (Q := fun r => leaves enc Try.prog w 0 spare held [.int .u8] r) (by
    intro r hr
    obtain ⟨_, r1, rfl, ⟨a, rfl, ha⟩, q1⟩ := leaves_cons hr
    obtain rfl := leaves_nil q1
    have h2 : 0 ≤ a ∧ a ≤ 255 := by simp [Lit.wf] at ha; exact ha
    refine ⟨a.toNat, ?_, by omega⟩
    show [Value.int .u8 a] = [Value.int .u8 (a.toNat : Int)]
    rw [show (a.toNat : Int) = a by omega]) rows hlv
  subst hl
  exact ⟨A, _, cap, l, rfl, hsl, hG⟩
set_option maxRecDepth 100000 in
theorem leaf_op {r : List Value} (h : leaves enc Try.prog w 0 spare held opLeaves r) :
    ∃ (o : OpV) (l : List Nat), r = o.row ∧ Byt w (.slice o.A o.bn o.bc) l ∧ (∀ x ∈ l, x < 256) ∧ o.mask < 256 ∧ (-9223372036854775808 ≤ o.n ∧ o.n ≤ 9223372036854775807) ∧ (-9223372036854775808 ≤ o.k ∧ o.k ≤ 9223372036854775807) ∧ (-9223372036854775808 ≤ o.sector ∧ o.sector ≤ 9223372036854775807) ∧ (-9223372036854775808 ≤ o.offset ∧ o.offset ≤ 9223372036854775807) := by
  obtain ⟨_, r1, rfl, ⟨a, rfl, ha⟩, q1⟩ := leaves_cons h
  obtain ⟨_, r2, rfl, ⟨b, rfl, hb⟩, q2⟩ := leaves_cons q1
  obtain ⟨_, r3, rfl, ⟨c, rfl, hc⟩, q3⟩ := leaves_cons q2
  obtain ⟨_, r4, rfl, hd, q4⟩ := leaves_cons q3
  obtain ⟨_, r5, rfl, ⟨e, rfl, he⟩, q5⟩ := leaves_cons q4
  obtain ⟨_, r6, rfl, ⟨f, rfl, hf⟩, q6⟩ := leaves_cons q5
  obtain ⟨_, r7, rfl, ⟨g, rfl, hg⟩, q7⟩ := leaves_cons q6
  obtain rfl := leaves_nil q7
  obtain ⟨A, n, cap, l, rfl, hy, h8⟩ := leaf_bytes hd
  have w64 : ∀ {x : Int}, (Lit.int .i64 x).wf = true → -9223372036854775808 ≤ x ∧ x ≤ 9223372036854775807 := by
    intro x hx
    simp [Lit.wf] at hx
    exact hx
  have h2 : 0 ≤ g ∧ g ≤ 255 := by simp [Lit.wf] at hg; exact hg
  refine ⟨⟨a, b, c, A, n, cap, e, f, g.toNat⟩, l, ?_, hy, h8, by show g.toNat < 256; omega, w64 he, w64 hf, w64 hb, w64 hc⟩
  show _ = [i64 a, i64 b, i64 c, .slice A n cap, i64 e, i64 f, Value.int .u8 (g.toNat : Int)]
  rw [show (g.toNat : Int) = g by omega]
end
end Go.Proofs.Yteieaelinkdahaa
