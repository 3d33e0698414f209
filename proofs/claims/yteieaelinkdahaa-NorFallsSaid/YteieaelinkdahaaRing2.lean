/- ring.Link. -/
import Derived.Test.YteieaelinkdahaaRing
namespace Go.Proofs.Yteieaelinkdahaa
open Go.RowKit Flo

structure Pair where
  key : ByteArray
  value : ByteArray
  gone : Bool
abbrev Pair.row (p : Pair) : List Value := [.string p.key, .string p.value, .bool p.gone]
instance : Inhabited Pair := ⟨⟨ByteArray.empty, ByteArray.empty, false⟩⟩
abbrev Pairs (w : World) (v : Value) (l : List Pair) : Prop := Sl w 3 v (l.map Pair.row)
abbrev U64s (w : World) (v : Value) (l : List Int) : Prop := Sl w 1 v (l.map fun n => [Value.int .u64 n])
abbrev Places (w : World) (v : Value) (l : List (Nat × Nat)) : Prop := Sl w 1 v (l.map fun p => [cx p.1 p.2])

/-- The item number k of a ring. -/
def linkItem (seq : Int) (l : List Pair) (vers : List Int) (ps : List (Nat × Nat)) (k : Nat) : Item :=
  ⟨seq, vers.getD k 0, k, l.length, (ps.getD ((k + 1) % l.length) (0, 0)).1, (ps.getD ((k + 1) % l.length) (0, 0)).2, (l.getD k default).gone, (l.getD k default).key, (l.getD k default).value⟩
def linkOk (seq : Int) (l : List Pair) (vers : List Int) (ps : List (Nat × Nat)) : Prop :=
  l.length ≠ 0 ∧ vers.length = l.length ∧ ps.length = l.length ∧ ∀ k, k < l.length → mayB (linkItem seq l vers ps k) = true

set_option maxHeartbeats 2000000 in
set_option maxRecDepth 100000 in
theorem link_no (seq : Int) (A B C : Option Addr) (n m q c1 c2 c3 : Nat) (l : List Pair) (vers : List Int) (ps : List (Nat × Nat)) (w : World) (h1 : Pairs w (.slice A n c1) l) (h2 : U64s w (.slice B m c2) vers) (h3 : Places w (.slice C q c3) ps)
    (h : l.length = 0 ∨ vers.length ≠ l.length ∨ ps.length ≠ l.length) : Makes 53 #[.int .u64 seq, .slice A n c1, .slice B m c2, .slice C q c3] w (.tuple #[.slice none 0 0, i64 1]) := by
  have n1 := h1.len
  have n2 := h2.len
  have n3 := h3.len
  rw [List.length_map] at n1 n2 n3
  subst n1; subst n2; subst n3
  clear h1 h2 h3
  obtain ⟨t1, ht1⟩ : ∃ t, ((l.length : Int) == 0) = t := ⟨_, rfl⟩
  obtain ⟨t2, ht2⟩ : ∃ t, ((vers.length : Int) != (l.length : Int)) = t := ⟨_, rfl⟩
  obtain ⟨t3, ht3⟩ : ∃ t, ((ps.length : Int) != (l.length : Int)) = t := ⟨_, rfl⟩
  have hor : (t1 || t2 || t3) = true := by
    rw [← ht1, ← ht2, ← ht3, Bool.or_eq_true, Bool.or_eq_true, beq_iff_eq, bne_iff_ne, bne_iff_ne]
    omega
  cases t1 <;> cases t2 <;> cases t3
  · cases hor
  all_goals
    clear hor h
    go_enter Try.func53, Try.ntmps53
    go_wp2_with fail
    go_ret2
    exact ⟨rfl, Below.refl _ _⟩

theorem info_Item : (Try.prog.info? 49).map (fun i => (i.zero, i.size, i.bytes)) = some (some (Item.val ⟨0, 0, 0, 0, 0, 0, false, ByteArray.empty, ByteArray.empty⟩), 8, 88) := by kernel_rfl
end Go.Proofs.Yteieaelinkdahaa
