/- Two items, two places held against each other. -/
import Derived.Test.YteieaelinkdahaaDoorRing
import Derived.Laws.StructEq
namespace Go.Proofs.YteieaelinkdahaaDoor
open Go.RowKit Flo

/-- '==' of two places. -/
noncomputable def cxEq (a b c d : Nat) : Bool := (FloatKind.f64.format.order a c == some Ordering.eq) && (FloatKind.f64.format.order b d == some Ordering.eq)
noncomputable def itemEq (x y : Item) : Bool := (x.seq == y.seq) && (x.ver == y.ver) && (x.index == y.index) && (x.count == y.count) && cxEq x.a x.b y.a y.b && (x.gone == y.gone) && (x.key.toList == y.key.toList) && (x.value.toList == y.value.toList)

theorem run_equalIn_cx {P : Program} (w : World) (d : Nat) {t : TypeId} (ht : P.underlying t = some (.complex .f64)) (a b c e : Nat) :
    (Op.equalIn (d + 1) t (cx a b) (cx c e)).run P w = .ok (cxEq a b c e) w := by
  simp [Op.equalIn, run_underlying ht, cxEq, Op.floatEq]

set_option maxHeartbeats 1000000 in
theorem run_eq_item (x y : Item) (w : World) (d : Nat) : (Op.equalIn (d + 2) 44 x.val y.val).run Tryd.prog w = .ok (itemEq x y) w := by
  rw [run_equalIn_struct w (d + 1) 44 _ _ (by kernel_rfl) (by kernel_rfl)]
  simp [go_sem, Program.fieldsOf, Tryd.underlying44, Op.eqFields]
  simp only [run_equalIn_cx w d Tryd.underlying42, Result.andThen_ok]
  unfold itemEq
  generalize cxEq x.a x.b y.a y.b = c
  cases c <;> repeat' split
  all_goals simp_all

theorem cxEq_self {a b s o : Nat} (ha : part? a = some s) (hb : part? b = some o) : cxEq a b a b = true := by
  unfold cxEq
  rw [Bool.and_eq_true]
  exact ⟨eqF_same (part_of ha).1 (part_of ha).1, eqF_same (part_of hb).1 (part_of hb).1⟩
theorem placeOk_parts {a b : Nat} (h : placeOk a b = true) : ∃ s o, part? a = some s ∧ part? b = some o ∧ s ≤ 254 ∧ o ≤ 65535 := by
  unfold placeOk parts? at h
  cases ha : part? a with
  | none => rw [ha] at h; cases h
  | some s =>
    cases hb : part? b with
    | none => rw [ha, hb] at h; cases h
    | some o =>
      rw [ha, hb] at h
      simp at h
      exact ⟨s, o, rfl, rfl, h⟩
theorem itemEq_self {x : Item} (h : placeOk x.a x.b = true) : itemEq x x = true := by
  obtain ⟨s, o, ha, hb, _⟩ := placeOk_parts h
  unfold itemEq
  rw [cxEq_self ha hb]
  simp
end Go.Proofs.YteieaelinkdahaaDoor
