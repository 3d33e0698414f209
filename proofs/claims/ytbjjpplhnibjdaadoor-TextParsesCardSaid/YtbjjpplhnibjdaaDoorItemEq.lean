/- Two items, two places held against each other. -/
import Derived.Test.YtbjjpplhnibjdaaDoorRing
import Derived.Laws.StructEq
namespace Go.Proofs.YtbjjpplhnibjdaaDoor
open Go.RowKit Flo

/-- '==' of two places. -/
noncomputable def cxEq (a b c d : Nat) : Bool := (FloatKind.f64.format.order a c == some Ordering.eq) && (FloatKind.f64.format.order b d == some Ordering.eq)
noncomputable def itemEq (x y : Item) : Bool := (x.seq == y.seq) && (x.ver == y.ver) && (x.index == y.index) && (x.count == y.count) && cxEq x.a x.b y.a y.b && (x.gone == y.gone) && (x.key.toList == y.key.toList) && (x.value.toList == y.value.toList)

theorem run_equalIn_cx {P : Program} (w : World) (d : Nat) {t : TypeId} (ht : P.underlying t = some (.complex .f64)) (a b c e : Nat) :
    (Op.equalIn (d + 1) t (cx a b) (cx c e)).run P w = .ok (cxEq a b c e) w := by
  simp [Op.equalIn, run_underlying ht, cxEq, Op.floatEq]

theorem cxEq_self {a b s o : Nat} (ha : part? a = some s) (hb : part? b = some o) : cxEq a b a b = true := by
  unfold cxEq
  rw [Bool.and_eq_true]
  exact ⟨eqF_same (part_of ha).1 (part_of ha).1, eqF_same (part_of hb).1 (part_of hb).1⟩
theorem placeOk_parts {a b : Nat} (h : placeOk a b = true) : ∃ s o, part? a = some s ∧ part? b = some o ∧ s ≤ 254 ∧ o ≤ 65535 := by
  unfold placeOk parts? at h
  cases ha : part? a with
  | none => rw [ha] at h; cases h
  | some s =>
    cases hb : part? b with
    | none => rw [ha, hb] at h; cases h
    | some o =>
      rw [ha, hb] at h
      simp at h
      exact ⟨s, o, rfl, rfl, h⟩
theorem itemEq_self {x : Item} (h : placeOk x.a x.b = true) : itemEq x x = true := by
  obtain ⟨s, o, ha, hb, _⟩ := placeOk_parts h
  unfold itemEq
  rw [cxEq_self ha hb]
  simp
end Go.Proofs.YtbjjpplhnibjdaaDoor
