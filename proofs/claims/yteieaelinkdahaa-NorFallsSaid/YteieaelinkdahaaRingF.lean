/- The layer ring's example. -/
import Derived.Test.YteieaelinkdahaaRing3
namespace Go.Proofs.Yteieaelinkdahaa
open Go.RowKit Flo
attribute [local go_sem] run_store_complex

theorem example_ok : linkOk 5 [⟨⟨#[97]⟩, ⟨#[]⟩, false⟩] [5] [(near 2, near 8)] := by
  have p2 : part? (near ((2 : Nat) : Int)) = some 2 := part_some (nearest_Whole (n := 2) (by omega))
  have p8 : part? (near ((8 : Nat) : Int)) = some 8 := part_some (nearest_Whole (n := 8) (by omega))
  refine ⟨by decide, rfl, rfl, fun k hk => ?_⟩
  have hk0 : k = 0 := by simp at hk; omega
  subst hk0
  have h : linkItem 5 [⟨⟨#[97]⟩, ⟨#[]⟩, false⟩] [5] [(near 2, near 8)] 0 = ⟨5, 5, 0, 1, near 2, near 8, false, ⟨#[97]⟩, ⟨#[]⟩⟩ := rfl
  rw [h]
  have hp : placeOk (near 2) (near 8) = true := by
    unfold placeOk parts?
    rw [show near 2 = near ((2 : Nat) : Int) from rfl, show near 8 = near ((8 : Nat) : Int) from rfl, p2, p8]
    rfl
  unfold mayB
  rw [show (⟨5, 5, 0, 1, near 2, near 8, false, ⟨#[97]⟩, ⟨#[]⟩⟩ : Item).a = near 2 from rfl, show (⟨5, 5, 0, 1, near 2, near 8, false, ⟨#[97]⟩, ⟨#[]⟩⟩ : Item).b = near 8 from rfl, hp]
  simp [sizeB]
  decide

set_option maxHeartbeats 4000000 in
set_option maxRecDepth 100000 in
theorem fixed7 (w : World) : Makes 26 #[] w (.bool true) := by
  have g0 := fun W => Lib.hid (of_in 2 8 W (by omega) (by omega) (by omega) (by omega))
  go_enter Try.func26, Try.ntmps26
  go_wp2_with fail
  refine (g0 _).out.mono ?_; rintro e x1 ⟨rfl, rfl⟩
  go_wp2_with fail
  refine (link_any 5 _ _ _ _ _ _ _ _ _ [⟨⟨#[97]⟩, ⟨#[]⟩, false⟩] [5] [(near 2, near 8)] _ ?_ ?_ ?_ (by decide)).mono ?_
  · exact Sl.lit [_] (blk_old (blk_old (blk_new _ _))) rfl rfl (by intro x hx; rw [List.mem_singleton] at hx; subst hx; rfl) (by decide)
  · exact Sl.lit [_] (blk_old (blk_new1 _ _ _)) rfl rfl (by intro x hx; rw [List.mem_singleton] at hx; subst hx; rfl) (by decide)
  · exact Sl.lit [_] (blk_new2 _ _ _ _) rfl rfl (by intro x hx; rw [List.mem_singleton] at hx; subst hx; rfl) (by decide)
  rintro e x2 ⟨hx, -, hb2⟩
  obtain ⟨v, rfl, hown⟩ := hx example_ok
  obtain ⟨g, cap, rfl, hg0, hg1, hcap, hcell⟩ := own_pos hown (by decide) (by decide)
  have c3 : x2.cell? ⟨g, 3, none⟩ = some (i64 1) := hcell 3 _ rfl
  have c4 : x2.cell? ⟨g, 4, none⟩ = some (cx (near 2) (near 8)) := hcell 4 _ rfl
  have v1 := nearest_int 2 (by omega)
  have v2 := nearest_int 8 (by omega)
  have e1 : (FloatKind.f64.format.order (near 2) (near 2) == some Ordering.eq) = true := eqF_same v1 v1
  have e2 : (FloatKind.f64.format.order (near 8) (near 8) == some Ordering.eq) = true := eqF_same v2 v2
  have g1 := fun W => Lib.hid (ringSize_any ⟨#[97]⟩ ⟨#[98, 99]⟩ W)
  have hz : sizeB ⟨#[97]⟩ ⟨#[98, 99]⟩ = 35 := by decide
  rw [hz] at g1
  clear hx hown hcell v1 v2 hz
  simp only [List.length_cons, List.length_nil] at hcap
  go_wp2_with fail
  refine (g1 _).out.mono ?_; rintro e x3 ⟨rfl, rfl⟩
  go_wp2_with fail
  go_ret
  exact ⟨rfl, Base.tr (Base.al (Base.al (Base.al (Below.refl _ _) _) _) _) hb2⟩
end Go.Proofs.Yteieaelinkdahaa
