/- The layer ring's example. -/
import Derived.Test.YtbjjpplhnibjdaaDoorRing3
namespace Go.Proofs.YtbjjpplhnibjdaaDoor
open Go.RowKit Flo
attribute [local go_sem] run_store_complex

theorem example_ok : linkOk 5 [⟨⟨#[97]⟩, ⟨#[]⟩, false⟩] [5] [(near 2, near 8)] := by
  have p2 : part? (near ((2 : Nat) : Int)) = some 2 := part_some (nearest_Whole (n := 2) (by omega))
  have p8 : part? (near ((8 : Nat) : Int)) = some 8 := part_some (nearest_Whole (n := 8) (by omega))
  refine ⟨by decide, rfl, rfl, fun k hk => ?_⟩
  have hk0 : k = 0 := by simp at hk; omega
  subst hk0
  have h : linkItem 5 [⟨⟨#[97]⟩, ⟨#[]⟩, false⟩] [5] [(near 2, near 8)] 0 = ⟨5, 5, 0, 1, near 2, near 8, false, ⟨#[97]⟩, ⟨#[]⟩⟩ := rfl
  rw [h]
  have hp : placeOk (near 2) (near 8) = true := by
    unfold placeOk parts?
    rw [show near 2 = near ((2 : Nat) : Int) from rfl, show near 8 = near ((8 : Nat) : Int) from rfl, p2, p8]
    rfl
  unfold mayB
  rw [show (⟨5, 5, 0, 1, near 2, near 8, false, ⟨#[97]⟩, ⟨#[]⟩⟩ : Item).a = near 2 from rfl, show (⟨5, 5, 0, 1, near 2, near 8, false, ⟨#[97]⟩, ⟨#[]⟩⟩ : Item).b = near 8 from rfl, hp]
  simp [sizeB]
  decide

end Go.Proofs.YtbjjpplhnibjdaaDoor
