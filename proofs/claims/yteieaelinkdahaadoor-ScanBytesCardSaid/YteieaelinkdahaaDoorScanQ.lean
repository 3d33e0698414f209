/- flintref08.Same: two rows of what was found. -/
import Derived.Test.YteieaelinkdahaaDoorScanP
import Derived.Test.YteieaelinkdahaaDoorRingC
import Derived.Test.YteieaelinkdahaaDoorItemEq
import Derived.Test.YteieaelinkdahaaDoorPh
import Derived.Laws.StructEq
namespace Go.Proofs.YteieaelinkdahaaDoor
open Go Go.RowKit Flo

/-- Is an item that was found the same as itself? (Not, if it bore a place that is no number.) -/
noncomputable def selfB (f : Found) : Bool := cxEq f.at0 f.at1 f.at0 f.at1 && itemEq f.item f.item
set_option maxHeartbeats 4000000 in
set_option maxRecDepth 100000 in
theorem same_any (A B : Option Addr) (n m c d : Nat) (l : List Found) (w : World) (h1 : Founds w (.slice A n c) l) (h2 : Founds w (.slice B m d) l) (hs : ∀ f ∈ l, selfB f = true) (hm : l.length ≤ 60000) : Makes 11 #[.slice A n c, .slice B m d] w (.bool true) := by
  have n1 := h1.len
  have n2 := h2.len
  rw [List.length_map] at n1 n2
  subst n1; subst n2
  go_enter Tryd.func11, Tryd.ntmps11
  go_wp2_with fail
  go_loopw [13] (fun i wr => ∃ k : Nat, k ≤ l.length ∧ i = .int .i64 k ∧ Below w.heap.size w wr) (fun i _ => l.length - (intOf i).toNat)
  case atStart => exact ⟨0, by omega, rfl, Below.refl _ _⟩
  case round =>
    obtain ⟨k, hk, rfl, hb⟩ := hrel
    by_cases hlt : k < l.length
    · obtain ⟨b1, o1, rfl, hb1, hc1⟩ := Founds.cell (Sl.below h1 hb) (by omega)
      obtain ⟨b2, o2, rfl, hb2, hc2⟩ := Founds.cell (Sl.below h2 hb) (by omega)
      have hr1 := hc1 k hlt
      have hr2 := hc2 k hlt
      have hself := hs l[k] (List.getElem_mem hlt)
      unfold selfB at hself
      rw [Bool.and_eq_true] at hself
      have h3 : cxEq l[k].item.a l[k].item.b l[k].item.a l[k].item.b = true := by
        have h2 := hself.2
        unfold itemEq at h2
        simp only [Bool.and_eq_true] at h2
        exact h2.1.1.1.2
      have hq1 := fun W => run_equalIn_cx (P := Tryd.prog) W 9998 Tryd.underlying42 l[k].at0 l[k].at1 l[k].at0 l[k].at1
      have hq2 := fun W => run_equalIn_cx (P := Tryd.prog) W 9997 Tryd.underlying42 l[k].item.a l[k].item.b l[k].item.a l[k].item.b
      rw [hself.1] at hq1
      rw [h3] at hq2
      have hgd : l.getD k default = l[k] := by simp [List.getD, hlt]
      rw [hgd] at hr1 hr2
      clear hself h3 hgd
      obtain ⟨f, hf⟩ : ∃ f, f = l[k] := ⟨_, rfl⟩
      rw [← hf] at hr1 hr2
      simp only [← hf] at hq1 hq2
      clear hf
      clear hc1 hc2
      have e0 := fun p => on_cell hb1 (hr1 0 _ rfl) p
      have f0 := fun p => on_cell hb2 (hr2 0 _ rfl) p
      have e1 := fun p => on_cell hb1 (hr1 1 _ rfl) p
      have f1 := fun p => on_cell hb2 (hr2 1 _ rfl) p
      have e2 := fun p => on_cell hb1 (hr1 2 _ rfl) p
      have f2 := fun p => on_cell hb2 (hr2 2 _ rfl) p
      have e3 := fun p => on_cell hb1 (hr1 3 _ rfl) p
      have f3 := fun p => on_cell hb2 (hr2 3 _ rfl) p
      have e4 := fun p => on_cell hb1 (hr1 4 _ rfl) p
      have f4 := fun p => on_cell hb2 (hr2 4 _ rfl) p
      have e5 := fun p => on_cell hb1 (hr1 5 _ rfl) p
      have f5 := fun p => on_cell hb2 (hr2 5 _ rfl) p
      have e6 := fun p => on_cell hb1 (hr1 6 _ rfl) p
      have f6 := fun p => on_cell hb2 (hr2 6 _ rfl) p
      have e7 := fun p => on_cell hb1 (hr1 7 _ rfl) p
      have f7 := fun p => on_cell hb2 (hr2 7 _ rfl) p
      have e8 := fun p => on_cell hb1 (hr1 8 _ rfl) p
      have f8 := fun p => on_cell hb2 (hr2 8 _ rfl) p
      have e9 := fun p => on_cell hb1 (hr1 9 _ rfl) p
      have f9 := fun p => on_cell hb2 (hr2 9 _ rfl) p
      have e10 := fun p => on_cell hb1 (hr1 10 _ rfl) p
      have f10 := fun p => on_cell hb2 (hr2 10 _ rfl) p
      clear hr1 hr2
      have kw : IntKind.i64.wrap ((k : Int) + 1) = (k : Int) + 1 := by rw [IntKind.wrap_i64]; omega
      have hki : (k : Int) < (l.length : Int) := by omega
      simp only [Nat.add_zero] at e0 f0
      go_wp2_with fail
      refine wp_region_quiet_on (by kernel_rfl) (by kernel_rfl) ?_
      repeat ((with_reducible refine wpQuiet_step (fun K hK => ?_)); go_simp; first | ((with_reducible refine hK _ ?_); clear hK K) | (rw [if_neg (by intro h; cases h)]; (with_reducible refine hK _ ?_); clear hK K) | (apply Exists.intro; refine ⟨fun _ => ?_, hK _ ?_⟩; (fail); clear hK K))
      with_reducible refine wpQuiet_nil ?_
      intro _ hw'
      obtain ⟨pq, hw''⟩ := hw'
      subst hw''
      go_wp2_with fail
      exact ⟨⟨k + 1, by omega, by go_num, Base.tr hb pq.h⟩, by simp [intOf]; omega⟩
    · have hke : k = l.length := by omega
      subst hke
      go_wp2_with fail
      go_ret
      exact ⟨rfl, hb⟩

end Go.Proofs.YteieaelinkdahaaDoor
