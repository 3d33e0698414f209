/- The law's own functions: is, fixed. -/
import Derived.Test.YtbbiohgillhmnaaPickE
namespace Go.Proofs.Ytbbiohgillhmnaa
open Go.RowKit

def isB (n : Int) (ok : Bool) (want : Int) : Bool := (ok == decide (0 ≤ want)) && (!ok && decide (n = 0) || ok && decide (n = want))

set_option maxHeartbeats 1000000 in
theorem is_any (n : Int) (ok : Bool) (want : Int) (w : World) (h : isB n ok want = true) : Gives 41 #[i64 n, .bool ok, i64 want] w (.bool true) := by
  unfold isB at h
  cases ok
  · have h1 : ¬ 0 ≤ want := by simp at h; omega
    have h2 : n = 0 := by simp at h; omega
    subst h2
    clear h
    go_enter Try.func41, Try.ntmps41
    go_wp2_with fail
    go_ret
    exact ⟨rfl, rfl⟩
  · have h1 : 0 ≤ want := by simp at h; omega
    have h2 : n = want := by simp at h; omega
    subst h2
    clear h
    go_enter Try.func41, Try.ntmps41
    go_wp2_with fail
    go_ret
    exact ⟨rfl, rfl⟩

set_option maxHeartbeats 2000000 in
set_option maxRecDepth 100000 in
theorem fixed11 (w : World) : Makes 31 #[] w (.bool true) := by
  have g := fun A n cap W (h : Infos W (.slice A n cap) [⟨0, false, 3, 0, 0, false⟩, ⟨0, false, 2, 0, 0, false⟩]) => Write_any A n cap _ W h (by decide)
  have hv : leastOf cWear [⟨0, false, 3, 0, 0, false⟩, ⟨0, false, 2, 0, 0, false⟩] (idx canBlank 0 [⟨0, false, 3, 0, 0, false⟩, ⟨0, false, 2, 0, 0, false⟩]) = 1 := by decide
  have hv2 : someB (idx canBlank 0 [⟨0, false, 3, 0, 0, false⟩, ⟨0, false, 2, 0, 0, false⟩]) = true := by decide
  rw [hv, hv2] at g
  have G := fun A n cap W h => Lib.hid (g A n cap W h)
  clear g hv hv2
  go_enter Try.func31, Try.ntmps31
  go_wp2_with fail
  refine (G _ _ _ _ ?hI).out.mono ?_
  case hI =>
    refine ⟨_, 2, rfl, by decide, by decide, (fun h => by cases h), fun _ => ⟨w.heap.size, 0, rfl, by simp, ?_⟩⟩
    intro i x hi
    have key := news_of w [i64 0, .bool false, i64 3, .int .u64 0, i64 0, .bool false, i64 0, .bool false, i64 2, .int .u64 0, i64 0, .bool false] 53
    match i, hi with
    | 0, hi =>
      injection hi with hi
      subst hi
      refine ⟨rfl, fun j u hj => ?_⟩
      match j, hj with
      | 0, hj => exact key 0 u hj
      | 1, hj => exact key 1 u hj
      | 2, hj => exact key 2 u hj
      | 3, hj => exact key 3 u hj
      | 4, hj => exact key 4 u hj
      | 5, hj => exact key 5 u hj
    | 1, hi =>
      injection hi with hi
      subst hi
      refine ⟨rfl, fun j u hj => ?_⟩
      match j, hj with
      | 0, hj => exact key 6 u hj
      | 1, hj => exact key 7 u hj
      | 2, hj => exact key 8 u hj
      | 3, hj => exact key 9 u hj
      | 4, hj => exact key 10 u hj
      | 5, hj => exact key 11 u hj
  rintro e w1 ⟨rfl, hb1⟩
  go_wp2_with fail
  go_ret
  exact ⟨rfl, Base.tr (Base.al (Below.refl _ _) _) hb1⟩
end Go.Proofs.Ytbbiohgillhmnaa
