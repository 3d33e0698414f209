/- pick.Lead; the law's own functions. -/
import Derived.Test.YtbbiohgillhmnaaPick4
namespace Go.Proofs.Ytbbiohgillhmnaa
open Go.RowKit

set_option maxRecDepth 100000 in
theorem run_field_wear (x : Info) (W : World) : (Instr.field 53 (.agg #[i64 x.cls, .bool x.isOpen, i64 x.wear, .int .u64 x.age, i64 x.need, .bool x.held]) 2).run Try.prog W = .ok (i64 x.wear) W := by
  simp [Instr.field, go_sem, asAgg]
def leadOf (l : List Info) : Int := if l.length = 0 then 0 else (gi l (bestBy (fun x y => decide (cWear x y > 0)) l (l.length - 1) : Nat)).wear - (gi l (bestBy (fun x y => decide (cWear x y < 0)) l (l.length - 1) : Nat)).wear

set_option maxHeartbeats 1000000 in
set_option maxRecDepth 100000 in
theorem Lead_any (A : Option Addr) (n cap : Nat) (l : List Info) (hm : Mild l) (w : World) (h : Infos w (.slice A n cap) l) : Makes 40 #[.slice A n cap] w (i64 (leadOf l)) := by
  have hn := h.len
  rw [List.length_map] at hn
  subst hn
  by_cases h0 : l.length = 0
  · have hv : leadOf l = 0 := if_pos h0
    rw [hv, h0]
    clear hv h0 h
    go_enter Try.func40, Try.ntmps40
    go_wp2_with fail
    go_ret
    exact ⟨rfl, Below.refl _ _⟩
  · have hv : leadOf l = _ := if_neg h0
    have hne : ((l.length : Int) == 0) = false := beq_eq_false_iff_ne.2 (by omega)
    have g1 := fun W hW => maxf_any 60 cWear A l.length cap l (by omega) W hW (fun x y W => byWear_any x y W) enters60
    have g2 := fun W hW => minf_any 60 cWear A l.length cap l (by omega) W hW (fun x y W => byWear_any x y W) enters60
    have m1 := hm.gi (bestBy (fun x y => decide (cWear x y > 0)) l (l.length - 1) : Nat)
    have m2 := hm.gi (bestBy (fun x y => decide (cWear x y < 0)) l (l.length - 1) : Nat)
    generalize gi l (bestBy (fun x y => decide (cWear x y > 0)) l (l.length - 1) : Nat) = x at *
    generalize gi l (bestBy (fun x y => decide (cWear x y < 0)) l (l.length - 1) : Nat) = y at *
    rw [hv]
    have hbd : IntKind.i64.wrap (x.wear - y.wear) = x.wear - y.wear := by rw [IntKind.wrap_i64]; omega
    unfold Info.val at g1 g2
    have f1 := fun W => run_field_wear x W
    have f2 := fun W => run_field_wear y W
    have G1 := fun W hW => Lib.hid (g1 W hW)
    have G2 := fun W hW => Lib.hid (g2 W hW)
    have H := Lib.hid h
    clear g1 g2 m1 m2 h hm hv h0
    go_enter Try.func40, Try.ntmps40
    go_wp2_with fail
    refine (G1 _ H.out).out.mono ?_; rintro e w1 ⟨rfl, hb1⟩
    go_wp2_with fail
    refine (G2 _ (Sl.below H.out hb1)).out.mono ?_; rintro e w2 ⟨rfl, hb2⟩
    go_wp2_with fail
    go_ret
    exact ⟨by first | rfl | (rw [hbd]), Base.tr hb1 hb2⟩
end Go.Proofs.Ytbbiohgillhmnaa
