/- Any place as three bytes is got as it was, or told as none; and any three bytes are the reference's place: for any two words and three bytes, with no condition. -/
import Derived.Test.YtbbiohgillhmnaaPlace2
import Derived.Test.YtbbiohgillhmnaaRow
import Derived.Test.YtbbiohgillhmnaaOpen
import Derived.Deep.RegionHeld3
namespace Go.Proofs.Ytbbiohgillhmnaa
open Go.ChangeShapes Go.WideShapes Go.ChangeAt Go.RowKit Flo

theorem placeOf3_self (a b c : Int) (a0 : 0 ≤ a) (a1 : a ≤ 255) (b0 : 0 ≤ b) (b1 : b ≤ 255) (c0 : 0 ≤ c) (c1 : c ≤ 255) : ∃ x y, placeOf3 a b c = cx x y ∧ eqF x x = true ∧ eqF y y = true := by
  unfold placeOf3
  split
  · exact ⟨_, _, rfl, by decide, by decide⟩
  · have v1 := nearest_intZ a (by omega)
    have v2 := nearest_intZ (b * 256 + c) (by omega)
    exact ⟨_, _, rfl, eqF_same v1 v1, eqF_same v2 v2⟩

theorem placeOf3_in (a b c : Int) (a0 : 0 ≤ a) (a1 : a < 255) (b0 : 0 ≤ b) (b1 : b ≤ 255) (c0 : 0 ≤ c) (c1 : c ≤ 255) :
    ∃ x y, placeOf3 a b c = cx x y ∧ eqF x x = true ∧ eqF y y = true ∧ part? x = some a.toNat ∧ part? y = some (b * 256 + c).toNat := by
  unfold placeOf3
  rw [if_neg (by omega)]
  have v1 := nearest_intZ a (by omega)
  have v2 := nearest_intZ (b * 256 + c) (by omega)
  refine ⟨_, _, rfl, eqF_same v1 v1, eqF_same v2 v2, part_some ⟨?_, by omega⟩, part_some ⟨?_, by omega⟩⟩
  · rw [v1]; congr 2; omega
  · rw [v2]; congr 2; omega

abbrev Law (x y a b c : Int) (w : World) : Prop := Makes 10 #[.int .u64 x, .int .u64 y, .agg #[u8 a, u8 b, u8 c]] w (.bool true)

set_option maxHeartbeats 1600000 in
set_option maxRecDepth 100000 in
theorem placeBytes_no255 (x y : Int) (b c : Int) (w : World) (b0 : 0 ≤ b) (b1 : b ≤ 255) (c0 : 0 ≤ c) (c1 : c ≤ 255) (hput : ∀ W, Makes1 37 #[cx x.toNat y.toNat] W (.agg #[u8 255, u8 255, u8 255]) (bytes3 255 255 255)) (hright : rightB x.toNat y.toNat = false) :
    Law x y 255 b c w := by
  have g0 := fun w => Lib.hid (at_gives x y w)
  have g3 := fun w => Lib.hid (fixed2 w)
  have g4 := fun w => Lib.hid (get_any 255 b c w (by omega) (by omega) b0 b1 c0 c1)
  have g5 := fun w => rget_any 255 b c w (by omega) (by omega) b0 b1 c0 c1
  obtain ⟨u, v, hv, e1, e2⟩ := placeOf3_self 255 b c (by omega) (by omega) b0 b1 c0 c1
  rw [hv] at g4 g5
  have e1' : (FloatKind.f64.format.order u u == some Ordering.eq) = true := e1
  have e2' : (FloatKind.f64.format.order v v == some Ordering.eq) = true := e2
  have g6 := fun w => Lib.hid (g5 w)
  have g1 := fun W => Lib.hid (hput W)
  have hr := fun w => right_any x.toNat y.toNat w
  have hr2 : ((part? x.toNat).isSome && (part? y.toNat).isSome) = false := hright
  rw [hr2] at hr
  have g2 := fun w => Lib.hid (hr w)
  have he := eql3 255 255 255 255 255 255
  rw [decide_eq_true ⟨rfl, rfl, rfl⟩] at he
  clear hput hr hr2 hright
  clear hv e1 e2 g5
  go_enter Try.func10, Try.ntmps10
  go_wp2_with fail
  refine (g0 _).out.mono ?_; rintro e w' ⟨rfl, rfl⟩
  go_wp2_with fail
  refine (g1 _).out.mono ?_; rintro e w' ⟨rfl, rfl⟩
  go_wp2_with fail
  refine (g2 _).out.mono ?_; rintro e w' ⟨rfl, rfl⟩
  go_wp2_with fail
  refine (g4 _).out.mono ?_; rintro e w' ⟨rfl, rfl⟩
  go_wp2_with fail
  go_quiet ((first | (go_at_call 15; exact Calls.quiet_of_same (g3 _).out) | (go_at_call 39; exact Calls.quiet_of_same (g6 _).out)))
  go_wp2_with fail
  go_ret
  exact ⟨rfl, by repeat (first | exact Below.refl _ _ | refine Base.dn ?_ _ | refine Base.dr ?_ | refine Base.al ?_ _)⟩

set_option maxHeartbeats 1600000 in
set_option maxRecDepth 100000 in
theorem placeBytes_fars255 (x y : Int) (b c : Int) (w : World) (b0 : 0 ≤ b) (b1 : b ≤ 255) (c0 : 0 ≤ c) (c1 : c ≤ 255) (s o : Nat) (hx : part? x.toNat = some s) (hy : part? y.toNat = some o) (h : 254 < s) :
    Law x y 255 b c w := by
  have g0 := fun w => Lib.hid (at_gives x y w)
  have g3 := fun w => Lib.hid (fixed2 w)
  have g4 := fun w => Lib.hid (get_any 255 b c w (by omega) (by omega) b0 b1 c0 c1)
  have g5 := fun w => rget_any 255 b c w (by omega) (by omega) b0 b1 c0 c1
  obtain ⟨u, v, hv, e1, e2⟩ := placeOf3_self 255 b c (by omega) (by omega) b0 b1 c0 c1
  rw [hv] at g4 g5
  have e1' : (FloatKind.f64.format.order u u == some Ordering.eq) = true := e1
  have e2' : (FloatKind.f64.format.order v v == some Ordering.eq) = true := e2
  have g6 := fun w => Lib.hid (g5 w)
  have hr := fun w => right_any x.toNat y.toNat w
  have hr2 : ((part? x.toNat).isSome && (part? y.toNat).isSome) = true := right_of hx hy
  rw [hr2] at hr
  have g2 := fun w => Lib.hid (hr w)
  have gs := fun w => Lib.hid (sector_in (b := y.toNat) w hx)
  have gf := fun w => Lib.hid (offset_in (a := x.toNat) w hy)
  have g1 := fun W => Lib.hid (put_far x.toNat y.toNat s o W hx hy (.inl h))
  have he := eql3 255 255 255 255 255 255
  rw [decide_eq_true ⟨rfl, rfl, rfl⟩] at he
  have hs : ¬ (s : Int) < 255 := by omega
  clear hr hr2 hx hy
  clear hv e1 e2 g5
  go_enter Try.func10, Try.ntmps10
  go_wp2_with fail
  refine (g0 _).out.mono ?_; rintro e w' ⟨rfl, rfl⟩
  go_wp2_with fail
  refine (g1 _).out.mono ?_; rintro e w' ⟨rfl, rfl⟩
  go_wp2_with fail
  refine (g2 _).out.mono ?_; rintro e w' ⟨rfl, rfl⟩
  go_wp2_with fail
  refine (gs _).out.mono ?_; rintro e w' ⟨rfl, rfl⟩
  go_wp2_with fail
  refine (g4 _).out.mono ?_; rintro e w' ⟨rfl, rfl⟩
  go_wp2_with fail
  go_quiet ((first | (go_at_call 15; exact Calls.quiet_of_same (g3 _).out) | (go_at_call 39; exact Calls.quiet_of_same (g6 _).out)))
  go_wp2_with fail
  go_ret
  exact ⟨rfl, by repeat (first | exact Below.refl _ _ | refine Base.dn ?_ _ | refine Base.dr ?_ | refine Base.al ?_ _)⟩

set_option maxHeartbeats 1600000 in
set_option maxRecDepth 100000 in
theorem placeBytes_faro255 (x y : Int) (b c : Int) (w : World) (b0 : 0 ≤ b) (b1 : b ≤ 255) (c0 : 0 ≤ c) (c1 : c ≤ 255) (s o : Nat) (hx : part? x.toNat = some s) (hy : part? y.toNat = some o) (h : 65535 < o) (hs : s < 255) :
    Law x y 255 b c w := by
  have g0 := fun w => Lib.hid (at_gives x y w)
  have g3 := fun w => Lib.hid (fixed2 w)
  have g4 := fun w => Lib.hid (get_any 255 b c w (by omega) (by omega) b0 b1 c0 c1)
  have g5 := fun w => rget_any 255 b c w (by omega) (by omega) b0 b1 c0 c1
  obtain ⟨u, v, hv, e1, e2⟩ := placeOf3_self 255 b c (by omega) (by omega) b0 b1 c0 c1
  rw [hv] at g4 g5
  have e1' : (FloatKind.f64.format.order u u == some Ordering.eq) = true := e1
  have e2' : (FloatKind.f64.format.order v v == some Ordering.eq) = true := e2
  have g6 := fun w => Lib.hid (g5 w)
  have hr := fun w => right_any x.toNat y.toNat w
  have hr2 : ((part? x.toNat).isSome && (part? y.toNat).isSome) = true := right_of hx hy
  rw [hr2] at hr
  have g2 := fun w => Lib.hid (hr w)
  have gs := fun w => Lib.hid (sector_in (b := y.toNat) w hx)
  have gf := fun w => Lib.hid (offset_in (a := x.toNat) w hy)
  have g1 := fun W => Lib.hid (put_far x.toNat y.toNat s o W hx hy (.inr h))
  have he := eql3 255 255 255 255 255 255
  rw [decide_eq_true ⟨rfl, rfl, rfl⟩] at he
  have hs2 : (s : Int) < 255 := by omega
  have ho2 : decide ((o : Int) < 65536) = false := decide_eq_false (by omega)
  clear h
  clear hr hr2 hx hy
  clear hv e1 e2 g5
  go_enter Try.func10, Try.ntmps10
  go_wp2_with fail
  refine (g0 _).out.mono ?_; rintro e w' ⟨rfl, rfl⟩
  go_wp2_with fail
  refine (g1 _).out.mono ?_; rintro e w' ⟨rfl, rfl⟩
  go_wp2_with fail
  refine (g2 _).out.mono ?_; rintro e w' ⟨rfl, rfl⟩
  go_wp2_with fail
  refine (gs _).out.mono ?_; rintro e w' ⟨rfl, rfl⟩
  go_wp2_with fail
  refine (gf _).out.mono ?_; rintro e w' ⟨rfl, rfl⟩
  go_wp2_with fail
  refine (g4 _).out.mono ?_; rintro e w' ⟨rfl, rfl⟩
  go_wp2_with fail
  go_quiet ((first | (go_at_call 15; exact Calls.quiet_of_same (g3 _).out) | (go_at_call 39; exact Calls.quiet_of_same (g6 _).out)))
  go_wp2_with fail
  go_ret
  exact ⟨rfl, by repeat (first | exact Below.refl _ _ | refine Base.dn ?_ _ | refine Base.dr ?_ | refine Base.al ?_ _)⟩

set_option maxHeartbeats 1600000 in
set_option maxRecDepth 100000 in
theorem placeBytes_in255 (x y : Int) (b c : Int) (w : World) (b0 : 0 ≤ b) (b1 : b ≤ 255) (c0 : 0 ≤ c) (c1 : c ≤ 255) (s o : Nat) (hx : part? x.toNat = some s) (hy : part? y.toNat = some o) (hs : s < 255) (hl : o < 65536) :
    Law x y 255 b c w := by
  have g0 := fun w => Lib.hid (at_gives x y w)
  have g3 := fun w => Lib.hid (fixed2 w)
  have g4 := fun w => Lib.hid (get_any 255 b c w (by omega) (by omega) b0 b1 c0 c1)
  have g5 := fun w => rget_any 255 b c w (by omega) (by omega) b0 b1 c0 c1
  obtain ⟨u, v, hv, e1, e2⟩ := placeOf3_self 255 b c (by omega) (by omega) b0 b1 c0 c1
  rw [hv] at g4 g5
  have e1' : (FloatKind.f64.format.order u u == some Ordering.eq) = true := e1
  have e2' : (FloatKind.f64.format.order v v == some Ordering.eq) = true := e2
  have g6 := fun w => Lib.hid (g5 w)
  have hr := fun w => right_any x.toNat y.toNat w
  have hr2 : ((part? x.toNat).isSome && (part? y.toNat).isSome) = true := right_of hx hy
  rw [hr2] at hr
  have g2 := fun w => Lib.hid (hr w)
  have gs := fun w => Lib.hid (sector_in (b := y.toNat) w hx)
  have gf := fun w => Lib.hid (offset_in (a := x.toNat) w hy)
  have ls : (s : Int) < 255 := by omega
  have lo : (o : Int) < 65536 := by omega
  have g1 := fun W => Lib.hid (put_in x.toNat y.toNat s o W hx hy hs hl)
  have gq := fun w => get_any s (o / 256) (o % 256) w (by omega) (by omega) (by omega) (by omega) (by omega) (by omega)
  have hq : placeOf3 s (o / 256) (o % 256) = cx (near s) (near o) := by
    unfold placeOf3; rw [if_neg (by omega), show (o : Int) / 256 * 256 + (o : Int) % 256 = o from by omega]
  rw [hq] at gq
  have gg := fun w => Lib.hid (gq w)
  have he := eql3 s (o / 256) (o % 256) 255 255 255
  rw [decide_eq_false (by omega)] at he
  have n1 : (FloatKind.f64.format.order (near s) x.toNat == some Ordering.eq) = true := eqF_same (nearest_int s (by omega)) (part_of hx).1
  have n2 : (FloatKind.f64.format.order (near o) y.toNat == some Ordering.eq) = true := eqF_same (nearest_int o (by omega)) (part_of hy).1
  clear hr hr2 hx hy gq hq
  clear hv e1 e2 g5
  go_enter Try.func10, Try.ntmps10
  go_wp2_with fail
  refine (g0 _).out.mono ?_; rintro e w' ⟨rfl, rfl⟩
  go_wp2_with fail
  refine (g1 _).out.mono ?_; rintro e w' ⟨rfl, rfl⟩
  go_wp2_with fail
  refine (g2 _).out.mono ?_; rintro e w' ⟨rfl, rfl⟩
  go_wp2_with fail
  refine (gs _).out.mono ?_; rintro e w' ⟨rfl, rfl⟩
  go_wp2_with fail
  refine (gf _).out.mono ?_; rintro e w' ⟨rfl, rfl⟩
  go_wp2_with fail
  refine (gg _).out.mono ?_; rintro e w' ⟨rfl, rfl⟩
  go_wp2_with fail
  refine (g4 _).out.mono ?_; rintro e w' ⟨rfl, rfl⟩
  go_wp2_with fail
  go_quiet ((first | (go_at_call 15; exact Calls.quiet_of_same (g3 _).out) | (go_at_call 39; exact Calls.quiet_of_same (g6 _).out)))
  go_wp2_with fail
  go_ret
  exact ⟨rfl, by repeat (first | exact Below.refl _ _ | refine Base.dn ?_ _ | refine Base.dr ?_ | refine Base.al ?_ _)⟩

set_option maxHeartbeats 1600000 in
set_option maxRecDepth 100000 in
theorem placeBytes_no (x y : Int) (a b c : Int) (w : World) (a0 : 0 ≤ a) (a1 : a < 255) (b0 : 0 ≤ b) (b1 : b ≤ 255) (c0 : 0 ≤ c) (c1 : c ≤ 255) (hput : ∀ W, Makes1 37 #[cx x.toNat y.toNat] W (.agg #[u8 255, u8 255, u8 255]) (bytes3 255 255 255)) (hright : rightB x.toNat y.toNat = false) :
    Law x y a b c w := by
  have g0 := fun w => Lib.hid (at_gives x y w)
  have g3 := fun w => Lib.hid (fixed2 w)
  have g4 := fun w => Lib.hid (get_any a b c w (by omega) (by omega) b0 b1 c0 c1)
  have g5 := fun w => rget_any a b c w (by omega) (by omega) b0 b1 c0 c1
  obtain ⟨u, v, hv, e1, e2, pu, pv⟩ := placeOf3_in a b c a0 a1 b0 b1 c0 c1
  rw [hv] at g4 g5
  have g8 := fun W => put_in u v a.toNat (b * 256 + c).toNat W pu pv (by omega) (by omega)
  rw [show ((a.toNat : Nat) : Int) = a from by omega, show (((b * 256 + c).toNat : Nat) : Int) = b * 256 + c from by omega, show (b * 256 + c) / 256 = b from by omega, show (b * 256 + c) % 256 = c from by omega] at g8
  have g7 := fun W => Lib.hid (g8 W)
  have h255 : (a == 255) = false := by rw [beq_eq_false_iff_ne]; omega
  have he2 := eql3 a b c a b c
  rw [decide_eq_true ⟨rfl, rfl, rfl⟩] at he2
  clear g8 pu pv
  have e1' : (FloatKind.f64.format.order u u == some Ordering.eq) = true := e1
  have e2' : (FloatKind.f64.format.order v v == some Ordering.eq) = true := e2
  have g6 := fun w => Lib.hid (g5 w)
  have g1 := fun W => Lib.hid (hput W)
  have hr := fun w => right_any x.toNat y.toNat w
  have hr2 : ((part? x.toNat).isSome && (part? y.toNat).isSome) = false := hright
  rw [hr2] at hr
  have g2 := fun w => Lib.hid (hr w)
  have he := eql3 255 255 255 255 255 255
  rw [decide_eq_true ⟨rfl, rfl, rfl⟩] at he
  clear hput hr hr2 hright
  clear hv e1 e2 g5
  go_enter Try.func10, Try.ntmps10
  go_wp2_with fail
  refine (g0 _).out.mono ?_; rintro e w' ⟨rfl, rfl⟩
  go_wp2_with fail
  refine (g1 _).out.mono ?_; rintro e w' ⟨rfl, rfl⟩
  go_wp2_with fail
  refine (g2 _).out.mono ?_; rintro e w' ⟨rfl, rfl⟩
  go_wp2_with fail
  refine (g4 _).out.mono ?_; rintro e w' ⟨rfl, rfl⟩
  go_wp2_with fail
  go_region_held3 (fun w' => w'.cell? ⟨w.heap.size, 0, none⟩ = some (u8 a) ∧ w'.cell? ⟨w.heap.size, 1, none⟩ = some (u8 b) ∧ w'.cell? ⟨w.heap.size, 2, none⟩ = some (u8 c))
    (first | (go_keep; done) | ((try dsimp only); refine ⟨?_, ?_, ?_⟩ <;> go_simp))
    (first | (go_at_call 15; refine (g3 _).out.mono ?_; rintro e w' ⟨rfl, rfl⟩) | (go_at_call 39; refine (g6 _).out.mono ?_; rintro e w' ⟨rfl, rfl⟩) | (go_at_call 37; refine (g7 _).out.mono ?_; rintro e w' ⟨rfl, rfl⟩))
  go_wp2_with fail
  go_ret
  exact ⟨rfl, by repeat (first | exact Below.refl _ _ | refine Base.dn ?_ _ | refine Base.dr ?_ | refine Base.al ?_ _)⟩

set_option maxHeartbeats 1600000 in
set_option maxRecDepth 100000 in
theorem placeBytes_fars (x y : Int) (a b c : Int) (w : World) (a0 : 0 ≤ a) (a1 : a < 255) (b0 : 0 ≤ b) (b1 : b ≤ 255) (c0 : 0 ≤ c) (c1 : c ≤ 255) (s o : Nat) (hx : part? x.toNat = some s) (hy : part? y.toNat = some o) (h : 254 < s) :
    Law x y a b c w := by
  have g0 := fun w => Lib.hid (at_gives x y w)
  have g3 := fun w => Lib.hid (fixed2 w)
  have g4 := fun w => Lib.hid (get_any a b c w (by omega) (by omega) b0 b1 c0 c1)
  have g5 := fun w => rget_any a b c w (by omega) (by omega) b0 b1 c0 c1
  obtain ⟨u, v, hv, e1, e2, pu, pv⟩ := placeOf3_in a b c a0 a1 b0 b1 c0 c1
  rw [hv] at g4 g5
  have g8 := fun W => put_in u v a.toNat (b * 256 + c).toNat W pu pv (by omega) (by omega)
  rw [show ((a.toNat : Nat) : Int) = a from by omega, show (((b * 256 + c).toNat : Nat) : Int) = b * 256 + c from by omega, show (b * 256 + c) / 256 = b from by omega, show (b * 256 + c) % 256 = c from by omega] at g8
  have g7 := fun W => Lib.hid (g8 W)
  have h255 : (a == 255) = false := by rw [beq_eq_false_iff_ne]; omega
  have he2 := eql3 a b c a b c
  rw [decide_eq_true ⟨rfl, rfl, rfl⟩] at he2
  clear g8 pu pv
  have e1' : (FloatKind.f64.format.order u u == some Ordering.eq) = true := e1
  have e2' : (FloatKind.f64.format.order v v == some Ordering.eq) = true := e2
  have g6 := fun w => Lib.hid (g5 w)
  have hr := fun w => right_any x.toNat y.toNat w
  have hr2 : ((part? x.toNat).isSome && (part? y.toNat).isSome) = true := right_of hx hy
  rw [hr2] at hr
  have g2 := fun w => Lib.hid (hr w)
  have gs := fun w => Lib.hid (sector_in (b := y.toNat) w hx)
  have gf := fun w => Lib.hid (offset_in (a := x.toNat) w hy)
  have g1 := fun W => Lib.hid (put_far x.toNat y.toNat s o W hx hy (.inl h))
  have he := eql3 255 255 255 255 255 255
  rw [decide_eq_true ⟨rfl, rfl, rfl⟩] at he
  have hs : ¬ (s : Int) < 255 := by omega
  clear hr hr2 hx hy
  clear hv e1 e2 g5
  go_enter Try.func10, Try.ntmps10
  go_wp2_with fail
  refine (g0 _).out.mono ?_; rintro e w' ⟨rfl, rfl⟩
  go_wp2_with fail
  refine (g1 _).out.mono ?_; rintro e w' ⟨rfl, rfl⟩
  go_wp2_with fail
  refine (g2 _).out.mono ?_; rintro e w' ⟨rfl, rfl⟩
  go_wp2_with fail
  refine (gs _).out.mono ?_; rintro e w' ⟨rfl, rfl⟩
  go_wp2_with fail
  refine (g4 _).out.mono ?_; rintro e w' ⟨rfl, rfl⟩
  go_wp2_with fail
  go_region_held3 (fun w' => w'.cell? ⟨w.heap.size, 0, none⟩ = some (u8 a) ∧ w'.cell? ⟨w.heap.size, 1, none⟩ = some (u8 b) ∧ w'.cell? ⟨w.heap.size, 2, none⟩ = some (u8 c))
    (first | (go_keep; done) | ((try dsimp only); refine ⟨?_, ?_, ?_⟩ <;> go_simp))
    (first | (go_at_call 15; refine (g3 _).out.mono ?_; rintro e w' ⟨rfl, rfl⟩) | (go_at_call 39; refine (g6 _).out.mono ?_; rintro e w' ⟨rfl, rfl⟩) | (go_at_call 37; refine (g7 _).out.mono ?_; rintro e w' ⟨rfl, rfl⟩))
  go_wp2_with fail
  go_ret
  exact ⟨rfl, by repeat (first | exact Below.refl _ _ | refine Base.dn ?_ _ | refine Base.dr ?_ | refine Base.al ?_ _)⟩

set_option maxHeartbeats 1600000 in
set_option maxRecDepth 100000 in
theorem placeBytes_faro (x y : Int) (a b c : Int) (w : World) (a0 : 0 ≤ a) (a1 : a < 255) (b0 : 0 ≤ b) (b1 : b ≤ 255) (c0 : 0 ≤ c) (c1 : c ≤ 255) (s o : Nat) (hx : part? x.toNat = some s) (hy : part? y.toNat = some o) (h : 65535 < o) (hs : s < 255) :
    Law x y a b c w := by
  have g0 := fun w => Lib.hid (at_gives x y w)
  have g3 := fun w => Lib.hid (fixed2 w)
  have g4 := fun w => Lib.hid (get_any a b c w (by omega) (by omega) b0 b1 c0 c1)
  have g5 := fun w => rget_any a b c w (by omega) (by omega) b0 b1 c0 c1
  obtain ⟨u, v, hv, e1, e2, pu, pv⟩ := placeOf3_in a b c a0 a1 b0 b1 c0 c1
  rw [hv] at g4 g5
  have g8 := fun W => put_in u v a.toNat (b * 256 + c).toNat W pu pv (by omega) (by omega)
  rw [show ((a.toNat : Nat) : Int) = a from by omega, show (((b * 256 + c).toNat : Nat) : Int) = b * 256 + c from by omega, show (b * 256 + c) / 256 = b from by omega, show (b * 256 + c) % 256 = c from by omega] at g8
  have g7 := fun W => Lib.hid (g8 W)
  have h255 : (a == 255) = false := by rw [beq_eq_false_iff_ne]; omega
  have he2 := eql3 a b c a b c
  rw [decide_eq_true ⟨rfl, rfl, rfl⟩] at he2
  clear g8 pu pv
  have e1' : (FloatKind.f64.format.order u u == some Ordering.eq) = true := e1
  have e2' : (FloatKind.f64.format.order v v == some Ordering.eq) = true := e2
  have g6 := fun w => Lib.hid (g5 w)
  have hr := fun w => right_any x.toNat y.toNat w
  have hr2 : ((part? x.toNat).isSome && (part? y.toNat).isSome) = true := right_of hx hy
  rw [hr2] at hr
  have g2 := fun w => Lib.hid (hr w)
  have gs := fun w => Lib.hid (sector_in (b := y.toNat) w hx)
  have gf := fun w => Lib.hid (offset_in (a := x.toNat) w hy)
  have g1 := fun W => Lib.hid (put_far x.toNat y.toNat s o W hx hy (.inr h))
  have he := eql3 255 255 255 255 255 255
  rw [decide_eq_true ⟨rfl, rfl, rfl⟩] at he
  have hs2 : (s : Int) < 255 := by omega
  have ho2 : decide ((o : Int) < 65536) = false := decide_eq_false (by omega)
  clear h
  clear hr hr2 hx hy
  clear hv e1 e2 g5
  go_enter Try.func10, Try.ntmps10
  go_wp2_with fail
  refine (g0 _).out.mono ?_; rintro e w' ⟨rfl, rfl⟩
  go_wp2_with fail
  refine (g1 _).out.mono ?_; rintro e w' ⟨rfl, rfl⟩
  go_wp2_with fail
  refine (g2 _).out.mono ?_; rintro e w' ⟨rfl, rfl⟩
  go_wp2_with fail
  refine (gs _).out.mono ?_; rintro e w' ⟨rfl, rfl⟩
  go_wp2_with fail
  refine (gf _).out.mono ?_; rintro e w' ⟨rfl, rfl⟩
  go_wp2_with fail
  refine (g4 _).out.mono ?_; rintro e w' ⟨rfl, rfl⟩
  go_wp2_with fail
  go_region_held3 (fun w' => w'.cell? ⟨w.heap.size, 0, none⟩ = some (u8 a) ∧ w'.cell? ⟨w.heap.size, 1, none⟩ = some (u8 b) ∧ w'.cell? ⟨w.heap.size, 2, none⟩ = some (u8 c))
    (first | (go_keep; done) | ((try dsimp only); refine ⟨?_, ?_, ?_⟩ <;> go_simp))
    (first | (go_at_call 15; refine (g3 _).out.mono ?_; rintro e w' ⟨rfl, rfl⟩) | (go_at_call 39; refine (g6 _).out.mono ?_; rintro e w' ⟨rfl, rfl⟩) | (go_at_call 37; refine (g7 _).out.mono ?_; rintro e w' ⟨rfl, rfl⟩))
  go_wp2_with fail
  go_ret
  exact ⟨rfl, by repeat (first | exact Below.refl _ _ | refine Base.dn ?_ _ | refine Base.dr ?_ | refine Base.al ?_ _)⟩

set_option maxHeartbeats 1600000 in
set_option maxRecDepth 100000 in
theorem placeBytes_in (x y : Int) (a b c : Int) (w : World) (a0 : 0 ≤ a) (a1 : a < 255) (b0 : 0 ≤ b) (b1 : b ≤ 255) (c0 : 0 ≤ c) (c1 : c ≤ 255) (s o : Nat) (hx : part? x.toNat = some s) (hy : part? y.toNat = some o) (hs : s < 255) (hl : o < 65536) :
    Law x y a b c w := by
  have g0 := fun w => Lib.hid (at_gives x y w)
  have g3 := fun w => Lib.hid (fixed2 w)
  have g4 := fun w => Lib.hid (get_any a b c w (by omega) (by omega) b0 b1 c0 c1)
  have g5 := fun w => rget_any a b c w (by omega) (by omega) b0 b1 c0 c1
  obtain ⟨u, v, hv, e1, e2, pu, pv⟩ := placeOf3_in a b c a0 a1 b0 b1 c0 c1
  rw [hv] at g4 g5
  have g8 := fun W => put_in u v a.toNat (b * 256 + c).toNat W pu pv (by omega) (by omega)
  rw [show ((a.toNat : Nat) : Int) = a from by omega, show (((b * 256 + c).toNat : Nat) : Int) = b * 256 + c from by omega, show (b * 256 + c) / 256 = b from by omega, show (b * 256 + c) % 256 = c from by omega] at g8
  have g7 := fun W => Lib.hid (g8 W)
  have h255 : (a == 255) = false := by rw [beq_eq_false_iff_ne]; omega
  have he2 := eql3 a b c a b c
  rw [decide_eq_true ⟨rfl, rfl, rfl⟩] at he2
  clear g8 pu pv
  have e1' : (FloatKind.f64.format.order u u == some Ordering.eq) = true := e1
  have e2' : (FloatKind.f64.format.order v v == some Ordering.eq) = true := e2
  have g6 := fun w => Lib.hid (g5 w)
  have hr := fun w => right_any x.toNat y.toNat w
  have hr2 : ((part? x.toNat).isSome && (part? y.toNat).isSome) = true := right_of hx hy
  rw [hr2] at hr
  have g2 := fun w => Lib.hid (hr w)
  have gs := fun w => Lib.hid (sector_in (b := y.toNat) w hx)
  have gf := fun w => Lib.hid (offset_in (a := x.toNat) w hy)
  have ls : (s : Int) < 255 := by omega
  have lo : (o : Int) < 65536 := by omega
  have g1 := fun W => Lib.hid (put_in x.toNat y.toNat s o W hx hy hs hl)
  have gq := fun w => get_any s (o / 256) (o % 256) w (by omega) (by omega) (by omega) (by omega) (by omega) (by omega)
  have hq : placeOf3 s (o / 256) (o % 256) = cx (near s) (near o) := by
    unfold placeOf3; rw [if_neg (by omega), show (o : Int) / 256 * 256 + (o : Int) % 256 = o from by omega]
  rw [hq] at gq
  have gg := fun w => Lib.hid (gq w)
  have he := eql3 s (o / 256) (o % 256) 255 255 255
  rw [decide_eq_false (by omega)] at he
  have n1 : (FloatKind.f64.format.order (near s) x.toNat == some Ordering.eq) = true := eqF_same (nearest_int s (by omega)) (part_of hx).1
  have n2 : (FloatKind.f64.format.order (near o) y.toNat == some Ordering.eq) = true := eqF_same (nearest_int o (by omega)) (part_of hy).1
  clear hr hr2 hx hy gq hq
  clear hv e1 e2 g5
  go_enter Try.func10, Try.ntmps10
  go_wp2_with fail
  refine (g0 _).out.mono ?_; rintro e w' ⟨rfl, rfl⟩
  go_wp2_with fail
  refine (g1 _).out.mono ?_; rintro e w' ⟨rfl, rfl⟩
  go_wp2_with fail
  refine (g2 _).out.mono ?_; rintro e w' ⟨rfl, rfl⟩
  go_wp2_with fail
  refine (gs _).out.mono ?_; rintro e w' ⟨rfl, rfl⟩
  go_wp2_with fail
  refine (gf _).out.mono ?_; rintro e w' ⟨rfl, rfl⟩
  go_wp2_with fail
  refine (gg _).out.mono ?_; rintro e w' ⟨rfl, rfl⟩
  go_wp2_with fail
  refine (g4 _).out.mono ?_; rintro e w' ⟨rfl, rfl⟩
  go_wp2_with fail
  go_region_held3 (fun w' => w'.cell? ⟨w.heap.size, 0, none⟩ = some (u8 a) ∧ w'.cell? ⟨w.heap.size, 1, none⟩ = some (u8 b) ∧ w'.cell? ⟨w.heap.size, 2, none⟩ = some (u8 c))
    (first | (go_keep; done) | ((try dsimp only); refine ⟨?_, ?_, ?_⟩ <;> go_simp))
    (first | (go_at_call 15; refine (g3 _).out.mono ?_; rintro e w' ⟨rfl, rfl⟩) | (go_at_call 39; refine (g6 _).out.mono ?_; rintro e w' ⟨rfl, rfl⟩) | (go_at_call 37; refine (g7 _).out.mono ?_; rintro e w' ⟨rfl, rfl⟩))
  go_wp2_with fail
  go_ret
  exact ⟨rfl, by repeat (first | exact Below.refl _ _ | refine Base.dn ?_ _ | refine Base.dr ?_ | refine Base.al ?_ _)⟩

theorem placeBytes_gives (x y a b c : Int) (w : World) (a0 : 0 ≤ a) (a1 : a ≤ 255) (b0 : 0 ≤ b) (b1 : b ≤ 255) (c0 : 0 ≤ c) (c1 : c ≤ 255) : Law x y a b c w := by
  by_cases ha : a = 255
  · subst ha
    cases hr : rightB x.toNat y.toNat with
    | false => exact placeBytes_no255 x y b c w b0 b1 c0 c1 (fun W => put_no _ _ W (right_no hr)) hr
    | true =>
      obtain ⟨s, o, hx, hy⟩ := right_yes hr
      by_cases h1 : s < 255
      · by_cases h2 : o < 65536
        · exact placeBytes_in255 x y b c w b0 b1 c0 c1 s o hx hy h1 h2
        · exact placeBytes_faro255 x y b c w b0 b1 c0 c1 s o hx hy (by omega) h1
      · exact placeBytes_fars255 x y b c w b0 b1 c0 c1 s o hx hy (by omega)
  · cases hr : rightB x.toNat y.toNat with
    | false => exact placeBytes_no x y a b c w a0 (by omega) b0 b1 c0 c1 (fun W => put_no _ _ W (right_no hr)) hr
    | true =>
      obtain ⟨s, o, hx, hy⟩ := right_yes hr
      by_cases h1 : s < 255
      · by_cases h2 : o < 65536
        · exact placeBytes_in x y a b c w a0 (by omega) b0 b1 c0 c1 s o hx hy h1 h2
        · exact placeBytes_faro x y a b c w a0 (by omega) b0 b1 c0 c1 s o hx hy (by omega) h1
      · exact placeBytes_fars x y a b c w a0 (by omega) b0 b1 c0 c1 s o hx hy (by omega)

set_option maxRecDepth 100000 in
theorem placeBytes_law : LawCalls 10 Try.f10 := by
  intro H enc W base args ds p hval hA hsz hfz
  rw [Try.params10] at hA hval hsz
  obtain ⟨v0, vs0, d0, ds0, p0, q0, hargs, rfl, rfl, h0, r0⟩ := trodAll_cons hA
  obtain ⟨v1, vs1, d1, ds1, p1, q1, rfl, rfl, rfl, h1, r1⟩ := trodAll_cons r0
  obtain ⟨v2, vs2, d2, ds2, p2, q2, rfl, rfl, rfl, h2, r2⟩ := trodAll_cons r1
  obtain ⟨rfl, rfl, rfl⟩ := trodAll_nil r2
  obtain rfl : args = #[v0, v1, v2] := by cases args; simp_all
  obtain ⟨x, rfl, rfl, rfl, wx⟩ := open_int Try.underlying28 (hval 0 28 v0 rfl rfl) h0
  obtain ⟨y, rfl, rfl, rfl, wy⟩ := open_int Try.underlying28 (hval 1 28 v1 rfl rfl) h1
  obtain ⟨zs, rfl, hl, hw⟩ := Base.open_array_ints Try.underlying58 Try.underlying5 (by kernel_rfl) (by kernel_rfl) (hval 2 58 v2 rfl rfl) h2
  match zs, hl with
  | [a, b, c], _ =>
    have ha := bounds_u8 (hw a (by simp))
    have hb := bounds_u8 (hw b (by simp))
    have hc := bounds_u8 (hw c (by simp))
    exact placeBytes_gives x y a b c W ha.1 ha.2 hb.1 hb.2 hc.1 hc.2

set_option maxRecDepth 100000 in
theorem PlaceBytes_holds : Rows.PlaceBytesSaid :=
  OpenClaim.holds_of_wide 10 Try.f10 rfl rfl rfl rfl rfl rfl rfl ⟨rfl, rfl, rfl, rfl, rfl⟩ rfl rfl rfl rfl rfl (by kernel_rfl) Try.func10 (by kernel_rfl)
    (of_decide_eq_true (by kernel_rfl)) (by unfold Func.isWrapper; first | (rw [if_pos (by decide +kernel)]; kernel_rfl) | (rw [if_neg (by decide +kernel)]; exact ⟨rfl, rfl⟩))
    (fun os started H enc _ => law_lifted (fn := Try.f10) (spec := Rows.placeBytesSpec) Try.func10 (by kernel_rfl) rfl rfl Try.underlying4 (of_decide_eq_true (by kernel_rfl))
      (k := 3) (by kernel_rfl) (fun H ds h => by match ds, h with | [_, _, _], _ => rfl) os started H enc
      (ChangeSpec.witness6 (enc := enc) (C := Try.checked) false ⟨#[], #[.int .u64 0, .int .u64 0, .agg #[.int .u8 0, .int .u8 0, .int .u8 0]], []⟩ 8 (by kernel_rfl) (by kernel_rfl) (by kernel_rfl) (by kernel_rfl)) placeBytes_law)
#print axioms PlaceBytes_holds
end Go.Proofs.Ytbbiohgillhmnaa
