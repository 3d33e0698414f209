/- bytes.Clone at a slice that is there. -/
import Derived.Test.YteieaelinkdahaaDoorPackR
namespace Go.Proofs.YteieaelinkdahaaDoor
open Go.RowKit

set_option maxHeartbeats 4000000 in
set_option maxRecDepth 100000 in
theorem clone_any (ad : Addr) (n cap : Nat) (l : List Nat) (w : World) (h : Byt w (.slice (some ad) n cap) l) (hm : l.length ≤ 100000) :
    MakesB 30 #[.slice (some ad) n cap] w l := by
  have hn := h.len
  rw [List.length_map] at hn
  subst hn
  obtain ⟨i0, hi, hz0, hz1, hz2⟩ := info_parts info_u8
  have hsrc := Byt.src (Sl.below h (Base.al (Below.refl _ _) (.cells #[] 5)))
  have hone : ∀ u ∈ l.map bv, u.oneCell' = true := by intro v hv; obtain ⟨x, _, rfl⟩ := List.mem_map.1 hv; rfl
  have hll : (l.map bv).length = l.length * 1 := by rw [List.length_map, Nat.mul_one]
  have q22 : ∀ (w : World) (a : Option Addr) (n c n' c' : Nat), (binOp .eql 24 (.slice a n c) (.slice none n' c')).run Tryd.prog w = .ok (.bool a.isNone) w := fun w a n c n' c' => Lib.run_eql_slice_nil w _ _ a n c n' c' Tryd.underlying24
  go_enter Tryd.func30, Tryd.ntmps30
  go_wp2_with (at_builtin; go_must (refine wpList_append_own _ rfl _ _ 24 rfl w.heap.size 5 i0 _ 1 1 Tryd.underlying24 hi hz0 hz1 hz2 rfl (by decide) _ _ _ rfl (own_empty _ _) ad l.length cap (l.map bv) rfl hll hsrc hone ?c3 ?c4 ?c5 ?_))
  case c3 => unfold maxLen; omega
  case c4 => omega
  case c5 => simp
  intro v1 w1 hown1 hgrow hne
  have hb1 : Below w.heap.size w w1 := Base.gr (Base.al (Below.refl _ _) _) hgrow (fun g hg => ((own_empty w 5).lt g hg).1)
  go_wp2_with fail
  go_ret
  refine ⟨v1, rfl, hown1, ?_, hb1⟩
  rcases hown1.2 with ⟨h0, _⟩ | ⟨g, c, _, h0, _⟩
  · exact absurd h0 hne
  · exact ⟨_, _, _, h0⟩
end Go.Proofs.YteieaelinkdahaaDoor
