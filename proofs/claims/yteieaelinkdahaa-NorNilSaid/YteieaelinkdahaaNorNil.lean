/- The walk of NorNil: whatever is asked of a nil device. -/
import Derived.Test.YteieaelinkdahaaNorC
namespace Go.Proofs.Yteieaelinkdahaa
open Go.RowKit Flo

noncomputable def ofPl (a b : Int) : Nat × Nat := if a < 0 ∨ 2147483647 < a ∨ b < 0 ∨ 2147483647 < b then (0, 0) else (near a, near b)
theorem of_any (a b : Int) (w : World) : Gives 10 #[i64 a, i64 b] w (cx (ofPl a b).1 (ofPl a b).2) := by
  unfold ofPl
  split
  · rename_i h; exact of_out a b w h
  · rename_i h; exact of_in a b w (by omega) (by omega) (by omega) (by omega)
theorem rof_any (a b : Int) (w : World) : Gives 79 #[i64 a, i64 b] w (cx (ofPl a b).1 (ofPl a b).2) := by
  unfold ofPl
  split
  · rename_i h; exact rof_out a b w h
  · rename_i h; exact rof_in a b w (by omega) (by omega) (by omega) (by omega)

set_option maxHeartbeats 8000000 in
set_option maxRecDepth 100000 in
theorem norNil_makes (o : OpV) (w : World) (hb : o.bn ≤ 9223372036854775807) : Makes 3 #[o.val] w (.bool true) := by
  have G0 := fun W => Lib.hid (fixed4_any W)
  have hops : Ops ((w.alloc (.cells #[i64 o.kind, i64 o.sector, i64 o.offset, .slice o.A o.bn o.bc, i64 o.n, i64 o.k, bv o.mask] 24)).alloc (.cells #[i64 o.kind, i64 o.sector, i64 o.offset, .slice o.A o.bn o.bc, i64 o.n, i64 o.k, bv o.mask] 24)) (.slice (some ⟨w.heap.size + 1, 0, none⟩) 1 1) [o] :=
    Sl.lit (k := 7) ([o].map OpV.row) (g := w.heap.size + 1) (t := 24) (n := 1) (blk_new1 w _ _) (by simp [OpV.row]) (by simp) (by intro x hx; simp at hx; subst hx; rfl) (by simp)
  have G1 := Lib.hid (cut_law _ _ _ _ _ hops (by simpa using hb))
  have P0 := fun W => Lib.hid (of_any o.sector o.offset W)
  generalize ofPl o.sector o.offset = pl at *
  obtain ⟨pa, pb⟩ := pl
  simp only at P0
  have C1 := fun W => Lib.hid (spoil_nil o.sector W)
  have C2 := fun W => Lib.hid (cut_nil o.n o.k o.mask W)
  have C3 := fun W => Lib.hid (off_nil W)
  have C4 := fun W => Lib.hid (on_nil W)
  have C5 := fun W => Lib.hid (read_nil pa pb o.n W)
  have C6 := fun W => Lib.hid (prog_nil pa pb o.A o.bn o.bc W)
  have C7 := fun W => Lib.hid (erase_nil o.sector W)
  have C8 := fun W => Lib.hid (wear_nil o.sector W)
  have C9 := fun W => Lib.hid (acts_nil W)
  have CA := fun W => Lib.hid (isOn_nil W)
  have CB := fun W => Lib.hid (offs_nil W)
  have CC := fun W => Lib.hid (geom_nil W)
  have hb0 : Below w.heap.size w ((w.alloc (.cells #[i64 o.kind, i64 o.sector, i64 o.offset, .slice o.A o.bn o.bc, i64 o.n, i64 o.k, bv o.mask] 24)).alloc (.cells #[i64 o.kind, i64 o.sector, i64 o.offset, .slice o.A o.bn o.bc, i64 o.n, i64 o.k, bv o.mask] 24)) := Base.al (Base.al (Below.refl _ _) _) _
  have hpar : ((w.alloc (.cells #[i64 o.kind, i64 o.sector, i64 o.offset, .slice o.A o.bn o.bc, i64 o.n, i64 o.k, bv o.mask] 24)).alloc (.cells #[i64 o.kind, i64 o.sector, i64 o.offset, .slice o.A o.bn o.bc, i64 o.n, i64 o.k, bv o.mask] 24)).heap[w.heap.size]? = some (Obj.cells #[i64 o.kind, i64 o.sector, i64 o.offset, .slice o.A o.bn o.bc, i64 o.n, i64 o.k, bv o.mask] 24 (0, 0)) := blk_old (blk_new w _)
  go_enter Try.func3, Try.ntmps3
  go_wp2_with fail
  refine G1.out.mono ?_; rintro e x1 ⟨rfl, hb1⟩
  have hB1 := Base.tr hb0 hb1
  have hp1 := blk_below hpar hb1
  clear G1 hpar hops hb1 hb0
  by_cases hc : o.bn ≤ 6000
  · have hcv : cutGo 0 0 ([o].map OpV.bn) = 1 := by
      show cutGo 0 0 [o.bn] = 1
      unfold cutGo
      rw [if_neg (by omega)]
      rfl
    rw [hcv]
    have f1 := cell_blk hp1 1
    have f2 := cell_blk hp1 2
    have f4 := cell_blk hp1 4
    have f5 := cell_blk hp1 5
    have f6 := cell_blk hp1 6
    have f3 := cell_blk hp1 3
    simp at f1 f2 f3 f4 f5 f6
    clear hcv
    go_wp2_with fail
    refine (P0 _).out.mono ?_; rintro e x2 ⟨rfl, rfl⟩
    go_wp2_with fail
    refine (C1 _).out.mono ?_; rintro e x2 ⟨rfl, rfl⟩
    go_wp2_with fail
    refine (C2 _).out.mono ?_; rintro e x2 ⟨rfl, rfl⟩
    go_wp2_with fail
    refine (C3 _).out.mono ?_; rintro e x2 ⟨rfl, rfl⟩
    go_wp2_with fail
    refine (C4 _).out.mono ?_; rintro e x2 ⟨rfl, rfl⟩
    go_wp2_with fail
    refine (C5 _).out.mono ?_; rintro e x2 ⟨rfl, rfl⟩
    go_wp2_with fail
    refine (G0 _).out.mono ?_; rintro e x3 ⟨rfl, hb3⟩
    have hp3 := blk_below hp1 hb3
    have hB3 := Base.tr hB1 hb3
    clear f1 f2 f3 f4 f5 f6
    have f3 := cell_blk hp3 3
    simp at f3
    go_wp2_with fail
    refine (C6 _).out.mono ?_; rintro e x4 ⟨rfl, hb4⟩
    have hp4 := blk_below hp3 hb4
    have hB4 := Base.tr hB3 hb4
    clear f3
    have f1 := cell_blk hp4 1
    simp at f1
    go_wp2_with fail
    refine (C7 _).out.mono ?_; rintro e x5 ⟨rfl, rfl⟩
    go_wp2_with fail
    refine (C8 _).out.mono ?_; rintro e x5 ⟨rfl, rfl⟩
    go_wp2_with fail
    refine (C9 _).out.mono ?_; rintro e x5 ⟨rfl, rfl⟩
    go_wp2_with fail
    refine (CA _).out.mono ?_; rintro e x5 ⟨rfl, rfl⟩
    go_wp2_with fail
    refine (CB _).out.mono ?_; rintro e x5 ⟨rfl, rfl⟩
    go_wp2_with fail
    refine (CC _).out.mono ?_; rintro e x6 ⟨rfl, hb6⟩
    go_wp2_with fail
    go_ret
    exact ⟨rfl, Base.tr hB4 hb6⟩
  · have hcv : cutGo 0 0 ([o].map OpV.bn) = 0 := by
      show cutGo 0 0 [o.bn] = 0
      unfold cutGo
      rw [if_pos (by omega)]
    rw [hcv]
    clear hcv
    go_wp2_with fail
    refine (G0 _).out.mono ?_; rintro e x2 ⟨rfl, hb2⟩
    go_wp2_with fail
    go_ret
    exact ⟨rfl, Base.tr hB1 hb2⟩
end Go.Proofs.Yteieaelinkdahaa
