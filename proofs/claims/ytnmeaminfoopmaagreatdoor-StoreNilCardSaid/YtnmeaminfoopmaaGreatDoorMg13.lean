/- The reference's head and class. -/
import Derived.Test.YtnmeaminfoopmaaGreatDoorMg9
namespace Go.Proofs.YtnmeaminfoopmaaGreatDoor
open Go.RowKit

theorem toB_app (l m : List Nat) : toB l ++ toB m = toB (l ++ m) := by
  apply ByteArray.ext
  unfold toB
  rw [ByteArray.data_append, List.map_append]
  simp
/-- The head as a string. -/
def headS (s z : Int) : List Nat := if geoB s z then headOf s.toNat z.toNat else [0, 0, 0, 0, 0, 0, 0, 0]

set_option maxHeartbeats 4000000 in
set_option maxRecDepth 100000 in
theorem rOf_no (s z : Int) (w : World) (h : geoB s z = false) : Makes 145 #[geo s z] w (.string { data := #[0, 0, 0, 0, 0, 0, 0, 0] }) := by
  have G0 := fun W => rMay_any s z W
  rw [h] at G0
  have HG0 := fun W => Lib.hid (G0 W)
  clear h G0
  go_enter Tryz.func145, Tryz.ntmps145
  go_wp2_with fail
  refine (HG0 _).out.mono ?_; rintro e x1 ⟨rfl, hb1⟩
  go_wp2_with fail
  go_ret
  exact ⟨rfl, Base.tr (Base.al (Below.refl _ _) _) hb1⟩

set_option maxHeartbeats 4000000 in
set_option maxRecDepth 100000 in
theorem rOf_any (s z : Nat) (w : World) (h : geoB s z = true) : Makes 145 #[geo s z] w (.string (toB (headOf s z))) := by
  obtain ⟨h1, h2, h3, h4⟩ := geoB_yes h
  have G0 := fun W => rMay_any s z W
  rw [h] at G0
  have HG0 := fun W => Lib.hid (G0 W)
  have kw1 : IntKind.u64.wrap (s : Int) = (s : Int) := by rw [IntKind.wrap_u64]; omega
  have kw2 : IntKind.u64.wrap (z : Int) = (z : Int) := by rw [IntKind.wrap_u64]; omega
  have P1 := fun (W : World) (g : Nat) (hy : Byt W (.slice (some ⟨g, 0, none⟩) 4 4) mark) => Lib.hid (rPut_any ⟨g, 0, none⟩ 4 4 mark 2 s W hy (by decide) (by decide) (by omega) (by decide))
  have P2 := fun (W : World) ad n c (hy : Byt W (.slice (some ad) n c) (mark ++ be 2 s)) => Lib.hid (rPut_any ad n c (mark ++ be 2 s) 2 z W hy (by decide) (by decide) (by omega) (by simp [be_len, mark]))
  have hlt8 : ∀ b ∈ mark ++ be 2 s ++ be 2 z, b < 256 := by
    intro b hb
    rcases List.mem_append.1 hb with hb | hb
    · rcases List.mem_append.1 hb with hb | hb
      · unfold mark at hb; simp at hb; omega
      · exact be_lt _ _ _ hb
    · exact be_lt _ _ _ hb
  have S8 := fun (W : World) A n c (hy : Byt W (.slice A n c) (mark ++ be 2 s ++ be 2 z)) => Lib.hid (rsumSum_any A n c _ W hy hlt8 (by simp [be_len, mark]))
  have hsum : sumB (mark ++ be 2 s ++ be 2 z) < 2 ^ 32 := sumB_lt32 _
  have kw3 : IntKind.u64.wrap (sumB (mark ++ be 2 s ++ be 2 z) : Int) = (sumB (mark ++ be 2 s ++ be 2 z) : Int) := by rw [IntKind.wrap_u64]; omega
  have P3 := fun (W : World) (g : Nat) (hy : Byt W (.slice (some ⟨g, 0, none⟩) 0 0) []) => Lib.hid (rPut_any ⟨g, 0, none⟩ 0 0 [] 4 (sumB (mark ++ be 2 s ++ be 2 z)) W hy (by decide) (by decide) (by omega) (by decide))
  have hres : toB mark ++ toB ([] ++ be 4 (sumB (mark ++ be 2 s ++ be 2 z))) = toB (headOf s z) := by rw [toB_app]; rfl
  generalize sumB (mark ++ be 2 s ++ be 2 z) = sm at *
  generalize mark ++ be 2 s ++ be 2 z = l8 at *
  generalize mark ++ be 2 s = l6 at *
  have HR := Lib.hid hres
  clear hres hlt8 h G0
  go_enter Tryz.func145, Tryz.ntmps145
  go_wp2_with fail
  refine (HG0 _).out.mono ?_; rintro e1 x1 ⟨rfl, hb1⟩
  have hs1 : w.heap.size < x1.heap.size := by have := hb1.size; simp at this; omega
  have hB1 := Base.tr (Base.al (Below.refl _ w) _) hb1
  have kg := blk_below (blk_new w _) hb1
  clear hb1
  have c0 : x1.cell? ⟨w.heap.size, 0, none⟩ = some (i64 s) := cell_blk kg 0
  have c1 : x1.cell? ⟨w.heap.size, 1, none⟩ = some (i64 z) := cell_blk kg 1
  have hcv := Lib.run_convert_bytes_const (P := Tryz.prog) x1 95 5 #[.int .u8 84, .int .u8 120, .int .u8 78, .int .u8 82] 4 4 Tryz.underlying95 Tryz.underlying5
  go_wp2_with fail
  have hy2 : Byt (x1.alloc (.cells #[.int .u8 84, .int .u8 120, .int .u8 78, .int .u8 82] 5 (4, 5))) (.slice (some ⟨x1.heap.size, 0, none⟩) 4 4) mark := Byt.blk (l := mark) (blk_new x1 _) (by decide)
  have hB2 := Base.al hB1 (.cells #[.int .u8 84, .int .u8 120, .int .u8 78, .int .u8 82] 5 (4, 5))
  have kg2 := blk_old (x := .cells #[.int .u8 84, .int .u8 120, .int .u8 78, .int .u8 82] 5 (4, 5)) kg
  generalize (x1.alloc (.cells #[.int .u8 84, .int .u8 120, .int .u8 78, .int .u8 82] 5 (4, 5))) = x2 at *
  clear hcv c0 c1 kg
  refine (P1 _ _ hy2).out.mono ?_; rintro e2 x3 ⟨v3, rfl, hown3, ⟨ad3, n3, m3, rfl⟩, hb3⟩
  have hy3 := own_Byt hown3
  have kg3 := blk_below kg2 hb3
  have hB3 := Base.tr hB2 hb3
  have c0 : x3.cell? ⟨w.heap.size, 0, none⟩ = some (i64 s) := cell_blk kg3 0
  have c1 : x3.cell? ⟨w.heap.size, 1, none⟩ = some (i64 z) := cell_blk kg3 1
  clear kg2 hown3 hb3 hy2 hB2
  go_wp2_with fail
  refine (P2 _ _ _ _ hy3).out.mono ?_; rintro e4 x4 ⟨v4, rfl, hown4, ⟨ad4, n4, m4, rfl⟩, hb4⟩
  have hy4 := own_Byt hown4
  have hB4 := Base.tr hB3 hb4
  clear hown4 hb4 hy3 hB3 c0 c1 kg3
  go_wp2_with fail
  have hy5 := Sl.below hy4 (Base.al (Below.refl _ x4) (.cells #[] 5))
  have hB5 := Base.al hB4 (.cells #[] 5)
  have hy0 : Byt (x4.alloc (.cells #[] 5)) (.slice (some ⟨x4.heap.size, 0, none⟩) 0 0) [] := Byt.blk (l := []) (blk_new x4 _) (by decide)
  generalize hs4 : x4.heap.size = N4 at *
  generalize (x4.alloc (.cells #[] 5)) = x5 at *
  refine (S8 _ _ _ _ hy5).out.mono ?_; rintro e5 x5' ⟨rfl, rfl⟩
  go_wp2_with fail
  refine (P3 _ _ hy0).out.mono ?_; rintro e6 x6 ⟨v6, rfl, hown6, ⟨ad6, n6, m6, rfl⟩, hb6⟩
  have hcv6 := conv_any (own_Byt hown6)
  have hB6 := Base.tr hB5 hb6
  clear hown6 hb6 hy0 hy5 hB5 hy4 hB4
  go_wp2_with fail
  go_ret
  exact ⟨by rw [← HR.out]; rfl, hB6⟩
end Go.Proofs.YtnmeaminfoopmaaGreatDoor

/- The reference's class of a sector's bytes. -/
namespace Go.Proofs.YtnmeaminfoopmaaGreatDoor
open Go.RowKit

set_option maxHeartbeats 4000000 in
set_option maxRecDepth 100000 in
theorem rClass_any (s z : Int) (A : Option Addr) (n cap : Nat) (l : List Nat) (w : World) (h : Byt w (.slice A n cap) l) (hl : ∀ b ∈ l, b < 256) (hm : l.length ≤ 100000) : Makes 103 #[geo s z, .slice A n cap] w (i64 (classB s z l)) := by
  have hn := h.len
  rw [List.length_map] at hn
  subst hn
  have G0 := fun W => rMay_any s z W
  cases hg : geoB s z
  · have hv : classB s z l = 2 := by unfold classB geoN; rw [hg]; rfl
    rw [hv]
    rw [hg] at G0
    have HG0 := fun W => Lib.hid (G0 W)
    clear hv hg h G0 hm
    go_enter Tryz.func103, Tryz.ntmps103
    go_wp2_with fail
    refine (HG0 _).out.mono ?_; rintro e x1 ⟨rfl, hb1⟩
    go_wp2_with fail
    go_ret
    exact ⟨rfl, Base.tr (Base.al (Below.refl _ _) _) hb1⟩
  rw [hg] at G0
  have HG0 := fun W => Lib.hid (G0 W)
  clear G0
  by_cases hz : ¬ (l.length : Int) = z
  · have hv : classB s z l = 2 := by unfold classB geoN; rw [hg, beq_eq_false_iff_ne.2 hz]; rfl
    rw [hv]
    have t1 : ((l.length : Int) == z) = false := beq_eq_false_iff_ne.2 hz
    clear hv hg h hz hm
    go_enter Tryz.func103, Tryz.ntmps103
    go_wp2_with fail
    refine (HG0 _).out.mono ?_; rintro e x1 ⟨rfl, hb1⟩
    obtain ⟨q1, -⟩ := rd hb1
    go_wp2_with fail
    go_ret
    exact ⟨rfl, Base.tr (Base.al (Below.refl _ _) _) hb1⟩
  have hz := Decidable.not_not.1 hz
  obtain ⟨g1, g2, g3, g4⟩ := geoB_yes hg
  have hv : classB s z l = if l.take 8 = headOf s.toNat z.toNat then 1 else if blankB l then 0 else 2 := by
    unfold classB geoN; rw [hg, beq_iff_eq.2 hz]; rfl
  obtain ⟨s', rfl⟩ : ∃ s' : Nat, s = s' := ⟨s.toNat, by omega⟩
  subst hz
  simp only [Int.toNat_natCast] at hv
  have HO := fun W => Lib.hid (rOf_any s' l.length W hg)
  have t1 : ((l.length : Int) == (l.length : Int)) = true := beq_self_eq_true _
  have hcap : 8 ≤ cap := by
    obtain ⟨_, c', hv', hle, _⟩ := h
    injection hv' with _ _ hv'
    subst hv'
    rw [List.length_map] at hle
    omega
  have hcm : cap ≤ maxLen := by
    obtain ⟨_, c', hv', _, hmx, _⟩ := h
    injection hv' with _ _ hv'
    subst hv'
    exact hmx
  obtain ⟨ab, off, rfl, hab, hx⟩ := Byt.cell h (by omega)
  have HP : ∀ W, Below w.heap.size w W → Byt W (.slice (some ⟨ab, off, none⟩) 8 cap) (l.take 8) := fun W hW => by
    have := Byt.piece (Sl.below h hW) 0 8 cap (by omega) (by omega) hcm
    simpa using this
  have HCV := fun W hW => conv_any (HP W hW)
  have HX := Lib.hid hx
  clear hx
  have hs8 : ((toB (l.take 8)).toList == (toB (headOf s' l.length)).toList) = decide (l.take 8 = headOf s' l.length) := by
    rw [Bool.eq_iff_iff, beq_iff_eq, decide_eq_true_iff]
    refine ⟨fun e => ?_, fun e => by rw [e]⟩
    rw [ByteArray.toList_eq, ByteArray.toList_eq] at e
    have := congrArg sb (ByteArray.ext (Array.toList_inj.1 e))
    rwa [sb_toB _ (fun b hb => hl b (List.mem_of_mem_take hb)), sb_toB _ (headOf_lt _ _)] at this
  clear HP hm
  by_cases heq : l.take 8 = headOf s' l.length
  · rw [if_pos heq] at hv
    rw [decide_eq_true heq] at hs8
    rw [hv]
    clear hv heq hl hg h
    go_enter Tryz.func103, Tryz.ntmps103
    go_wp2_with fail
    refine (HG0 _).out.mono ?_; rintro e x1 ⟨rfl, hb1⟩
    have hs1 : w.heap.size < x1.heap.size := by have := hb1.size; simp at this; omega
    have hB1 := Base.tr (Base.al (Below.refl _ w) _) hb1
    have kg := blk_below (blk_new w _) hb1
    have c0 : x1.cell? ⟨w.heap.size, 0, none⟩ = some (i64 s') := cell_blk kg 0
    have c1 : x1.cell? ⟨w.heap.size, 1, none⟩ = some (i64 l.length) := cell_blk kg 1
    clear kg hb1
    have h8i : (8 : Int) ≤ (cap : Int) := by omega
    have k0 := fun p : OnOf x1 => on_cell (by show w.heap.size < _; omega) c0 p
    have k1 := fun p : OnOf x1 => on_cell (by show w.heap.size < _; omega) c1 p
    have kc := fun p : OnOf x1 => HCV p.v (Base.tr hB1 p.h)
    go_wp2_with fail
    have on0 := @on_rd0; have on1 := @on_rd1; have on2 := @on_rd2; have on3 := @on_new1; have on4 := @on_new2
    refine wp_region_quiet_on (by kernel_rfl) (by kernel_rfl) ?_
    repeat ((with_reducible refine wpQuiet_step (fun K hK => ?_)); go_simp; first | ((with_reducible refine hK _ ?_); clear hK K) | (rw [if_neg (by intro h; cases h)]; (with_reducible refine hK _ ?_); clear hK K) | (apply Exists.intro; refine ⟨fun _ => ?_, hK _ ?_⟩; ((with_reducible exact on_of (HO _).out)); clear hK K))
    clear on0 on1 on2 on3 on4
    with_reducible refine wpQuiet_nil ?_
    intro _ hw'
    obtain ⟨pq, hw''⟩ := hw'
    subst hw''
    go_wp2_with fail
    go_ret
    exact ⟨rfl, Base.tr hB1 pq.h⟩
  · rw [if_neg heq] at hv
    rw [decide_eq_false heq] at hs8
    rw [hv]
    clear hv heq hl hg
    obtain ⟨R, hR⟩ : ∃ R, (if blankB l = true then 0 else 2) = R := ⟨_, rfl⟩
    rw [hR]
    have HR0 : Hid ((if blankB (l.drop 0) = true then 0 else 2) = R) := Lib.hid hR
    clear hR
    go_enter Tryz.func103, Tryz.ntmps103
    go_wp2_with fail
    refine (HG0 _).out.mono ?_; rintro e x1 ⟨rfl, hb1⟩
    have hs1 : w.heap.size < x1.heap.size := by have := hb1.size; simp at this; omega
    have hB1 := Base.tr (Base.al (Below.refl _ w) _) hb1
    have kg := blk_below (blk_new w _) hb1
    have c0 : x1.cell? ⟨w.heap.size, 0, none⟩ = some (i64 s') := cell_blk kg 0
    have c1 : x1.cell? ⟨w.heap.size, 1, none⟩ = some (i64 l.length) := cell_blk kg 1
    clear kg hb1
    have h8i : (8 : Int) ≤ (cap : Int) := by omega
    have k0 := fun p : OnOf x1 => on_cell (by show w.heap.size < _; omega) c0 p
    have k1 := fun p : OnOf x1 => on_cell (by show w.heap.size < _; omega) c1 p
    have kc := fun p : OnOf x1 => HCV p.v (Base.tr hB1 p.h)
    go_wp2_with fail
    have on0 := @on_rd0; have on1 := @on_rd1; have on2 := @on_rd2; have on3 := @on_new1; have on4 := @on_new2
    refine wp_region_quiet_on (by kernel_rfl) (by kernel_rfl) ?_
    repeat ((with_reducible refine wpQuiet_step (fun K hK => ?_)); go_simp; first | ((with_reducible refine hK _ ?_); clear hK K) | (rw [if_neg (by intro h; cases h)]; (with_reducible refine hK _ ?_); clear hK K) | (apply Exists.intro; refine ⟨fun _ => ?_, hK _ ?_⟩; ((with_reducible exact on_of (HO _).out)); clear hK K))
    clear on0 on1 on2 on3 on4
    with_reducible refine wpQuiet_nil ?_
    intro _ hw'
    obtain ⟨pq, hw''⟩ := hw'
    subst hw''
    go_wp2_with fail
    have hB2 := Base.tr hB1 pq.h
    generalize pq.v = x2 at *
    go_loopw [24] (fun i wr => ∃ j : Nat, j ≤ l.length ∧ i = .int .i64 j ∧ Hid ((if blankB (l.drop j) = true then 0 else 2) = R) ∧ wr = x2) (fun i _ => l.length - (intOf i).toNat)
    case atStart => exact ⟨0, Nat.zero_le _, rfl, HR0, rfl⟩
    case round =>
      obtain ⟨j, hj, rfl, hR, rfl⟩ := hrel
      by_cases hlt : j < l.length
      · obtain ⟨x, hx0⟩ : ∃ x, l[j]? = some x := ⟨_, List.getElem?_eq_getElem hlt⟩
        have cj := (Sl.below h hB2)
        obtain ⟨ab', off', he', -, hx'⟩ := Byt.cell cj (by omega)
        injection he' with he'
        injection he' with he1 he2
        subst he1; subst he2
        have c0 := hx' j (bv x) (by rw [List.getElem?_map, hx0]; rfl)
        rw [Addr.add_lit] at c0
        have hbd := blankB_drop hx0
        have hRo := hR.out
        rw [hbd] at hRo
        clear hx' cj
        by_cases hff : x = 255
        · subst hff
          have HR1 : Hid ((if blankB (l.drop (j + 1)) = true then 0 else 2) = R) := Lib.hid (by rw [← hRo]; rfl)
          have t3 : ((255 : Int) == 255) = true := rfl
          clear hRo hbd hR
          go_wp2_with fail
          exact ⟨⟨j + 1, by omega, by go_num, HR1, trivial⟩, by simp [intOf]; omega⟩
        · have t3 : ((x : Int) == 255) = false := by rw [beq_eq_false_iff_ne]; omega
          have HR1 : Hid (2 = R) := Lib.hid (by rw [← hRo, beq_eq_false_iff_ne.2 hff]; rfl)
          clear hRo hbd hR
          go_wp2_with fail
          go_ret
          exact ⟨by rw [← HR1.out]; rfl, hB2⟩
      · have hje : j = l.length := by omega
        subst hje
        have HR1 : Hid (0 = R) := Lib.hid (by rw [← hR.out, List.drop_length]; rfl)
        clear hR
        go_wp2_with fail
        go_ret
        exact ⟨by rw [← HR1.out]; rfl, hB2⟩
end Go.Proofs.YtnmeaminfoopmaaGreatDoor

