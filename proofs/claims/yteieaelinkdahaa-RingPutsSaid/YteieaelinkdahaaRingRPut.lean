/- The reference's Put of an item. -/
import Derived.Test.YteieaelinkdahaaRingPut
namespace Go.Proofs.Yteieaelinkdahaa
open Go.RowKit Flo
attribute [local go_sem] run_store_complex

set_option maxHeartbeats 8000000 in
set_option maxRecDepth 100000 in
theorem rPutIt_any (x : Item) (seq ver idx cnt s o : Nat) (w : World) (h : Plain x seq ver idx cnt s o) :
    Calls Try.prog 29 #[x.val] w fun e w' => ∃ ad n c, e = .returned (.slice (some ad) n c) ∧ Byt w' (.slice (some ad) n c) (itemB seq ver idx cnt s o x.gone x.key x.value) ∧ Below w.heap.size w w' := by
  obtain ⟨xs, xv, xi, xc, a, b, gone, key, value⟩ := x
  obtain ⟨rfl, rfl, rfl, rfl, ha, hb, s2, v2, c1, c2, i1, p1, p2, k1, k2, lv, -⟩ := h
  simp only at ha hb k2 lv
  have GP := fun ad n cap l k x W h hk hk2 hx hm => Lib.hid (rPut_any ad n cap l k x W h hk hk2 hx hm)
  have GT := fun ad n cap l s W h hs hm => Lib.hid (rPutText_any ad n cap l s W h hs hm)
  have GS := fun W => Lib.hid (sector_in (b := b) W ha)
  have GO := fun W => Lib.hid (offset_in (a := a) W hb)
  clear k1
  obtain ⟨IT, hIT⟩ : ∃ IT : Array Value, IT = #[.int .u64 seq, .int .u64 ver, i64 idx, i64 cnt, cx a b, .bool gone, .string key, .string value] := ⟨_, rfl⟩
  have hrd0 : ∀ o, ((w.alloc (.cells #[.int .u64 seq, .int .u64 ver, i64 idx, i64 cnt, cx a b, .bool gone, .string key, .string value] 49)).alloc (.cells #[] 5)).cell? ⟨w.heap.size, o, none⟩ = IT[o]? := by
    intro o
    rw [hIT, World.cell?_alloc_lt _ _ ⟨w.heap.size, o, none⟩ (by simp)]
    exact cell_blk (blk_new _ _) _
  have hz0 : w.heap.size < ((w.alloc (.cells #[.int .u64 seq, .int .u64 ver, i64 idx, i64 cnt, cx a b, .bool gone, .string key, .string value] 49)).alloc (.cells #[] 5)).heap.size := by simp; omega
  have hB0 : Below w.heap.size w ((w.alloc (.cells #[.int .u64 seq, .int .u64 ver, i64 idx, i64 cnt, cx a b, .bool gone, .string key, .string value] 49)).alloc (.cells #[] 5)) := Base.al (Base.al (Below.refl _ _) _) _
  have hy0 : Byt ((w.alloc (.cells #[.int .u64 seq, .int .u64 ver, i64 idx, i64 cnt, cx a b, .bool gone, .string key, .string value] 49)).alloc (.cells #[] 5)) (.slice (some ⟨w.heap.size + 1, 0, none⟩) 0 0) [] := Byt.fresh (l := []) (blk_new1 w _ _) (Nat.zero_le _)
  have e0 : IT[0]? = some (.int .u64 seq) := by rw [hIT]; rfl
  have e1 : IT[1]? = some (.int .u64 ver) := by rw [hIT]; rfl
  have e2 : IT[2]? = some (i64 idx) := by rw [hIT]; rfl
  have e3 : IT[3]? = some (i64 cnt) := by rw [hIT]; rfl
  have e4 : IT[4]? = some (cx a b) := by rw [hIT]; rfl
  have e5 : IT[5]? = some (.bool gone) := by rw [hIT]; rfl
  have e6 : IT[6]? = some (.string key) := by rw [hIT]; rfl
  have e7 : IT[7]? = some (.string value) := by rw [hIT]; rfl
  clear hIT
  go_enter Try.func29, Try.ntmps29
  go_wp2_with fail
  refine (GP _ _ _ _ 8 seq _ hy0 (by decide) (by decide) (by omega) (by simp)).out.mono ?_; rintro e w1 ⟨_, rfl, hown1, ⟨ad1, n1, cap1, rfl⟩, hb1⟩
  have hrd1 : ∀ o, w1.cell? ⟨w.heap.size, o, none⟩ = IT[o]? := fun o => by rw [(rd hb1).1 _ _ hz0]; exact hrd0 o
  have hz1 : w.heap.size < w1.heap.size := Nat.lt_of_lt_of_le hz0 hb1.size
  have hB1 := Base.tr hB0 hb1
  have hy1 := own_Byt hown1
  have r1 := (hrd1 1).trans e1
  have hl1 : (([] : List Nat) ++ be 8 seq).length = 8 := by simp [be_len]
  obtain ⟨l1, hl1'⟩ : ∃ l, l = [] ++ be 8 seq := ⟨_, rfl⟩
  rw [← hl1'] at hl1 hy1
  clear hown1 hrd0 hb1 hz0 hB0 hy0
  go_wp2_with fail
  refine (GP _ _ _ _ 8 ver _ hy1 (by decide) (by decide) (by omega) (by omega)).out.mono ?_; rintro e w2 ⟨_, rfl, hown2, ⟨ad2, n2, cap2, rfl⟩, hb2⟩
  have hrd2 : ∀ o, w2.cell? ⟨w.heap.size, o, none⟩ = IT[o]? := fun o => by rw [(rd hb2).1 _ _ hz1]; exact hrd1 o
  have hz2 : w.heap.size < w2.heap.size := Nat.lt_of_lt_of_le hz1 hb2.size
  have hB2 := Base.tr hB1 hb2
  have hy2 := own_Byt hown2
  have r2 := (hrd2 2).trans e2
  have hl2 : (l1 ++ be 8 ver).length = 16 := by rw [List.length_append, be_len, hl1]
  obtain ⟨l2, hl2'⟩ : ∃ l, l = l1 ++ be 8 ver := ⟨_, rfl⟩
  rw [← hl2'] at hl2 hy2
  clear hown2 hrd1 hb2 hz1 hB1 hy1
  go_wp2_with fail
  refine (GP _ _ _ _ 1 idx _ hy2 (by decide) (by decide) (by omega) (by omega)).out.mono ?_; rintro e w3 ⟨_, rfl, hown3, ⟨ad3, n3, cap3, rfl⟩, hb3⟩
  have hrd3 : ∀ o, w3.cell? ⟨w.heap.size, o, none⟩ = IT[o]? := fun o => by rw [(rd hb3).1 _ _ hz2]; exact hrd2 o
  have hz3 : w.heap.size < w3.heap.size := Nat.lt_of_lt_of_le hz2 hb3.size
  have hB3 := Base.tr hB2 hb3
  have hy3 := own_Byt hown3
  have r3 := (hrd3 3).trans e3
  have hl3 : (l2 ++ be 1 idx).length = 17 := by rw [List.length_append, be_len, hl2]
  obtain ⟨l3, hl3'⟩ : ∃ l, l = l2 ++ be 1 idx := ⟨_, rfl⟩
  rw [← hl3'] at hl3 hy3
  clear hown3 hrd2 hb3 hz2 hB2 hy2
  go_wp2_with fail
  refine (GP _ _ _ _ 1 cnt _ hy3 (by decide) (by decide) (by omega) (by omega)).out.mono ?_; rintro e w4 ⟨_, rfl, hown4, ⟨ad4, n4, cap4, rfl⟩, hb4⟩
  have hrd4 : ∀ o, w4.cell? ⟨w.heap.size, o, none⟩ = IT[o]? := fun o => by rw [(rd hb4).1 _ _ hz3]; exact hrd3 o
  have hz4 : w.heap.size < w4.heap.size := Nat.lt_of_lt_of_le hz3 hb4.size
  have hB4 := Base.tr hB3 hb4
  have hy4 := own_Byt hown4
  have r4 := (hrd4 4).trans e4
  have hl4 : (l3 ++ be 1 cnt).length = 18 := by rw [List.length_append, be_len, hl3]
  obtain ⟨l4, hl4'⟩ : ∃ l, l = l3 ++ be 1 cnt := ⟨_, rfl⟩
  rw [← hl4'] at hl4 hy4
  clear hown4 hrd3 hb4 hz3 hB3 hy3
  go_wp2_with fail
  refine (GS _).out.mono ?_; rintro e w' hq; obtain ⟨rfl, hw'⟩ := hq
  subst hw'
  go_wp2_with fail
  refine (GP _ _ _ _ 1 s _ hy4 (by decide) (by decide) (by omega) (by omega)).out.mono ?_; rintro e w5 ⟨_, rfl, hown5, ⟨ad5, n5, cap5, rfl⟩, hb5⟩
  have hrd5 : ∀ o, w5.cell? ⟨w.heap.size, o, none⟩ = IT[o]? := fun o => by rw [(rd hb5).1 _ _ hz4]; exact hrd4 o
  have hz5 : w.heap.size < w5.heap.size := Nat.lt_of_lt_of_le hz4 hb5.size
  have hB5 := Base.tr hB4 hb5
  have hy5 := own_Byt hown5
  have r5 := (hrd5 4).trans e4
  have hl5 : (l4 ++ be 1 s).length = 19 := by rw [List.length_append, be_len, hl4]
  obtain ⟨l5, hl5'⟩ : ∃ l, l = l4 ++ be 1 s := ⟨_, rfl⟩
  rw [← hl5'] at hl5 hy5
  clear hown5 hrd4 hb5 hz4 hB4 hy4
  go_wp2_with fail
  refine (GO _).out.mono ?_; rintro e w' hq; obtain ⟨rfl, hw'⟩ := hq
  subst hw'
  go_wp2_with fail
  refine (GP _ _ _ _ 2 o _ hy5 (by decide) (by decide) (by omega) (by omega)).out.mono ?_; rintro e w6 ⟨_, rfl, hown6, ⟨ad6, n6, cap6, rfl⟩, hb6⟩
  have hrd6 : ∀ o, w6.cell? ⟨w.heap.size, o, none⟩ = IT[o]? := fun o => by rw [(rd hb6).1 _ _ hz5]; exact hrd5 o
  have hz6 : w.heap.size < w6.heap.size := Nat.lt_of_lt_of_le hz5 hb6.size
  have hB6 := Base.tr hB5 hb6
  have hy6 := own_Byt hown6
  have r6 := (hrd6 5).trans e5
  have hl6 : (l5 ++ be 2 o).length = 21 := by rw [List.length_append, be_len, hl5]
  obtain ⟨l6, hl6'⟩ : ∃ l, l = l5 ++ be 2 o := ⟨_, rfl⟩
  rw [← hl6'] at hl6 hy6
  rw [← hl6'] at hown6
  have hne6 : (Value.slice (some ad6) n6 cap6).ownBlock ≠ some w.heap.size := fun e => by have := (hown6.lt _ e).1; omega
  have HO6 := Lib.hid (own_base hown6 (Nat.le_of_lt hz5))
  clear hown6 hrd5 hb6 hz5 hB5 hy5
  obtain ⟨i0, hi, hz0, hz1, hz2⟩ := info_parts info_u8
  have e256 : ∀ n : Nat, n < 256 → be 1 n = [n] := fun n hn => by
    show [n / 256 ^ 0 % 256] = [n]
    rw [Nat.pow_zero, Nat.div_one, Nat.mod_eq_of_lt hn]
  have eo : be 2 o = [o / 256, o % 256] := by
    show [o / 256 ^ 1 % 256, o / 256 ^ 0 % 256] = _
    rw [Nat.pow_one, Nat.pow_zero, Nat.div_one, Nat.mod_eq_of_lt (by omega)]
  have hit : ∀ g : Bool, itemB seq ver idx cnt s o g key value = (l6 ++ [if g then 1 else 0] ++ key.size :: sb key) ++ value.size :: sb value := by
    intro g
    unfold itemB headIt
    rw [hl6', hl5', hl4', hl3', hl2', hl1', e256 idx (by omega), e256 cnt (by omega), e256 s (by omega), eo]
    simp
  have HIT := Lib.hid hit
  clear hit e256 eo hl6' hl5' hl4' hl3' hl2' hl1' r1 r2 r3 r4 r5 hl1 hl2 hl3 hl4 hl5 GP GS GO
  cases gone
  · have hit : itemB seq ver idx cnt s o false key value = l6 ++ [0] ++ key.size :: sb key ++ value.size :: sb value := HIT.out false
    have hbit2 : (l6 ++ [0]).length = 22 := by rw [List.length_append, hl6]; rfl
    have HIT2 := Lib.hid hit
    clear hit HIT
    go_wp2_with (at_builtin; refine wpList_append_own _ rfl _ _ 22 rfl w.heap.size 5 i0 _ 1 1 Try.underlying22 hi hz0 hz1 hz2 rfl (by decide) _ _ _ rfl (HO6.out.alloc _) ⟨w6.heap.size, 0, none⟩ 1 1 [.int .u8 0] rfl rfl ?c1 ?c2 ?c3 ?c4 ?c5 ?_)
    case c1 => exact news_of _ _ _
    case c2 => simp [Value.oneCell']
    case c3 => unfold maxLen; omega
    case c4 => omega
    case c5 => have := hB6.size; simp; omega
    intro v' w7 hown7 hgrow _
    have hB7 := Base.gr (Base.al hB6 _) hgrow (fun g hg => (HO6.out.lt g hg).1)
    have hn1 : some w.heap.size ≠ (Value.slice (some ad6) n6 cap6).ownBlock := fun e => hne6 e.symm
    have c6 : w7.cell? ⟨w.heap.size, 6, none⟩ = some (.string key) := by
      rw [grown_cell hgrow (by simp; omega) hn1, World.cell?_alloc_lt _ _ ⟨w.heap.size, 6, none⟩ hz6, hrd6]
      exact e6
    have c7 : w7.cell? ⟨w.heap.size, 7, none⟩ = some (.string value) := by
      rw [grown_cell hgrow (by simp; omega) hn1, World.cell?_alloc_lt _ _ ⟨w.heap.size, 7, none⟩ hz6, hrd6]
      exact e7
    have hz7 : w.heap.size < w7.heap.size := by have := hgrow.size; simp at this; omega
    have hown8 : w7.ownsRow w.heap.size 5 1 v' (l6 ++ [0]).length ((l6 ++ [0]).map bv) := by
      rw [hbit2, List.map_append]
      exact hown7
    have hy7 := own_Byt hown8
    rw [hbit2] at hown8
    obtain ⟨g7, cap7, rfl, -⟩ := own_pos hown8 (by omega) (by omega)
    have hit := HIT2.out
    generalize l6 ++ [0] = l7 at *
    have HIT := Lib.hid hit
    clear hit HIT2 hgrow hown7 hown8 HO6 hrd6 r6 hy6
    go_wp2_with fail
    refine (GT _ _ _ _ key _ hy7 (by omega) (by omega)).out.mono ?_; rintro e w8 ⟨_, rfl, hown9, ⟨ad8, n8, cap8, rfl⟩, hb8⟩
    have c8 : w8.cell? ⟨w.heap.size, 7, none⟩ = some (.string value) := by rw [(rd hb8).1 _ _ hz7]; exact c7
    have hy8 := own_Byt hown9
    have hB8 := Base.tr hB7 hb8
    have hl8 : (l7 ++ key.size :: sb key).length ≤ 1000 := by rw [List.length_append, List.length_cons, sb_len]; omega
    generalize l7 ++ key.size :: sb key = l8 at *
    have hz8 : w.heap.size < w8.heap.size := Nat.lt_of_lt_of_le hz7 hb8.size
    go_wp2_with fail
    refine (GT _ _ _ _ value _ hy8 (by omega) (by omega)).out.mono ?_; rintro e w9 ⟨_, rfl, hown10, ⟨ad9, n9, cap9, rfl⟩, hb9⟩
    have hy9 := own_Byt hown10
    have hB9 := Base.tr hB8 hb9
    rw [← HIT.out] at hy9
    go_wp2_with fail
    go_ret
    exact ⟨_, _, _, rfl, hy9, hB9⟩
  · have hit : itemB seq ver idx cnt s o true key value = l6 ++ [1] ++ key.size :: sb key ++ value.size :: sb value := HIT.out true
    have hbit2 : (l6 ++ [1]).length = 22 := by rw [List.length_append, hl6]; rfl
    have HIT2 := Lib.hid hit
    clear hit HIT
    go_wp2_with (at_builtin; refine wpList_append_own _ rfl _ _ 22 rfl w.heap.size 5 i0 _ 1 1 Try.underlying22 hi hz0 hz1 hz2 rfl (by decide) _ _ _ rfl (HO6.out.alloc _) ⟨w6.heap.size, 0, none⟩ 1 1 [.int .u8 1] rfl rfl ?c1 ?c2 ?c3 ?c4 ?c5 ?_)
    case c1 => exact news_of _ _ _
    case c2 => simp [Value.oneCell']
    case c3 => unfold maxLen; omega
    case c4 => omega
    case c5 => have := hB6.size; simp; omega
    intro v' w7 hown7 hgrow _
    have hB7 := Base.gr (Base.al hB6 _) hgrow (fun g hg => (HO6.out.lt g hg).1)
    have hn1 : some w.heap.size ≠ (Value.slice (some ad6) n6 cap6).ownBlock := fun e => hne6 e.symm
    have c6 : w7.cell? ⟨w.heap.size, 6, none⟩ = some (.string key) := by
      rw [grown_cell hgrow (by simp; omega) hn1, World.cell?_alloc_lt _ _ ⟨w.heap.size, 6, none⟩ hz6, hrd6]
      exact e6
    have c7 : w7.cell? ⟨w.heap.size, 7, none⟩ = some (.string value) := by
      rw [grown_cell hgrow (by simp; omega) hn1, World.cell?_alloc_lt _ _ ⟨w.heap.size, 7, none⟩ hz6, hrd6]
      exact e7
    have hz7 : w.heap.size < w7.heap.size := by have := hgrow.size; simp at this; omega
    have hown8 : w7.ownsRow w.heap.size 5 1 v' (l6 ++ [1]).length ((l6 ++ [1]).map bv) := by
      rw [hbit2, List.map_append]
      exact hown7
    have hy7 := own_Byt hown8
    rw [hbit2] at hown8
    obtain ⟨g7, cap7, rfl, -⟩ := own_pos hown8 (by omega) (by omega)
    have hit := HIT2.out
    generalize l6 ++ [1] = l7 at *
    have HIT := Lib.hid hit
    clear hit HIT2 hgrow hown7 hown8 HO6 hrd6 r6 hy6
    go_wp2_with fail
    refine (GT _ _ _ _ key _ hy7 (by omega) (by omega)).out.mono ?_; rintro e w8 ⟨_, rfl, hown9, ⟨ad8, n8, cap8, rfl⟩, hb8⟩
    have c8 : w8.cell? ⟨w.heap.size, 7, none⟩ = some (.string value) := by rw [(rd hb8).1 _ _ hz7]; exact c7
    have hy8 := own_Byt hown9
    have hB8 := Base.tr hB7 hb8
    have hl8 : (l7 ++ key.size :: sb key).length ≤ 1000 := by rw [List.length_append, List.length_cons, sb_len]; omega
    generalize l7 ++ key.size :: sb key = l8 at *
    have hz8 : w.heap.size < w8.heap.size := Nat.lt_of_lt_of_le hz7 hb8.size
    go_wp2_with fail
    refine (GT _ _ _ _ value _ hy8 (by omega) (by omega)).out.mono ?_; rintro e w9 ⟨_, rfl, hown10, ⟨ad9, n9, cap9, rfl⟩, hb9⟩
    have hy9 := own_Byt hown10
    have hB9 := Base.tr hB8 hb9
    rw [← HIT.out] at hy9
    go_wp2_with fail
    go_ret
    exact ⟨_, _, _, rfl, hy9, hB9⟩
end Go.Proofs.Yteieaelinkdahaa
