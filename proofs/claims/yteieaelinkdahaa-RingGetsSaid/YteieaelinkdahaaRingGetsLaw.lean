/- Which item any bytes are is the reference's, or they are refused with its error; it is put as it stood: for any bytes, with no condition. -/
import Derived.Test.YteieaelinkdahaaRingRT
import Derived.Test.YteieaelinkdahaaRingF
import Derived.Test.YteieaelinkdahaaFlat
import Derived.Test.YteieaelinkdahaaRow
import Derived.ChangeMaps5
namespace Go.Proofs.Yteieaelinkdahaa
open Go.ChangeShapes Go.WideShapes Go.ChangeAt Go.RowKit Go.ChangeMaps Flo
attribute [local go_sem] run_store_complex

set_option maxHeartbeats 8000000 in
set_option maxRecDepth 100000 in
theorem ringGets_long (A : Option Addr) (n cap : Nat) (l : List Nat) (w : World) (h : Byt w (.slice A n cap) l) (hm : 500 < l.length) : Makes 5 #[.slice A n cap] w (.bool true) := by
  have hn := h.len
  rw [List.length_map] at hn
  subst hn
  have G0 := fun W => Lib.hid (fixed7 W)
  have t1 : decide ((500 : Int) < (l.length : Int)) = true := decide_eq_true (by omega)
  clear h
  go_enter Try.func5, Try.ntmps5
  go_wp2_with fail
  refine (G0 _).out.mono ?_; rintro e x1 ⟨rfl, hb⟩
  go_wp2_with fail
  go_ret
  exact ⟨rfl, hb⟩

set_option maxHeartbeats 8000000 in
set_option maxRecDepth 100000 in
theorem ringGets_short (A : Option Addr) (n cap : Nat) (l : List Nat) (w : World) (h : Byt w (.slice A n cap) l) (hl : ∀ b ∈ l, b < 256) (hm : l.length ≤ 500) : Makes 5 #[.slice A n cap] w (.bool true) := by
  have hn := h.len
  rw [List.length_map] at hn
  subst hn
  obtain ⟨R, hR⟩ := read_ex l
  have G0 := fun W => Lib.hid (fixed7 W)
  have G1 := fun W hB => Lib.hid (ringGet_any A l.length cap l W (Sl.below h hB) hl (by omega) R hR)
  have G2 := fun W hB => Lib.hid (rGetIt_any A l.length cap l W (Sl.below h hB) hl (by omega) R hR)
  have t1 : decide ((500 : Int) < (l.length : Int)) = false := decide_eq_false (by omega)
  by_cases he : R.err l.length = 0
  · obtain ⟨hmay, seq, ver, idx, cnt, s, o, hP, hit⟩ := get_put hR hl he
    have GP := fun W => ringPut_yes R.item seq ver idx cnt s o W hmay hP
    rw [hit] at GP
    rw [he, res_yes he] at G1 G2
    have heq := fun W => run_eq_item R.item R.item W 9998
    have hself : itemEq R.item R.item = true := itemEq_self (by rw [mayB_rest, Bool.and_eq_true] at hmay; exact hmay.1)
    rw [hself] at heq
    clear hP hit hself hmay he hR
    go_enter Try.func5, Try.ntmps5
    go_wp2_with fail
    refine (G1 _ (Below.refl _ _)).out.mono ?_; rintro e x1 ⟨rfl, hb1⟩
    go_wp2_with fail
    refine (G2 _ (Base.al hb1 _)).out.mono ?_; rintro e x2 ⟨rfl, hb2⟩
    obtain ⟨q2, -⟩ := rd hb2
    have hs2 : x1.heap.size < x2.heap.size := by have := hb2.size; simp at this; omega
    have hB2 := Base.tr (Base.al hb1 _) hb2
    have hx2 := blk_below (blk_new x1 (.cells #[.int .u64 R.item.seq, .int .u64 R.item.ver, i64 R.item.index, i64 R.item.count, cx R.item.a R.item.b, .bool R.item.gone, .string R.item.key, .string R.item.value] 49)) hb2
    clear q2 hb2
    go_wp2_with fail
    refine (G0 _).out.mono ?_; rintro e x3 ⟨rfl, hb3⟩
    have hx3 := blk_below (blk_old hx2) hb3
    have hy3 := blk_below (blk_new x2 (.cells #[.int .u64 R.item.seq, .int .u64 R.item.ver, i64 R.item.index, i64 R.item.count, cx R.item.a R.item.b, .bool R.item.gone, .string R.item.key, .string R.item.value] 49)) hb3
    have hB3 := Base.tr (Base.al hB2 _) hb3
    clear hx2 hb3 G0 G1 G2
    have a0 : x3.cell? ⟨x1.heap.size, 0, none⟩ = some (.int .u64 R.item.seq) := cell_blk hx3 0
    have b0 : x3.cell? ⟨x2.heap.size, 0, none⟩ = some (.int .u64 R.item.seq) := cell_blk hy3 0
    have a1 : x3.cell? ⟨x1.heap.size, 1, none⟩ = some (.int .u64 R.item.ver) := cell_blk hx3 1
    have b1 : x3.cell? ⟨x2.heap.size, 1, none⟩ = some (.int .u64 R.item.ver) := cell_blk hy3 1
    have a2 : x3.cell? ⟨x1.heap.size, 2, none⟩ = some (i64 R.item.index) := cell_blk hx3 2
    have b2 : x3.cell? ⟨x2.heap.size, 2, none⟩ = some (i64 R.item.index) := cell_blk hy3 2
    have a3 : x3.cell? ⟨x1.heap.size, 3, none⟩ = some (i64 R.item.count) := cell_blk hx3 3
    have b3 : x3.cell? ⟨x2.heap.size, 3, none⟩ = some (i64 R.item.count) := cell_blk hy3 3
    have a4 : x3.cell? ⟨x1.heap.size, 4, none⟩ = some (cx R.item.a R.item.b) := cell_blk hx3 4
    have b4 : x3.cell? ⟨x2.heap.size, 4, none⟩ = some (cx R.item.a R.item.b) := cell_blk hy3 4
    have a5 : x3.cell? ⟨x1.heap.size, 5, none⟩ = some (.bool R.item.gone) := cell_blk hx3 5
    have b5 : x3.cell? ⟨x2.heap.size, 5, none⟩ = some (.bool R.item.gone) := cell_blk hy3 5
    have a6 : x3.cell? ⟨x1.heap.size, 6, none⟩ = some (.string R.item.key) := cell_blk hx3 6
    have b6 : x3.cell? ⟨x2.heap.size, 6, none⟩ = some (.string R.item.key) := cell_blk hy3 6
    have a7 : x3.cell? ⟨x1.heap.size, 7, none⟩ = some (.string R.item.value) := cell_blk hx3 7
    have b7 : x3.cell? ⟨x2.heap.size, 7, none⟩ = some (.string R.item.value) := cell_blk hy3 7
    go_wp2_with fail
    refine (GP x3).mono ?_; rintro e x4 ⟨ad, n4, c4, rfl, hy4, hb4⟩
    have k1 := conv_any hy4
    have k2 := conv_any (Sl.below h (Base.tr hB3 hb4))
    have hB4 := Base.tr hB3 hb4
    clear GP hx3 hy3 hy4 hb4
    go_wp2_with fail
    go_ret
    exact ⟨rfl, hB4⟩
  · have hle := err_le hR
    have heq := fun W => run_eq_item zeroIt zeroIt W 9998
    rw [zero_self] at heq
    rw [res_no he] at G1 G2
    rw [zeroIt_val] at G1 G2 heq
    generalize R.err l.length = er at *
    have t2 : ((er : Int) != 0) = true := by rw [bne_iff_ne]; omega
    have t3 : IntKind.i64.wrap (er : Int) = er := by rw [IntKind.wrap_i64]; omega
    clear hR he
    go_enter Try.func5, Try.ntmps5
    go_wp2_with fail
    refine (G1 _ (Below.refl _ _)).out.mono ?_; rintro e x1 ⟨rfl, hb1⟩
    go_wp2_with fail
    refine (G2 _ (Base.al hb1 _)).out.mono ?_; rintro e x2 ⟨rfl, hb2⟩
    obtain ⟨q2, -⟩ := rd hb2
    have hs2 : x1.heap.size < x2.heap.size := by have := hb2.size; simp at this; omega
    have hB2 := Base.tr (Base.al hb1 _) hb2
    have hx2 := blk_below (blk_new x1 (.cells #[.int .u64 0, .int .u64 0, i64 0, i64 0, cx 0 0, .bool false, .string { data := #[] }, .string { data := #[] }] 49)) hb2
    clear q2 hb2
    go_wp2_with fail
    refine (G0 _).out.mono ?_; rintro e x3 ⟨rfl, hb3⟩
    have hx3 := blk_below (blk_old hx2) hb3
    have hy3 := blk_below (blk_new x2 (.cells #[.int .u64 0, .int .u64 0, i64 0, i64 0, cx 0 0, .bool false, .string { data := #[] }, .string { data := #[] }] 49)) hb3
    have hB3 := Base.tr (Base.al hB2 _) hb3
    clear hx2 hb3 G0 G1 G2
    have a0 : x3.cell? ⟨x1.heap.size, 0, none⟩ = some (.int .u64 0) := cell_blk hx3 0
    have b0 : x3.cell? ⟨x2.heap.size, 0, none⟩ = some (.int .u64 0) := cell_blk hy3 0
    have a1 : x3.cell? ⟨x1.heap.size, 1, none⟩ = some (.int .u64 0) := cell_blk hx3 1
    have b1 : x3.cell? ⟨x2.heap.size, 1, none⟩ = some (.int .u64 0) := cell_blk hy3 1
    have a2 : x3.cell? ⟨x1.heap.size, 2, none⟩ = some (i64 0) := cell_blk hx3 2
    have b2 : x3.cell? ⟨x2.heap.size, 2, none⟩ = some (i64 0) := cell_blk hy3 2
    have a3 : x3.cell? ⟨x1.heap.size, 3, none⟩ = some (i64 0) := cell_blk hx3 3
    have b3 : x3.cell? ⟨x2.heap.size, 3, none⟩ = some (i64 0) := cell_blk hy3 3
    have a4 : x3.cell? ⟨x1.heap.size, 4, none⟩ = some (cx 0 0) := cell_blk hx3 4
    have b4 : x3.cell? ⟨x2.heap.size, 4, none⟩ = some (cx 0 0) := cell_blk hy3 4
    have a5 : x3.cell? ⟨x1.heap.size, 5, none⟩ = some (.bool false) := cell_blk hx3 5
    have b5 : x3.cell? ⟨x2.heap.size, 5, none⟩ = some (.bool false) := cell_blk hy3 5
    have a6 : x3.cell? ⟨x1.heap.size, 6, none⟩ = some (.string { data := #[] }) := cell_blk hx3 6
    have b6 : x3.cell? ⟨x2.heap.size, 6, none⟩ = some (.string { data := #[] }) := cell_blk hy3 6
    have a7 : x3.cell? ⟨x1.heap.size, 7, none⟩ = some (.string { data := #[] }) := cell_blk hx3 7
    have b7 : x3.cell? ⟨x2.heap.size, 7, none⟩ = some (.string { data := #[] }) := cell_blk hy3 7
    go_wp2_with fail
    go_ret
    exact ⟨rfl, hB3⟩

theorem ringGets_makes (A : Option Addr) (n cap : Nat) (l : List Nat) (w : World) (h : Byt w (.slice A n cap) l) (hl : ∀ b ∈ l, b < 256) : Makes 5 #[.slice A n cap] w (.bool true) := by
  by_cases hm : l.length ≤ 500
  · exact ringGets_short A n cap l w h hl hm
  · exact ringGets_long A n cap l w h (by omega)

section
variable {H : Type} {enc : TypeId × Value → H} {w : World} {spare : Nat → Bool} {held : Bool}
theorem leaf_u8 {r : List Value} (h : leaves enc Try.prog w 0 spare held [.int .u8] r) : ∃ x : Nat, r = [bv x] ∧ x < 256 := by
  match r, h with
  | [_], ⟨⟨a, rfl, hw⟩, _⟩ =>
    have h2 : 0 ≤ a ∧ a ≤ 255 := by
      simp [Lit.wf] at hw
      exact hw
    exact ⟨a.toNat, by show [Value.int .u8 a] = [Value.int .u8 ((a.toNat : Nat) : Int)]; rw [Int.toNat_of_nonneg h2.1], by omega⟩
end

set_option maxRecDepth 100000 in
theorem ringGets_law : LawCalls 5 Try.f5 := by
  intro H enc W base args ds p hval hA hsz hfz
  rw [Try.params5] at hA hval hsz
  obtain ⟨v0, vs0, d0, ds0, p0, q0, hargs, rfl, rfl, h0, r0⟩ := trodAll_cons hA
  obtain ⟨rfl, rfl, rfl⟩ := trodAll_nil r0
  obtain rfl : args = #[v0] := by cases args; simp_all
  obtain ⟨rr0, s0, l0, z0, A0, c0, rfl⟩ := open_flat_arg (n := 3) (ls := [.int .u8]) (k := 1) (b := 1) Try.underlying22 (by kernel_rfl) rfl (by kernel_rfl) (by decide) (by kernel_rfl) hsz (j := 0) rfl rfl (okWide_slice Try.underlying22 (hval 0 22 v0 rfl rfl)) h0
  obtain ⟨l, rfl, hl⟩ := rows_of (fun r h => leaf_u8 h) rr0 l0
  exact ringGets_makes _ _ _ l W s0 hl

set_option maxRecDepth 100000 in
theorem RingGets_holds : Rows.RingGetsSaid :=
  OpenClaim.holds_of_wide 5 Try.f5 rfl rfl rfl rfl rfl rfl rfl ⟨rfl, rfl, rfl, rfl, rfl⟩ rfl rfl rfl rfl rfl (by kernel_rfl) Try.func5 (by kernel_rfl)
    (of_decide_eq_true (by kernel_rfl)) (by unfold Func.isWrapper; first | (rw [if_pos (by decide +kernel)]; kernel_rfl) | (rw [if_neg (by decide +kernel)]; exact ⟨rfl, rfl⟩))
    (fun os started H enc _ => law_lifted (fn := Try.f5) (spec := Rows.ringGetsSpec) Try.func5 (by kernel_rfl) rfl rfl Try.underlying4 (of_decide_eq_true (by kernel_rfl))
      (k := 1) (by kernel_rfl) (fun H ds h => by match ds, h with | [_], _ => rfl) os started H enc
      (ChangeSpec.witness6 (enc := enc) (C := Try.checked) false ⟨#[], #[.slice none 0 0], []⟩ 8 (by kernel_rfl) (by kernel_rfl) (by kernel_rfl) (by kernel_rfl)) ringGets_law)
#print axioms RingGets_holds
end Go.Proofs.Yteieaelinkdahaa
