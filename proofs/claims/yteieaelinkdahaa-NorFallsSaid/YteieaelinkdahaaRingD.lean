/- Items as they come: flintlaw07's Raw and Put. -/
import Derived.Test.YteieaelinkdahaaRingP
namespace Go.Proofs.Yteieaelinkdahaa
open Go.RowKit Flo
attribute [local go_sem] run_store_complex

structure Raw where
  seq : Int
  ver : Int
  index : Int
  count : Int
  n0 : Int
  n1 : Int
  gone : Bool
  key : ByteArray
  value : ByteArray
structure Put where
  a0 : Int
  a1 : Int
  settled : Bool
  item : Raw
def Raw.item (r : Raw) : Item := ⟨r.seq, r.ver, r.index, r.count, r.n0.toNat, r.n1.toNat, r.gone, r.key, r.value⟩
abbrev Raw.val (r : Raw) : Value := .agg #[.int .u64 r.seq, .int .u64 r.ver, i64 r.index, i64 r.count, .int .u64 r.n0, .int .u64 r.n1, .bool r.gone, .string r.key, .string r.value]
abbrev Put.row (p : Put) : List Value := [.int .u64 p.a0, .int .u64 p.a1, .bool p.settled, .int .u64 p.item.seq, .int .u64 p.item.ver, i64 p.item.index, i64 p.item.count, .int .u64 p.item.n0, .int .u64 p.item.n1, .bool p.item.gone, .string p.item.key, .string p.item.value]
abbrev Puts (w : World) (v : Value) (l : List Put) : Prop := Sl w 12 v (l.map Put.row)
def Put.found (p : Put) : Found := ⟨p.a0.toNat, p.a1.toNat, sizeB p.item.key p.item.value, p.settled, p.item.item⟩

set_option maxHeartbeats 2000000 in
set_option maxRecDepth 100000 in
theorem rawItem_any (r : Raw) (w : World) : Makes 23 #[r.val] w r.item.val := by
  have ga := fun a b W => Lib.hid (at_gives a b W)
  obtain ⟨i0, hi, hz0, hz1, hz2⟩ := info_parts info_Item
  obtain ⟨seq, ver, index, count, n0, n1, gone, key, value⟩ := r
  go_enter Try.func23, Try.ntmps23
  go_wp2_with fail
  refine wp_region_ph (D := fun w' => ∃ p : OnOf _, w' = p.v) 22 [] (by kernel_rfl) (by kernel_rfl) ⟨⟨_, Base.dr (Below.refl _ _)⟩, rfl⟩ ?_
  simp only [List.take_succ_cons, List.take_zero, List.drop_succ_cons, List.drop_zero]
  have on0 := @on_rd0; have on1 := @on_rd1; have on2 := @on_rd2; have on3 := @on_new1; have on4 := @on_new2
  repeat (first | ((with_reducible refine head_quiet ?_ ?_); (focus rfl); (intro K hK); go_simp; first | ((with_reducible refine hK _ ?_); clear hK K) | (rw [if_neg (by intro h; cases h)]; (with_reducible refine hK _ ?_); clear hK K) | (apply Exists.intro; refine ⟨fun _ => ?_, hK _ ?_⟩; ((with_reducible exact (ga _ _ _).out)); clear hK K)))
  clear on0 on1 on2 on3 on4
  with_reducible refine head_nil ?_
  rintro _ rfl
  go_wp2_with fail
  exact bodyPost_ret (v := Item.val ⟨seq, ver, index, count, n0.toNat, n1.toNat, gone, key, value⟩) (by simp [results, Try.results23, go_sem]) rfl ⟨rfl, Base.dr (Base.al (Base.al (Below.refl _ _) _) _)⟩

theorem Puts.cell {w : World} {A : Option Addr} {n cap : Nat} {xs : List Put} (h : Puts w (.slice A n cap) xs) (hn : 0 < xs.length) (d : Put) :
    ∃ b off, A = some ⟨b, off, none⟩ ∧ b < w.heap.size ∧ ∀ k, k < xs.length → ∀ j u, (xs.getD k d).row[j]? = some u → w.cell? ⟨b, off + k * 12 + j, none⟩ = some u := by
  have hl := h.len
  rw [List.length_map] at hl
  obtain ⟨b, off, hA, hb, hx⟩ := h.at (by omega)
  exact ⟨b, off, hA, hb, fun k hk => (hx k (xs.getD k d).row (by simp [List.getD, hk])).2⟩

end Go.Proofs.Yteieaelinkdahaa
