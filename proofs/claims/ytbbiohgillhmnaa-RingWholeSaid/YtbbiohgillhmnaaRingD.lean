/- Items as they come: flintlaw07's Raw and Put. -/
import Derived.Test.YtbbiohgillhmnaaRingP
namespace Go.Proofs.Ytbbiohgillhmnaa
open Go.RowKit Flo
attribute [local go_sem] run_store_complex

structure Raw where
  seq : Int
  ver : Int
  index : Int
  count : Int
  n0 : Int
  n1 : Int
  gone : Bool
  key : ByteArray
  value : ByteArray
structure Put where
  a0 : Int
  a1 : Int
  settled : Bool
  item : Raw
def Raw.item (r : Raw) : Item := ⟨r.seq, r.ver, r.index, r.count, r.n0.toNat, r.n1.toNat, r.gone, r.key, r.value⟩
abbrev Raw.val (r : Raw) : Value := .agg #[.int .u64 r.seq, .int .u64 r.ver, i64 r.index, i64 r.count, .int .u64 r.n0, .int .u64 r.n1, .bool r.gone, .string r.key, .string r.value]
abbrev Put.row (p : Put) : List Value := [.int .u64 p.a0, .int .u64 p.a1, .bool p.settled, .int .u64 p.item.seq, .int .u64 p.item.ver, i64 p.item.index, i64 p.item.count, .int .u64 p.item.n0, .int .u64 p.item.n1, .bool p.item.gone, .string p.item.key, .string p.item.value]
abbrev Puts (w : World) (v : Value) (l : List Put) : Prop := Sl w 12 v (l.map Put.row)
def Put.found (p : Put) : Found := ⟨p.a0.toNat, p.a1.toNat, sizeB p.item.key p.item.value, p.settled, p.item.item⟩

set_option maxHeartbeats 2000000 in
set_option maxRecDepth 100000 in
theorem rawItem_any (r : Raw) (w : World) : Makes 53 #[r.val] w r.item.val := by
  have ga := fun a b W => Lib.hid (at_gives a b W)
  obtain ⟨i0, hi, hz0, hz1, hz2⟩ := info_parts info_Item
  obtain ⟨seq, ver, index, count, n0, n1, gone, key, value⟩ := r
  go_enter Try.func53, Try.ntmps53
  go_wp2_with fail
  refine wp_region_ph (D := fun w' => ∃ p : OnOf _, w' = p.v) 22 [] (by kernel_rfl) (by kernel_rfl) ⟨⟨_, Base.dr (Below.refl _ _)⟩, rfl⟩ ?_
  simp only [List.take_succ_cons, List.take_zero, List.drop_succ_cons, List.drop_zero]
  have on0 := @on_rd0; have on1 := @on_rd1; have on2 := @on_rd2; have on3 := @on_new1; have on4 := @on_new2
  repeat (first | ((with_reducible refine head_quiet ?_ ?_); (focus rfl); (intro K hK); go_simp; first | ((with_reducible refine hK _ ?_); clear hK K) | (rw [if_neg (by intro h; cases h)]; (with_reducible refine hK _ ?_); clear hK K) | (apply Exists.intro; refine ⟨fun _ => ?_, hK _ ?_⟩; ((with_reducible exact (ga _ _ _).out)); clear hK K)))
  clear on0 on1 on2 on3 on4
  with_reducible refine head_nil ?_
  rintro _ rfl
  go_wp2_with fail
  exact bodyPost_ret (v := Item.val ⟨seq, ver, index, count, n0.toNat, n1.toNat, gone, key, value⟩) (by simp [results, Try.results53, go_sem]) rfl ⟨rfl, Base.dr (Base.al (Base.al (Below.refl _ _) _) _)⟩

theorem Puts.cell {w : World} {A : Option Addr} {n cap : Nat} {xs : List Put} (h : Puts w (.slice A n cap) xs) (hn : 0 < xs.length) (d : Put) :
    ∃ b off, A = some ⟨b, off, none⟩ ∧ b < w.heap.size ∧ ∀ k, k < xs.length → ∀ j u, (xs.getD k d).row[j]? = some u → w.cell? ⟨b, off + k * 12 + j, none⟩ = some u := by
  have hl := h.len
  rw [List.length_map] at hl
  obtain ⟨b, off, hA, hb, hx⟩ := h.at (by omega)
  exact ⟨b, off, hA, hb, fun k hk => (hx k (xs.getD k d).row (by simp [List.getD, hk])).2⟩

set_option maxHeartbeats 4000000 in
set_option maxRecDepth 100000 in
theorem found_any (A : Option Addr) (n cap : Nat) (l : List Put) (w : World) (h : Puts w (.slice A n cap) l) (hbig : l.length ≤ 100) :
    Calls Try.prog 23 #[.slice A n cap] w fun e w' => ∃ v, e = .returned v ∧ w'.ownsRow w.heap.size 37 11 v l.length ((l.map Put.found).flatMap Found.row) ∧ Below w.heap.size w w' := by
  have n1 := h.len
  rw [List.length_map] at n1
  subst n1
  obtain ⟨i0, hi, hz0, hz1, hz2⟩ := info_parts info_Found
  have gi := fun r W => Lib.hid (rawItem_any r W)
  have ga := fun a b W => Lib.hid (at_gives a b W)
  have gs := fun k v W => Lib.hid (ringSize_any k v W)
  go_enter Try.func23, Try.ntmps23
  go_wp2_with fail
  go_loopw [3, 9] (fun v i wr => ∃ k : Nat, k ≤ l.length ∧ i = .int .i64 k ∧ wr.ownsRow w.heap.size 37 11 v k (((l.take k).map Put.found).flatMap Found.row) ∧ Below w.heap.size w wr) (fun _ i _ => l.length - (intOf i).toNat)
  case atStart => exact ⟨0, by omega, rfl, World.ownsRow_nil _ _ _ _, Below.refl _ _⟩
  case round =>
    obtain ⟨k, hk, rfl, hown, hb⟩ := hrel
    by_cases hlt : k < l.length
    · obtain ⟨b, off, rfl, hbs, hc⟩ := Puts.cell (Sl.below h hb) (by omega) l[k]
      have hg : l.getD k l[k] = l[k] := by simp [List.getD, hlt]
      have hcl := hc k hlt
      rw [hg] at hcl
      have htk : ((l.take (k + 1)).map Put.found).flatMap Found.row = ((l.take k).map Put.found).flatMap Found.row ++ l[k].found.row := by
        rw [List.take_succ_eq_append_getElem hlt, List.map_append, List.flatMap_append]
        simp
      have OWN := Lib.hid hown
      clear hc hg hown
      obtain ⟨fk, hfk⟩ : ∃ fk, fk = l[k] := ⟨_, rfl⟩
      rw [← hfk] at htk hcl
      clear hfk
      have HTK := Lib.hid htk
      obtain ⟨a0, a1, st, ⟨sq, vr, ix, ct, m0, m1, gn, ky, vl⟩⟩ := fk
      have r0 := hcl 0 _ rfl
      have r1 := hcl 1 _ rfl
      have r2 := hcl 2 _ rfl
      have r3 := hcl 3 _ rfl
      have r4 := hcl 4 _ rfl
      have r5 := hcl 5 _ rfl
      have r6 := hcl 6 _ rfl
      have r7 := hcl 7 _ rfl
      have r8 := hcl 8 _ rfl
      have r9 := hcl 9 _ rfl
      have r10 := hcl 10 _ rfl
      have r11 := hcl 11 _ rfl
      rw [Nat.add_zero] at r0
      clear hcl htk
      have gi1 : ∀ W, Hid (Makes 53 #[Raw.val ⟨sq, vr, ix, ct, m0, m1, gn, ky, vl⟩] W (Item.val ⟨sq, vr, ix, ct, m0.toNat, m1.toNat, gn, ky, vl⟩)) := fun W => gi _ W
      go_wp2_with fail
      refine (gi1 _).out.mono ?_; rintro e x1 ⟨rfl, hx1⟩
      obtain ⟨hc1, hf1⟩ := rd hx1
      have hs1 : wr.heap.size < x1.heap.size := by have := hx1.size; simp at this; omega
      have hbx := Base.tr (Base.al (Below.refl _ wr) _) hx1
      have hb2 := Base.tr hb hbx
      have hown1 := own_below OWN.out hbx
      go_wp2_with fail
      refine wp_region_ph (D := fun w' => ∃ p : OnOf _, w' = p.v) 18 [17] (by kernel_rfl) (by kernel_rfl) ⟨⟨_, Base.dr (Below.refl _ _)⟩, rfl⟩ ?_
      simp only [List.take_succ_cons, List.take_zero, List.drop_succ_cons, List.drop_zero]
      have on0 := @on_rd0; have on1 := @on_rd1; have on2 := @on_rd2; have on3 := @on_new1; have on4 := @on_new2; have on5 := @gr_rd0
      repeat ((with_reducible refine head_quiet ?_ ?_); (focus rfl); (intro K hK); go_simp; first | ((with_reducible refine hK _ ?_); clear hK K) | (rw [if_neg (by intro h; cases h)]; (with_reducible refine hK _ ?_); clear hK K) | (apply Exists.intro; refine ⟨fun _ => ?_, hK _ ?_⟩; ((first | (with_reducible exact (ga _ _ _).out) | (with_reducible exact (gs _ _ _).out))); clear hK K))
      refine head_run (by rfl) rfl (.slice (some ⟨x1.heap.size + 1, 0, none⟩) 1 1) (((x1.alloc (.cells #[.int .u64 sq, .int .u64 vr, i64 ix, i64 ct, cx m0.toNat m1.toNat, .bool gn, .string ky, .string vl] 35)).drew).alloc (.cells #[cx a0.toNat a1.toNat, i64 (sizeB ky vl), .bool st, .int .u64 sq, .int .u64 vr, i64 ix, i64 ct, cx m0.toNat m1.toNat, .bool gn, .string ky, .string vl] 37)) ?_ ⟨⟨_, Base.al (Base.dr (Below.refl _ _)) _⟩, rfl⟩ ?_
      · go_simp
      clear on0 on1 on2 on3 on4 on5
      with_reducible refine head_nil ?_
      with_reducible refine eq_intro ?_
      have hown2 := own_below hown1 (Base.dr (Base.al (Below.refl _ x1) (.cells #[.int .u64 sq, .int .u64 vr, i64 ix, i64 ct, cx m0.toNat m1.toNat, .bool gn, .string ky, .string vl] 35)))
      have hb4 := Base.dr (Base.al hb2 (.cells #[.int .u64 sq, .int .u64 vr, i64 ix, i64 ct, cx m0.toNat m1.toNat, .bool gn, .string ky, .string vl] 35))
      go_wp2_with (at_builtin; refine wpList_append_own _ rfl _ _ 31 rfl w.heap.size 37 i0 _ 11 120 Try.underlying31 hi hz0 hz1 hz2 rfl (by decide) _ _ _ rfl (hown2.alloc _) ⟨(x1.heap.size + 1), 0, none⟩ 1 1 [cx a0.toNat a1.toNat, i64 (sizeB ky vl), .bool st, .int .u64 sq, .int .u64 vr, i64 ix, i64 ct, cx m0.toNat m1.toNat, .bool gn, .string ky, .string vl] rfl rfl ?c1 ?c2 ?c3 ?c4 ?c5 ?_)
      case c1 => exact news_at (by simp) _ _
      case c2 => simp [Value.oneCell']
      case c3 => unfold maxLen; omega
      case c4 => omega
      case c5 => have := hb4.size; (try simp at this); (try simp); omega
      intro v' w2 hown3 hgrow _
      have hb5 := Base.gr (Base.al hb4 _) hgrow (fun g hg => (hown2.lt g hg).1)
      go_wp2_with fail
      refine ⟨⟨k + 1, by omega, by go_num, ?_, hb5⟩, by simp [intOf]; omega⟩
      rw [HTK.out, List.map_take]
      exact hown3
    · have hke : k = l.length := by omega
      subst hke
      rw [List.take_length] at hown
      go_wp2_with fail
      go_ret
      exact ⟨_, rfl, hown, hb⟩
end Go.Proofs.Ytbbiohgillhmnaa
