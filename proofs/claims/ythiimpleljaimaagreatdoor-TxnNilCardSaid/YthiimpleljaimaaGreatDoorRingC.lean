/- ring.Count: which items count. -/
import Derived.Test.YthiimpleljaimaaGreatDoorMg4
import Derived.Deep.DeepMust
namespace Go.Proofs.YthiimpleljaimaaGreatDoor
open Go.RowKit Flo
attribute [local go_sem] run_store_complex

/-- The ring of a number. -/
def ringOf (l : List Found) (s : Int) : List Found := l.filter fun g => decide (g.item.seq = s)
noncomputable def countB (l : List Found) : List Bool := l.map fun f => f.settled || wholeB (ringOf l f.item.seq)

theorem zero_int (w : World) : (zeroValue 3).run Tryz.prog w = .ok (i64 0) w := by kernel_rfl
theorem info_boolE : (Tryz.prog.info? 4).map (fun i => (i.zero, i.size, i.bytes)) = some (some (.bool false), 1, 1) := by kernel_rfl
theorem zero_slice (w : World) : (zeroValue 117).run Tryz.prog w = .ok (.slice none 0 0) w := by kernel_rfl
theorem info_Found : (Tryz.prog.info? 131).map (fun i => (i.zero, i.size, i.bytes)) = some (some (.agg (Found.row default).toArray), 11, 120) := by kernel_rfl

theorem Sl.own {w : World} {base : Nat} {e : TypeId} {k : Nat} {v : Value} (rows : List (List Value)) (hk : ∀ x ∈ rows, x.length = k) (h : w.ownsRow base e k v rows.length rows.flatten) : Sl w k v rows := by
  rcases h.2 with ⟨rfl, hn⟩ | ⟨g, cap, cur, rfl, hbg, hgg, hnc, hcm, hcs, htake⟩
  · have : rows = [] := List.eq_nil_of_length_eq_zero hn
    subst this
    exact Sl.nil w k
  · refine ⟨some ⟨g, 0, none⟩, cap, rfl, hnc, hcm, (fun h => by cases h), fun _ => ⟨g, 0, rfl, (Array.getElem?_eq_some_iff.1 hgg).1, fun i x hi => ⟨hk x (List.mem_of_getElem? hi), fun j u hj => ?_⟩⟩⟩
    have := h.cells (g := g) rfl _ u (flatten_get hk i x hi j u hj)
    simpa [Addr.add_lit] using this

/-- The groups of the first items. -/
def Grp (wr : World) (mb base : Nat) (l : List Found) : Prop :=
  ∃ gl : List (Int × Value), MapR (Value.int .u64) wr mb gl ∧ mb < base ∧ (∀ s v, (s, v) ∈ gl → wr.ownsRow base 131 11 v (ringOf l s).length ((ringOf l s).flatMap Found.row) ∧ ringOf l s ≠ []) ∧
    (∀ f ∈ l, f.item.seq ∈ gl.map Prod.fst) ∧ (∀ s v s' v', (s, v) ∈ gl → (s', v') ∈ gl → s ≠ s' → v.ownBlock ≠ v'.ownBlock)

theorem ringOf_snoc (l : List Found) (f : Found) (s : Int) : ringOf (l ++ [f]) s = if f.item.seq = s then ringOf l s ++ [f] else ringOf l s := by
  unfold ringOf
  rw [List.filter_append]
  by_cases h : f.item.seq = s
  · simp [h]
  · simp [h]
theorem own_block_some {w : World} {base : Nat} {e : TypeId} {size : Nat} {v : Value} {n : Nat} {xs : List Value} (h : w.ownsRow base e size v n xs) (hn : 0 < n) : ∃ g, v.ownBlock = some g ∧ base ≤ g ∧ g < w.heap.size := by
  rcases h.2 with ⟨_, h0⟩ | ⟨g, cap, cur, rfl, hbg, hgg, _⟩
  · omega
  · exact ⟨g, rfl, hbg, (Array.getElem?_eq_some_iff.1 hgg).1⟩

/-- What is known of the group of one number ahead of an append, and the way back behind it. -/
theorem Grp.open {wr : World} {mb base : Nat} {l : List Found} (h : Grp wr mb base l) (f : Found) :
    ∃ (gl : List (Int × Value)) (v : Value), MapR (Value.int .u64) wr mb gl ∧ v = (mget gl f.item.seq).getD (.slice none 0 0) ∧ mb < base ∧
      wr.ownsRow base 131 11 v (ringOf l f.item.seq).length ((ringOf l f.item.seq).flatMap Found.row) ∧ v.ownBlock ≠ some mb ∧ (∀ g, v.ownBlock = some g → base ≤ g ∧ g < wr.heap.size) ∧
      ∀ (wq wz : World) (v' : Value), wr.grownBy wq v.ownBlock → wq.ownsRow base 131 11 v' ((ringOf l f.item.seq).length + 1) ((ringOf l f.item.seq).flatMap Found.row ++ f.row) →
        (v'.ownBlock = v.ownBlock ∨ ∃ g, v'.ownBlock = some g ∧ wr.heap.size ≤ g) → wq.grownBy wz (some mb) → MapR (Value.int .u64) wz mb (mput gl f.item.seq v') → Grp wz mb base (l ++ [f]) := by
  obtain ⟨gl, hm, hmb, hown, hkeys, hdis⟩ := h
  have hn := hm.nodup
  have hemp : mget gl f.item.seq = none → ringOf l f.item.seq = [] := fun h0 => by
    unfold ringOf
    rw [List.filter_eq_nil_iff]
    intro g hg
    have h1 := hkeys g hg
    simp only [decide_eq_true_eq]
    intro he
    rw [he, ← mget_isSome, h0] at h1
    cases h1
  obtain ⟨v, hv⟩ : ∃ v, v = (mget gl f.item.seq).getD (.slice none 0 0) := ⟨_, rfl⟩
  have hvown : wr.ownsRow base 131 11 v (ringOf l f.item.seq).length ((ringOf l f.item.seq).flatMap Found.row) := by
    cases hg : mget gl f.item.seq with
    | none =>
      rw [hg] at hv
      rw [hv, hemp hg]
      exact World.ownsRow_nil _ _ _ _
    | some u =>
      rw [hg] at hv
      rw [hv]
      exact (hown _ _ ((mget_some hn).1 hg)).1
  have hblk : ∀ g, v.ownBlock = some g → base ≤ g ∧ g < wr.heap.size := fun g hg => by
    rcases hvown.2 with ⟨he, _⟩ | ⟨g', cap, cur, he, hbg, hgg, _⟩
    · rw [he] at hg; cases hg
    · rw [he] at hg
      have : g' = g := by simpa [Value.ownBlock] using hg
      subst this
      exact ⟨hbg, (Array.getElem?_eq_some_iff.1 hgg).1⟩
  refine ⟨gl, v, hm, hv, hmb, hvown, fun he => by have := (hblk mb he).1; omega, hblk, fun wq wz v' hgrow hown' hloc hgz hmz => ?_⟩
  refine ⟨mput gl f.item.seq v', hmz, hmb, ?_, ?_, ?_⟩
  · intro s u hsu
    have hget := (mget_some (mput_nodup hn _ _)).2 hsu
    rw [mget_mput hn] at hget
    by_cases hs : s = f.item.seq
    · subst hs
      rw [if_pos rfl] at hget
      injection hget with hget
      subst hget
      rw [ringOf_snoc, if_pos rfl]
      refine ⟨?_, by simp⟩
      have hne : v'.ownBlock = none ∨ v'.ownBlock ≠ some mb := .inr fun he => by
        rcases hloc with h | ⟨g, h, hg⟩
        · have := (hblk mb (h ▸ he)).1; omega
        · rw [he] at h; injection h with h; have := hm.lt; omega
      have := hown'.kept hgz hne
      simpa [List.flatMap_append] using this
    · rw [if_neg hs] at hget
      have hmem := (mget_some hn).1 hget
      obtain ⟨h1, h2⟩ := hown s u hmem
      rw [ringOf_snoc, if_neg (fun e => hs e.symm)]
      obtain ⟨g, hg, hbg, hgl⟩ := own_block_some h1 (by cases hr : ringOf l s with | nil => exact absurd hr h2 | cons => simp)
      refine ⟨(h1.kept hgrow ?_).kept hgz ?_, h2⟩
      · right
        intro he
        cases hgv : mget gl f.item.seq with
        | none =>
          rw [hgv] at hv
          rw [hv] at he
          rw [hg] at he
          cases he
        | some u0 =>
          rw [hgv] at hv
          rw [hv] at he
          exact hdis s u _ _ hmem ((mget_some hn).1 hgv) hs he
      · right
        rw [hg]
        intro he
        injection he with he
        omega
  · intro g hg
    rw [mput_keys]
    rcases List.mem_append.1 hg with hg | hg
    · split
      · exact hkeys g hg
      · exact List.mem_append_left _ (hkeys g hg)
    · simp at hg
      subst hg
      split
      · rename_i h; exact mget_isSome.1 h
      · simp
  · intro s u s' u' h1 h2 hne
    have g1 := (mget_some (mput_nodup hn _ _)).2 h1
    have g2 := (mget_some (mput_nodup hn _ _)).2 h2
    rw [mget_mput hn] at g1 g2
    have key : ∀ t x, mget gl t = some x → t ≠ f.item.seq → x.ownBlock ≠ v'.ownBlock := fun t x hx ht he => by
      have hmem := (mget_some hn).1 hx
      obtain ⟨q1, q2⟩ := hown t x hmem
      obtain ⟨g, hg, hbg, hgl⟩ := own_block_some q1 (by cases hr : ringOf l t with | nil => exact absurd hr q2 | cons => simp)
      rcases hloc with h | ⟨g', h, hg'⟩
      · rw [h] at he
        cases hgv : mget gl f.item.seq with
        | none =>
          rw [hgv] at hv
          rw [hv, hg] at he
          cases he
        | some u0 =>
          rw [hgv] at hv
          rw [hv] at he
          exact hdis t x _ _ hmem ((mget_some hn).1 hgv) ht he
      · rw [hg, h] at he
        injection he with he
        omega
    by_cases e1 : s = f.item.seq
    · have e2 : s' ≠ f.item.seq := fun e => hne (e1.trans e.symm)
      rw [if_pos e1] at g1
      rw [if_neg e2] at g2
      injection g1 with g1
      subst g1
      exact fun e => key s' u' g2 e2 e.symm
    · rw [if_neg e1] at g1
      by_cases e2 : s' = f.item.seq
      · rw [if_pos e2] at g2
        injection g2 with g2
        subst g2
        exact key s u g1 e1
      · rw [if_neg e2] at g2
        exact hdis s u s' u' ((mget_some hn).1 g1) ((mget_some hn).1 g2) hne

set_option maxHeartbeats 8000000 in
set_option maxRecDepth 100000 in
theorem count_any (A : Option Addr) (n cap : Nat) (l : List Found) (w : World) (h : Founds w (.slice A n cap) l) (hbig : l.length * 120 ≤ 140737488351232) :
    Calls Tryz.prog 58 #[.slice A n cap] w fun e w' => ∃ v, e = .returned v ∧ w'.ownsRow w.heap.size 4 1 v l.length ((countB l).map Value.bool) ∧ Below w.heap.size w w' := by
  have n1 := h.len
  rw [List.length_map] at n1
  subst n1
  have hmm := @run_makeMap Tryz.prog
  obtain ⟨i0, hi, hz0, hz1, hz2⟩ := info_parts info_Found
  obtain ⟨i1, bi, bz0, bz1, bz2⟩ := info_parts info_boolE
  have hmx := h.max
  rw [List.length_map] at hmx
  unfold maxLen at hmx
  have K := keys_int (P := Tryz.prog) (k := 47) (q := .u64) Tryz.underlying47
  go_enter Tryz.func58, Tryz.ntmps58
  go_wp2_with fail
  go_loopw [15] (fun i wr => ∃ k : Nat, k ≤ l.length ∧ i = .int .i64 k ∧ Hid (Grp wr w.heap.size (w.heap.size + 1) (l.take k)) ∧ Below w.heap.size w wr) (fun i _ => l.length - (intOf i).toNat)
  case atStart => exact ⟨0, by omega, rfl, ⟨[], MapR.made _ _, by omega, by simp, by simp, by simp⟩, Base.al (Below.refl _ _) _⟩
  case round =>
    obtain ⟨k, hk, rfl, hgrp, hb⟩ := hrel
    by_cases hlt : k < l.length
    · obtain ⟨b, off, rfl, hbs, hc⟩ := Founds.cell (Sl.below h hb) (by omega)
      have hcl := fun q u (hq : (fd l k).row[q]? = some u) => hc k hlt q u hq
      have r0 := hcl 0 _ rfl
      have r1 := hcl 1 _ rfl
      have r2 := hcl 2 _ rfl
      have r3 := hcl 3 _ rfl
      have r4 := hcl 4 _ rfl
      have r5 := hcl 5 _ rfl
      have r6 := hcl 6 _ rfl
      have r7 := hcl 7 _ rfl
      have r8 := hcl 8 _ rfl
      have r9 := hcl 9 _ rfl
      have r10 := hcl 10 _ rfl
      rw [Nat.add_zero] at r0
      have htk : l.take (k + 1) = l.take k ++ [fd l k] := by
        rw [List.take_succ_eq_append_getElem hlt]
        simp [fd, List.getD, hlt]
      have hop := hgrp.out.open (fd l k)
      have hrl : (ringOf (l.take k) (fd l k).item.seq).length ≤ k := by
        have := List.length_filter_le (fun g => decide (g.item.seq = (fd l k).item.seq)) (l.take k)
        rw [List.length_take] at this
        unfold ringOf
        omega
      clear hc hcl hgrp
      obtain ⟨fk, hfk⟩ : ∃ fk, fk = fd l k := ⟨_, rfl⟩
      rw [← hfk] at htk hop r0 r1 r2 r3 r4 r5 r6 r7 r8 r9 r10 hrl
      clear hfk
      have hrowc : fk.row = [cx fk.at0 fk.at1, i64 fk.size, .bool fk.settled, .int .u64 fk.item.seq, .int .u64 fk.item.ver, i64 fk.item.index, i64 fk.item.count, cx fk.item.a fk.item.b, .bool fk.item.gone, .string fk.item.key, .string fk.item.value] := rfl
      obtain ⟨gl, v, hm, hv, hmb, hown, hvm, hvb, hback⟩ := hop
      obtain ⟨a0, a1, sz, st, ⟨sq, vr, ix, ct, pa, pb, gn, ky, vl⟩⟩ := fk
      simp only at r0 r1 r2 r3 r4 r5 r6 r7 r8 r9 r10 hrowc hv hown hrl
      have X : Obj := .cells (#[cx a0 a1, i64 sz, .bool st, .int .u64 sq, .int .u64 vr, i64 ix, i64 ct, cx pa pb, .bool gn, .string ky, .string vl]) 131
      have hne1 : ¬ some wr.heap.size = v.ownBlock := fun he => by have := (hvb _ he.symm).2; omega
      have hlk : ∀ (x : Obj) (p : GrOf (wr.alloc x) v.ownBlock), (Instr.lookup 183 (.map (some w.heap.size)) (.int .u64 sq) false).run Tryz.prog p.v = .ok v p.v := fun x p => by
        have := ((hm.alloc x).grown p.h (fun he => hvm he.symm)).lookup K Tryz.underlying183 (zero_slice p.v) sq false
        rw [← hv] at this
        exact this
      have HOWN := Lib.hid hown
      have HB := Lib.hid hback
      have HM := Lib.hid hm
      have HTK := Lib.hid htk
      clear hown hback hm htk hv hrowc
      go_wp2_with fail
      refine wp_region_ph (D := fun w' => ∃ p : GrOf _ v.ownBlock, w' = p.v) 12 [10, 11] (by kernel_rfl) (by kernel_rfl) ⟨⟨_, grown_dr (grown_same _ _)⟩, rfl⟩ ?_
      simp only [List.take_succ_cons, List.take_zero, List.drop_succ_cons, List.drop_zero]
      have on0 := @on_rd0; have on1 := @on_rd1; have on2 := @on_rd2; have on3 := @on_new1; have on4 := @on_new2; have on5 := @gr_rd0
      repeat ((with_reducible refine head_quiet ?_ ?_); (focus rfl); (intro K hK); go_simp; first | ((with_reducible refine hK _ ?_); clear hK K) | (rw [if_neg (by intro h; cases h)]; (with_reducible refine hK _ ?_); clear hK K) | (apply Exists.intro; refine ⟨fun _ => ?_, hK _ ?_⟩; (fail); clear hK K))
      have hcell1 : ∀ j u, [cx a0 a1, i64 sz, .bool st, .int .u64 sq, .int .u64 vr, i64 ix, i64 ct, cx pa pb, .bool gn, .string ky, .string vl][j]? = some u → (((wr.alloc (.cells #[cx a0 a1, i64 sz, .bool st, .int .u64 sq, .int .u64 vr, i64 ix, i64 ct, cx pa pb, .bool gn, .string ky, .string vl] 131)).drew).alloc (.cells #[cx a0 a1, i64 sz, .bool st, .int .u64 sq, .int .u64 vr, i64 ix, i64 ct, cx pa pb, .bool gn, .string ky, .string vl] 131)).cell? ((⟨wr.heap.size + 1, 0, none⟩ : Addr).add j) = some u := news_at (by simp) _ _
      refine head_run (by rfl) rfl (.slice (some ⟨wr.heap.size + 1, 0, none⟩) 1 1) (((wr.alloc (.cells #[cx a0 a1, i64 sz, .bool st, .int .u64 sq, .int .u64 vr, i64 ix, i64 ct, cx pa pb, .bool gn, .string ky, .string vl] 131)).drew).alloc (.cells #[cx a0 a1, i64 sz, .bool st, .int .u64 sq, .int .u64 vr, i64 ix, i64 ct, cx pa pb, .bool gn, .string ky, .string vl] 131)) ?_ ⟨⟨_, grown_al (grown_dr (grown_same _ _)) _⟩, rfl⟩ ?_
      · go_simp
      refine head_append (by rfl) rfl _ _ 117 rfl (w.heap.size + 1) 131 i0 _ 11 120 Tryz.underlying117 hi hz0 hz1 hz2 rfl (by decide) v _ _ rfl (((HOWN.out.alloc _).kept (grown_dr (grown_same _ none)) (by cases v.ownBlock <;> simp)).alloc _) ⟨wr.heap.size + 1, 0, none⟩ 1 1 [cx a0 a1, i64 sz, .bool st, .int .u64 sq, .int .u64 vr, i64 ix, i64 ct, cx pa pb, .bool gn, .string ky, .string vl] rfl rfl hcell1 (by simp [Value.oneCell']) (by decide) (by unfold maxLen; omega) (by omega) (by have := hb.size; simp; omega) (fun w2 hg => ⟨⟨w2, grown_trans (grown_al (grown_dr (grown_same _ _)) _) hg⟩, rfl⟩) ?_
      intro g cp w2 hown2 hgr hloc hgl
      clear on0 on1 on2 on3 on4 on5
      with_reducible refine head_nil ?_
      with_reducible refine eq_intro ?_
      have htot := grown_trans (grown_al (grown_dr (grown_al (grown_same wr v.ownBlock) (.cells #[cx a0 a1, i64 sz, .bool st, .int .u64 sq, .int .u64 vr, i64 ix, i64 ct, cx pa pb, .bool gn, .string ky, .string vl] 131))) (.cells #[cx a0 a1, i64 sz, .bool st, .int .u64 sq, .int .u64 vr, i64 ix, i64 ct, cx pa pb, .bool gn, .string ky, .string vl] 131)) hgr
      have hm2 := HM.out.grown htot (fun he => hvm he.symm)
      refine wpList_update_R rfl 183 _ _ _ rfl 47 117 K Tryz.underlying183 rfl sq rfl _ rfl hm2 ?_
      intro w3 hm3 hg3 hs3
      have hg4 := HB.out w2 w3 _ htot hown2 (by
        rcases hloc with h1 | h1
        · exact .inl h1.symm
        · exact .inr ⟨g, rfl, by rw [h1]; simp; omega⟩) hg3 hm3
      have hb4 := Base.gr (Base.gr hb htot (fun j hj => by have := (hvb j hj).1; omega)) hg3 (fun j hj => by injection hj with hj; omega)
      rw [← HTK.out] at hg4
      have HG4 := Lib.hid hg4
      clear hg4 hm2 hm3 hg3 hgr htot hown2 hloc hcell1
      go_wp2_with fail
      go_roundw
      case rel => exact ⟨k + 1, by omega, by go_num, HG4.out, hb4⟩
      case measure => simp [intOf]; omega
    · have hke : k = l.length := by omega
      subst hke
      rw [List.take_length] at hgrp
      have hmk := fun W => hmm 184 W
      obtain ⟨gl, hm, hmb, hgown, hkeys, hdis⟩ := hgrp.out
      have hmo := hm.alloc (.map #[] 0)
      have hm2o := MapR.made (Value.int .u64) wr
      have hbo := Base.al hb (.map #[] 0)
      have hgo : ∀ s v, (s, v) ∈ gl → (wr.alloc (.map #[] 0)).ownsRow (w.heap.size + 1) 131 11 v (ringOf l s).length ((ringOf l s).flatMap Found.row) ∧ ringOf l s ≠ [] := fun s v hsv => ⟨(hgown s v hsv).1.alloc _, (hgown s v hsv).2⟩
      have HMO := Lib.hid hmo
      have HM2O := Lib.hid hm2o
      have HGO := Lib.hid hgo
      have HKEYS := Lib.hid hkeys
      have hszr : w.heap.size + 1 ≤ wr.heap.size := by have := hm.lt; omega
      have hgb : ∀ s v, (s, v) ∈ gl → ∀ g, v.ownBlock = some g → g < wr.heap.size := fun s v hsv g hg => by
        obtain ⟨q1, q2⟩ := hgown s v hsv
        obtain ⟨g', hg', _, hl'⟩ := own_block_some q1 (by cases hr : ringOf l s with | nil => exact absurd hr q2 | cons => simp)
        rw [hg] at hg'
        injection hg' with hg'
        omega
      have HGB := Lib.hid hgb
      clear hgb
      clear hm hgown hdis hgrp hmo hm2o hgo hkeys
      go_wp2_with (first | (at_range; refine wpList_range_R rfl _ 183 rfl _ _ Tryz.underlying183 rfl HMO.out ?_; intro w0 hrg hbr hsr) | go_in)
      have hm2 := HM2O.out.below hbr
      have hg0 : ∀ s v, (s, v) ∈ gl → w0.ownsRow (w.heap.size + 1) 131 11 v (ringOf l s).length ((ringOf l s).flatMap Found.row) ∧ ringOf l s ≠ [] := fun s v hsv => ⟨own_below (HGO.out s v hsv).1 hbr, (HGO.out s v hsv).2⟩
      have hb0 := Base.tr hbo hbr
      have HRG := Lib.hid hrg
      have HM2 := Lib.hid hm2
      have HG0 := Lib.hid hg0
      have hsz0 : w0.heap.size = wr.heap.size + 2 := by rw [hsr]; simp
      clear hrg hm2 hg0 HM2O HGO HMO hbr hsr hbo
      obtain ⟨wo, rfl⟩ : ∃ wo : World, wo = wr := ⟨_, rfl⟩
      generalize hr : (wo.alloc (.map #[] 0)).heap.size = r at *
      have hr1 : r = wo.heap.size + 1 := by rw [← hr]; simp
      clear hr
      generalize wo.heap.size = mb2 at *
      subst hr1
      go_frame
      go_loopw [7, 8] (fun _ _ wq => ∃ (S : List Int) (wl : List (Int × Value)), Hid (RangeR (Value.int .u64) wq w.heap.size (mb2 + 1) gl S) ∧ Hid (MapR (Value.int .u64) wq mb2 wl) ∧ Hid (∀ x, mget wl x = if x ∈ S ∧ wholeB (ringOf l x) = true then some (i64 (ringOf l x).length) else none) ∧
        Hid (∀ s v, (s, v) ∈ gl → wq.ownsRow (w.heap.size + 1) 131 11 v (ringOf l s).length ((ringOf l s).flatMap Found.row) ∧ ringOf l s ≠ [] ∧ ∀ g, v.ownBlock = some g → g < mb2) ∧ Below w.heap.size w wq ∧ mb2 + 1 < wq.heap.size) (fun _ _ wq => wq.rangeLeft w.heap.size (mb2 + 1))
      case atStart => exact ⟨[], [], HRG.out, HM2.out, (fun x => by simp [mget]), (fun s v hsv => ⟨(HG0.out s v hsv).1, (HG0.out s v hsv).2, HGB.out s v hsv⟩), hb0, by omega⟩
      case round =>
        obtain ⟨S, wl, hrg, hm2, hget, hgo, hbq, hrq⟩ := hrel
        go_wp2_with (first | (at_next; refine wpList_next_R rfl _ rfl rfl hrg.out ?_ ?_) | go_in)
        · intro hdone
          have hmw := Lib.hid hm2.out
          have hall : ∀ f ∈ l, mget wl f.item.seq = if wholeB (ringOf l f.item.seq) = true then some (i64 (ringOf l f.item.seq).length) else none := fun f hf => by
            rw [hget.out]
            obtain ⟨p, hp, he⟩ := List.mem_map.1 (HKEYS.out f hf)
            have := hdone p.1 p.2 hp
            rw [he] at this
            simp [this]
          have hpos : ∀ f ∈ l, 0 < (ringOf l f.item.seq).length := fun f hf => List.length_pos_of_mem (a := f) (by unfold ringOf; exact List.mem_filter.2 ⟨hf, by simp⟩)
          have HALL := Lib.hid hall
          have HPOS := Lib.hid hpos
          clear hall hpos hdone hget hgo hrg hm2 HKEYS HRG HM2 HG0 HGB
          obtain ⟨wp, rfl⟩ : ∃ wp : World, wp = wr := ⟨_, rfl⟩
          go_wp2_with fail
          go_loopw [9, 48] (fun v i wq => ∃ k : Nat, k ≤ l.length ∧ i = .int .i64 k ∧ wq.ownsRow wp.heap.size 4 1 v k (((countB l).take k).map Value.bool) ∧ Below wp.heap.size wp wq) (fun _ i _ => l.length - (intOf i).toNat)
          case atStart => exact ⟨0, by omega, rfl, World.ownsRow_nil _ _ _ _, Below.refl _ _⟩
          case round =>
            obtain ⟨k, hk, rfl, hown, hbk⟩ := hrel
            by_cases hlt : k < l.length
            · have hbw := Base.tr hbq hbk
              obtain ⟨b, off, rfl, hbs, hc⟩ := Founds.cell (Sl.below h hbw) (by omega)
              have hcl := fun q u (hq : (fd l k).row[q]? = some u) => hc k hlt q u hq
              have r0 := hcl 0 _ rfl
              have r1 := hcl 1 _ rfl
              have r2 := hcl 2 _ rfl
              have r3 := hcl 3 _ rfl
              have r4 := hcl 4 _ rfl
              have r5 := hcl 5 _ rfl
              have r6 := hcl 6 _ rfl
              have r7 := hcl 7 _ rfl
              have r8 := hcl 8 _ rfl
              have r9 := hcl 9 _ rfl
              have r10 := hcl 10 _ rfl
              rw [Nat.add_zero] at r0
              have hmem : fd l k ∈ l := by simp [fd, List.getD, hlt]
              have htk : (countB l).take (k + 1) = (countB l).take k ++ [(fd l k).settled || wholeB (ringOf l (fd l k).item.seq)] := by
                rw [List.take_succ_eq_append_getElem (by unfold countB; simpa using hlt)]
                simp [countB, fd, List.getD, hlt]
              have hg := HALL.out _ hmem
              have hp := HPOS.out _ hmem
              have hlk := fun x => ((hmw.out.below hbk).alloc x).lookup K Tryz.underlying184 (zero_int _) (fd l k).item.seq false
              rw [hg] at hlk
              have OWN := Lib.hid hown
              clear hc hcl hmem hg hown
              obtain ⟨fk, hfk⟩ : ∃ fk, fk = fd l k := ⟨_, rfl⟩
              rw [← hfk] at htk hlk hp r0 r1 r2 r3 r4 r5 r6 r7 r8 r9 r10
              clear hfk
              obtain ⟨a0, a1, sz, st, ⟨sq, vr, ix, ct, pa, pb, gn, ky, vl⟩⟩ := fk
              simp only at r0 r1 r2 r3 r4 r5 r6 r7 r8 r9 r10 htk hlk hp
              obtain ⟨q, hq⟩ : ∃ q, wholeB (ringOf l sq) = q := ⟨_, rfl⟩
              rw [hq] at htk hlk
              generalize (ringOf l sq).length = rl at *
              have HTK := Lib.hid htk
              clear htk hq
              have hsz3 := hbk.size
              cases q <;> cases st
              all_goals
                simp only [Bool.false_eq_true, if_false, if_true, Option.getD_none, Option.getD_some] at hlk
                skip
              · have own1 := OWN.out.alloc (.cells #[cx a0 a1, i64 sz, .bool false, .int .u64 sq, .int .u64 vr, i64 ix, i64 ct, cx pa pb, .bool gn, .string ky, .string vl] 131)
                have hb1 := Base.al hbk (.cells #[cx a0 a1, i64 sz, .bool false, .int .u64 sq, .int .u64 vr, i64 ix, i64 ct, cx pa pb, .bool gn, .string ky, .string vl] 131)
                have hdec : decide (0 < rl) = true := decide_eq_true hp
                go_wp2_with (at_builtin; go_must (refine wpList_append_own _ rfl _ _ 125 rfl wp.heap.size 4 i1 (.bool false) 1 1 Tryz.underlying125 bi bz0 bz1 bz2 rfl (by decide) _ _ _ rfl (own1.alloc _) ⟨(wr.heap.size + 1), 0, none⟩ 1 1 [.bool false] rfl rfl ?c1 ?c2 ?c3 ?c4 ?c5 ?_))
                case c1 => exact news_at (by simp) _ _
                case c2 => simp [Value.oneCell']
                case c3 => unfold maxLen; omega
                case c4 => omega
                case c5 => have := hb1.size; (try simp at this); (try simp); omega
                intro v' w2 hown2 hgrow _
                have hb3 := Base.gr (Base.al hb1 _) hgrow (fun g hg => (own1.lt g hg).1)
                go_wp2_with fail
                refine ⟨⟨k + 1, by omega, by go_num, ?_, hb3⟩, by simp [intOf]; omega⟩
                rw [HTK.out, List.map_append, List.map_take]
                exact hown2
              · have own1 := OWN.out.alloc (.cells #[cx a0 a1, i64 sz, .bool true, .int .u64 sq, .int .u64 vr, i64 ix, i64 ct, cx pa pb, .bool gn, .string ky, .string vl] 131)
                have hb1 := Base.al hbk (.cells #[cx a0 a1, i64 sz, .bool true, .int .u64 sq, .int .u64 vr, i64 ix, i64 ct, cx pa pb, .bool gn, .string ky, .string vl] 131)
                have hdec : decide (0 < rl) = true := decide_eq_true hp
                go_wp2_with (at_builtin; go_must (refine wpList_append_own _ rfl _ _ 125 rfl wp.heap.size 4 i1 (.bool false) 1 1 Tryz.underlying125 bi bz0 bz1 bz2 rfl (by decide) _ _ _ rfl (own1.alloc _) ⟨(wr.heap.size + 1), 0, none⟩ 1 1 [.bool true] rfl rfl ?c1 ?c2 ?c3 ?c4 ?c5 ?_))
                case c1 => exact news_at (by simp) _ _
                case c2 => simp [Value.oneCell']
                case c3 => unfold maxLen; omega
                case c4 => omega
                case c5 => have := hb1.size; (try simp at this); (try simp); omega
                intro v' w2 hown2 hgrow _
                have hb3 := Base.gr (Base.al hb1 _) hgrow (fun g hg => (own1.lt g hg).1)
                go_wp2_with fail
                refine ⟨⟨k + 1, by omega, by go_num, ?_, hb3⟩, by simp [intOf]; omega⟩
                rw [HTK.out, List.map_append, List.map_take]
                exact hown2
              · have own1 := OWN.out.alloc (.cells #[cx a0 a1, i64 sz, .bool false, .int .u64 sq, .int .u64 vr, i64 ix, i64 ct, cx pa pb, .bool gn, .string ky, .string vl] 131)
                have hb1 := Base.al hbk (.cells #[cx a0 a1, i64 sz, .bool false, .int .u64 sq, .int .u64 vr, i64 ix, i64 ct, cx pa pb, .bool gn, .string ky, .string vl] 131)
                have hdec : decide (0 < rl) = true := decide_eq_true hp
                go_wp2_with (at_builtin; go_must (refine wpList_append_own _ rfl _ _ 125 rfl wp.heap.size 4 i1 (.bool false) 1 1 Tryz.underlying125 bi bz0 bz1 bz2 rfl (by decide) _ _ _ rfl (own1.alloc _) ⟨(wr.heap.size + 1), 0, none⟩ 1 1 [.bool true] rfl rfl ?c1 ?c2 ?c3 ?c4 ?c5 ?_))
                case c1 => exact news_at (by simp) _ _
                case c2 => simp [Value.oneCell']
                case c3 => unfold maxLen; omega
                case c4 => omega
                case c5 => have := hb1.size; (try simp at this); (try simp); omega
                intro v' w2 hown2 hgrow _
                have hb3 := Base.gr (Base.al hb1 _) hgrow (fun g hg => (own1.lt g hg).1)
                go_wp2_with fail
                refine ⟨⟨k + 1, by omega, by go_num, ?_, hb3⟩, by simp [intOf]; omega⟩
                rw [HTK.out, List.map_append, List.map_take]
                exact hown2
              · have own1 := OWN.out.alloc (.cells #[cx a0 a1, i64 sz, .bool true, .int .u64 sq, .int .u64 vr, i64 ix, i64 ct, cx pa pb, .bool gn, .string ky, .string vl] 131)
                have hb1 := Base.al hbk (.cells #[cx a0 a1, i64 sz, .bool true, .int .u64 sq, .int .u64 vr, i64 ix, i64 ct, cx pa pb, .bool gn, .string ky, .string vl] 131)
                have hdec : decide (0 < rl) = true := decide_eq_true hp
                go_wp2_with (at_builtin; go_must (refine wpList_append_own _ rfl _ _ 125 rfl wp.heap.size 4 i1 (.bool false) 1 1 Tryz.underlying125 bi bz0 bz1 bz2 rfl (by decide) _ _ _ rfl (own1.alloc _) ⟨(wr.heap.size + 1), 0, none⟩ 1 1 [.bool true] rfl rfl ?c1 ?c2 ?c3 ?c4 ?c5 ?_))
                case c1 => exact news_at (by simp) _ _
                case c2 => simp [Value.oneCell']
                case c3 => unfold maxLen; omega
                case c4 => omega
                case c5 => have := hb1.size; (try simp at this); (try simp); omega
                intro v' w2 hown2 hgrow _
                have hb3 := Base.gr (Base.al hb1 _) hgrow (fun g hg => (own1.lt g hg).1)
                go_wp2_with fail
                refine ⟨⟨k + 1, by omega, by go_num, ?_, hb3⟩, by simp [intOf]; omega⟩
                rw [HTK.out, List.map_append, List.map_take]
                exact hown2
            · have hke : k = l.length := by omega
              subst hke
              rw [List.take_of_length_le (by simp [countB])] at hown
              go_wp2_with fail
              go_ret
              exact ⟨_, rfl, own_base hown hbq.size, Base.tr hbq hbk⟩
        · intro x v w1 hx hxS hrg1 hlt1 hgr hsz hen
          obtain ⟨hown, hne, hvb⟩ := hgo.out x v hx
          have hbelow1 : Below w.heap.size w w1 := Base.gr hbq hgr (fun j hj => by injection hj with hj; omega)
          have hgo1 : ∀ s u, (s, u) ∈ gl → w1.ownsRow (w.heap.size + 1) 131 11 u (ringOf l s).length ((ringOf l s).flatMap Found.row) ∧ ringOf l s ≠ [] ∧ ∀ g, u.ownBlock = some g → g < mb2 := fun s u hsu => by
            obtain ⟨q1, q2, q3⟩ := hgo.out s u hsu
            refine ⟨q1.kept hgr ?_, q2, q3⟩
            cases hob : u.ownBlock with
            | none => exact .inl rfl
            | some g => right; have := q3 g hob; intro e; injection e with e; omega
          have hm3 := hm2.out.grown hgr (fun e => by injection e with e; omega)
          have hsl : Founds w1 v (ringOf l x) := Sl.own _ (by intro y hy; obtain ⟨q, _, rfl⟩ := List.mem_map.1 hy; rfl) (by
            have := (hgo1 x v hx).1
            rw [List.flatMap_def] at this
            rw [List.length_map]
            exact this)
          obtain ⟨A', cap', hv', _⟩ := hsl
          have hlen : ((ringOf l x).map Found.row).length = (ringOf l x).length := List.length_map _
          rw [hlen] at hv'
          have hrlen : (ringOf l x).length ≤ l.length := List.length_filter_le _ _
          have hpos : 0 < (ringOf l x).length := by cases hr : ringOf l x with | nil => exact absurd hr hne | cons => simp
          have gw := whole_any A' (ringOf l x).length cap' (ringOf l x) w1 (by rw [← hv']; exact Sl.own _ (by intro y hy; obtain ⟨q, _, rfl⟩ := List.mem_map.1 hy; rfl) (by
            have := (hgo1 x v hx).1
            rw [List.flatMap_def] at this
            rw [List.length_map]
            exact this)) hpos (by omega)
          have hx' := Lib.hid hx
          have HEN := hen
          subst hv'
          have HRG1 := Lib.hid hrg1
          have HM3 := Lib.hid hm3
          have HGO1 := Lib.hid hgo1
          have HLT1 := Lib.hid hlt1
          have HNS := Lib.hid hxS
          obtain ⟨q, hq⟩ : ∃ q, wholeB (ringOf l x) = q := ⟨_, rfl⟩
          rw [hq] at gw
          have GW := Lib.hid gw
          have HQ := Lib.hid hq
          generalize hrln : (ringOf l x).length = rl at *
          clear gw hq hrg1 hm3 hgo1 hlt1 hxS hgo hm2 hrg hown hgr hlen hx
          have hget2 : ∀ y, y ≠ x → ((y ∈ S ++ [x]) ↔ y ∈ S) := fun y hy => by simp [hy]
          have HGET2 := Lib.hid hget2
          clear hget2
          cases q
          all_goals
            go_wp2_with fail
            refine GW.out.mono ?_; rintro e w2 ⟨rfl, hb2⟩
          · go_wp2_with fail
            go_roundw
            case rel =>
              refine ⟨S ++ [x], wl, HRG1.out.below hb2, HM3.out.below hb2, fun y => ?_, fun s u hsu => ⟨own_below (HGO1.out s u hsu).1 hb2, (HGO1.out s u hsu).2⟩, Base.tr hbelow1 hb2, by have := hb2.size; omega⟩
              by_cases hy : y = x
              · subst hy
                rw [hget.out, if_neg (fun h => HNS.out h.1), if_neg (fun h => by rw [HQ.out] at h; cases h.2)]
              · rw [hget.out]
                simp only [HGET2.out y hy]
            case measure => rw [rangeLeft_same (hb2.block _ HRG1.out.map.lt) (hb2.block _ HRG1.out.lt)]; exact HLT1.out
          · have hm4 := HM3.out.below hb2
            have hnd := HM3.out.nodup
            go_wp2_with (refine wpList_update_R rfl 184 _ _ _ rfl 47 3 K Tryz.underlying184 rfl x rfl (i64 rl) rfl hm4 ?_; intro w3 hm5 hg5 hs5)
            have HM5 := Lib.hid hm5
            have hrl2 := Lib.hid hrln
            have hsz2 := hb2.size
            go_frame
            go_roundw
            case rel =>
              refine ⟨S ++ [x], _, (HRG1.out.below hb2).grown hg5 (fun e => by injection e with e; omega) (fun e => by injection e with e; omega), HM5.out, fun y => ?_, fun s u hsu => ⟨(own_below (HGO1.out s u hsu).1 hb2).kept hg5 ?_, (HGO1.out s u hsu).2⟩, Base.gr (Base.tr hbelow1 hb2) hg5 (fun j hj => by injection hj with hj; omega), by omega⟩
              · rw [mget_mput hnd]
                by_cases hy : y = x
                · subst hy
                  rw [if_pos rfl, if_pos ⟨by simp, HQ.out⟩, hrl2.out]
                · rw [if_neg hy, hget.out]
                  simp only [HGET2.out y hy]
              · cases hob : u.ownBlock with
                | none => exact .inl rfl
                | some g => right; have := (HGO1.out s u hsu).2.2 g hob; intro e; injection e with e; omega
            case measure =>
              have h1 := (HRG1.out.below hb2).map.lt
              have h2 := (HRG1.out.below hb2).lt
              rw [rangeLeft_same (hg5.block _ h1 (fun e => by injection e with e; omega)) (hg5.block _ h2 (fun e => by injection e with e; omega)), rangeLeft_same (hb2.block _ HRG1.out.map.lt) (hb2.block _ HRG1.out.lt)]
              exact HLT1.out
end Go.Proofs.YthiimpleljaimaaGreatDoor
