/- RingWhole: the walk. -/
import Derived.Test.YtbbiohgillhmnaaRingL
import Derived.WalkSpells
namespace Go.Proofs.Ytbbiohgillhmnaa
open Go.RowKit Flo
attribute [local go_sem] run_store_complex

theorem linkedL_len (seq : Int) (l : List Pair) : (linkedL seq l).length = l.length := by simp [linkedL]
theorem linkedL_get {seq : Int} {l : List Pair} {i : Nat} (h : i < l.length) : fd (linkedL seq l) i = ⟨(spot i).1, (spot i).2, sizeB (l.getD i default).key (l.getD i default).value, false, linkItem seq l (List.replicate l.length seq) (spots l.length) i⟩ := by
  simp [fd, linkedL, List.getD, h]
theorem ringOf_all {l : List Found} {s : Int} (h : ∀ f ∈ l, f.item.seq = s) : ringOf l s = l := List.filter_eq_self.2 fun f hf => by simp [h f hf]
theorem linkedL_seq {seq : Int} {l : List Pair} : ∀ f ∈ linkedL seq l, f.item.seq = seq ∧ f.item.count = l.length := fun f hf => by
  obtain ⟨i, _, rfl⟩ := List.mem_map.1 hf
  exact ⟨rfl, rfl⟩
theorem linkedL_whole {seq : Int} {l : List Pair} (hpos : 0 < l.length) (hbig : l.length ≤ 100) : wholeB (linkedL seq l) = true := by
  rw [wholeB_iff (by rw [linkedL_len]; exact hpos)]
  refine ⟨fun f hf => ?_, ?_, fun f hf g hg hfg => ?_⟩
  · obtain ⟨i, hi, rfl⟩ := List.mem_map.1 hf
    have := List.mem_range.1 hi
    rw [linkedL_len]
    exact ⟨rfl, by show (0 : Int) ≤ (i : Int); omega, by show (i : Int) < (l.length : Int); omega⟩
  · have : (linkedL seq l).map (fun f => f.item.index) = (List.range l.length).map fun (i : Nat) => (i : Int) := by
      unfold linkedL
      rw [List.map_map]
      rfl
    rw [this]
    exact List.Pairwise.map _ (R := fun a b => a < b) (fun a b h => by intro e; have := Int.ofNat_inj.1 e; omega) List.pairwise_lt_range
  · obtain ⟨i, hi, rfl⟩ := List.mem_map.1 hf
    obtain ⟨j, hj, rfl⟩ := List.mem_map.1 hg
    rw [linkedL_len] at hfg
    have hjl := List.mem_range.1 hj
    have e : j = (i + 1) % l.length := by
      have h1 : ((j : Nat) : Int) = (((i + 1) % l.length : Nat) : Int) := by rw [Int.natCast_emod]; exact hfg
      omega
    have hs := spots_get (n := l.length) (i := j) hjl
    show cxEq ((spots l.length).getD ((i + 1) % l.length) (0, 0)).1 ((spots l.length).getD ((i + 1) % l.length) (0, 0)).2 (spot j).1 (spot j).2 = true
    rw [← e, hs]
    obtain ⟨p1, p2⟩ := spot_ok (i := j) (by omega)
    exact cxEq_self p1 p2
theorem linkedL_count {seq : Int} {l : List Pair} (hbig : l.length ≤ 100) : ∀ b ∈ countB (linkedL seq l), b = true := by
  intro b hb
  unfold countB at hb
  obtain ⟨f, hf, rfl⟩ := List.mem_map.1 hb
  rw [(linkedL_seq f hf).1, ringOf_all (fun g hg => (linkedL_seq g hg).1)]
  have hpos : 0 < l.length := by rw [← linkedL_len seq l]; exact List.length_pos_of_mem hf
  rw [linkedL_whole hpos hbig]
  simp
/-- One that lacks an item counts for nothing. -/
theorem count_less {m : List Found} {s : Int} {n : Nat} (h : ∀ f ∈ m, f.item.seq = s ∧ f.item.count = n) (hn : m.length < n) : countB m = m.map fun f => f.settled := by
  unfold countB
  refine List.map_congr_left fun f hf => ?_
  rw [(h f hf).1, ringOf_all (fun g hg => (h g hg).1)]
  have h0 : 0 < m.length := List.length_pos_of_mem hf
  have : wholeB m = false := by
    unfold wholeB
    rw [if_pos]
    rw [(h _ (fd_mem h0)).2]
    omega
  rw [this]
  simp

/-- A store into a row of the call's own. -/
theorem own_set {w : World} {base : Nat} {e : TypeId} {size g cap n : Nat} {xs : List Value} (h : w.ownsRow base e size (.slice (some ⟨g, 0, none⟩) n cap) n xs) (q : Nat) (u : Value) :
    (w.setCell ⟨g, q, none⟩ u).ownsRow base e size (.slice (some ⟨g, 0, none⟩) n cap) n (xs.set q u) := by
  refine ⟨by rw [List.length_set]; exact h.1, ?_⟩
  rcases h.2 with ⟨hv, _⟩ | ⟨g', cap', cur, hv, hbg, hgg, hnc, hcm, hcs, htake⟩
  · cases hv
  · simp only [Value.slice.injEq, Option.some.injEq, Addr.mk.injEq, and_true, true_and] at hv
    obtain ⟨rfl, rfl⟩ := hv
    refine .inr ⟨g, cap, _, rfl, hbg, heap_setCell hgg q u, hnc, hcm, by simpa using hcs, ?_⟩
    rw [Array.toList_setIfInBounds, ← htake]
    exact List.take_set ..
theorem own_frozen {w : World} {base : Nat} {e : TypeId} {size g cap n : Nat} {xs : List Value} (h : w.ownsRow base e size (.slice (some ⟨g, 0, none⟩) n cap) n xs) (q : Nat) : w.frozen? ⟨g, q, none⟩ = false := by
  rcases h.2 with ⟨hv, _⟩ | ⟨g', cap', cur, hv, hbg, hgg, hnc, hcm, hcs, htake⟩
  · cases hv
  · simp only [Value.slice.injEq, Option.some.injEq, Addr.mk.injEq, and_true, true_and] at hv
    obtain ⟨rfl, rfl⟩ := hv
    exact frozen_blk hgg q
theorem founds_set {m : List Found} {i : Nat} (hi : i < m.length) (b : Bool) : (m.flatMap Found.row).set (i * 11 + 2) (.bool b) = (m.set i { fd m i with settled := b }).flatMap Found.row := by
  induction m generalizing i with
  | nil => simp at hi
  | cons f m ih =>
    cases i with
    | zero => rfl
    | succ i =>
      have hi' : i < m.length := by simpa using hi
      rw [List.set_cons_succ, List.flatMap_cons, List.flatMap_cons, show fd (f :: m) (i + 1) = fd m i from rfl, ← ih hi']
      rw [List.set_append_right _ _ (by show 11 ≤ (i + 1) * 11 + 2; omega)]
      congr 2
      show (i + 1) * 11 + 2 - 11 = i * 11 + 2
      omega

abbrev Bools (w : World) (v : Value) (l : List Bool) : Prop := Sl w 1 v (l.map fun b => [Value.bool b])
theorem Bools.cell {w : World} {A : Option Addr} {n cap : Nat} {xs : List Bool} (h : Bools w (.slice A n cap) xs) (hn : 0 < xs.length) :
    ∃ b off, A = some ⟨b, off, none⟩ ∧ b < w.heap.size ∧ ∀ k (hk : k < xs.length), w.cell? ⟨b, off + k, none⟩ = some (.bool xs[k]) := by
  have hl := h.len
  rw [List.length_map] at hl
  obtain ⟨b, off, hA, hb, hx⟩ := h.at (by omega)
  refine ⟨b, off, hA, hb, fun k hk => ?_⟩
  have := (hx k [.bool xs[k]] (by simp [hk])).2 0 _ rfl
  simpa using this

set_option maxHeartbeats 16000000 in
set_option maxRecDepth 100000 in
theorem ringWhole_makes (seq : Int) (A B : Option Addr) (n q c1 c2 : Nat) (l : List Pair) (lost : Nat) (hlost : lost ≤ 255) (ss : List Bool) (w : World) (h1 : Pairs w (.slice A n c1) l) (h2 : Bools w (.slice B q c2) ss) :
    Makes 5 #[.int .u64 seq, .slice A n c1, .int .u8 lost, .slice B q c2] w (.bool true) := by
  have gf := fun W => Lib.hid (fixed7 W)
  have n1 := h1.len
  have n2 := h2.len
  rw [List.length_map] at n1 n2
  subst n1; subst n2
  by_cases hl : 100 < l.length ∨ l.length = 0
  · obtain ⟨t1, ht1⟩ : ∃ t, decide ((100 : Int) < (l.length : Int)) = t := ⟨_, rfl⟩
    obtain ⟨t2, ht2⟩ : ∃ t, ((l.length : Int) == 0) = t := ⟨_, rfl⟩
    have hor : (t1 || t2) = true := by
      rw [← ht1, ← ht2, Bool.or_eq_true, beq_iff_eq, decide_eq_true_eq]
      omega
    clear hl h1 h2
    cases t1 <;> cases t2
    · cases hor
    all_goals
      clear hor
      go_enter Try.func5, Try.ntmps5
      go_wp2_with fail
      refine (gf _).out.mono ?_; rintro e w1 ⟨rfl, hb⟩
      go_wp2_with fail
      go_ret
      exact ⟨rfl, hb⟩
  · have t1 : decide ((100 : Int) < (l.length : Int)) = false := decide_eq_false (by omega)
    have t2 : ((l.length : Int) == 0) = false := by rw [beq_eq_false_iff_ne]; omega
    have t3 : ¬ 100 < l.length := by omega
    have t4 : l.length ≠ 0 := by omega
    have gl := Lib.hid (linked_any seq A l.length c1 l w h1 (by omega))
    have en := fun w g n c => Lib.run_eql_slice_nil (P := Try.prog) w 31 37 (some ⟨g, 0, none⟩) n c 0 0 Try.underlying31
    have en0 := fun w => Lib.run_eql_slice_nil (P := Try.prog) w 31 37 none 0 0 0 0 Try.underlying31
    by_cases hok : linkedOk seq l
    · go_enter Try.func5, Try.ntmps5
      go_wp2_with fail
      refine gl.out.mono ?_; rintro e w1 ⟨hyes, -, hb1⟩
      obtain ⟨v, rfl, hown⟩ := hyes hok
      clear hyes
      obtain ⟨g, cp, rfl, hg0, hg1, hcp, hcell⟩ := own_pos hown (by omega) (by decide)
      have OWN := Lib.hid hown
      have HC := Lib.hid hcell
      clear hown hcell
      have hfl : (linkedL seq l).length = l.length := linkedL_len seq l
      have hcnt := linkedL_count (seq := seq) (l := l) (by omega)
      have hcl : (countB (linkedL seq l)).length = l.length := by unfold countB; rw [List.length_map, hfl]
      have hseq := @linkedL_seq seq l
      generalize linkedL seq l = fs at *
      have hS1 : Founds w1 (.slice (some ⟨g, 0, none⟩) l.length cp) fs := Sl.own _ (by intro y hy; obtain ⟨q, _, rfl⟩ := List.mem_map.1 hy; rfl) (by
        have := OWN.out
        rw [List.flatMap_def] at this
        rw [List.length_map, hfl]
        exact this)
      have cc := Lib.hid (count_any (some ⟨g, 0, none⟩) l.length cp fs w1 hS1 (by omega))
      have HCNT := Lib.hid hcnt
      have HSEQ := Lib.hid hseq
      have HFL := Lib.hid hfl
      clear hS1 hcnt hseq hfl gl en0
      go_wp2_with fail
      refine cc.out.mono ?_; rintro e w2 ⟨va, rfl, howna, hb2⟩
      rw [HFL.out] at howna
      obtain ⟨ga, cpa, rfl, hga0, hga1, hcpa, hca⟩ := own_pos howna (by omega) (by decide)
      have hca1 : ∀ j, j < l.length → w2.cell? ⟨ga, j, none⟩ = some (.bool true) := fun j hj => by
        refine hca j _ ?_
        rw [List.getElem?_map, List.getElem?_eq_getElem (by omega)]
        have := HCNT.out _ (List.getElem_mem (l := countB fs) (n := j) (by omega))
        rw [this]
        rfl
      clear howna hca
      have hbw := Base.tr hb1 hb2
      go_wp2_with fail
      go_loopw [35] (fun i wq => ∃ q : Nat, q ≤ l.length ∧ i = .int .i64 q ∧ Below w2.heap.size w2 wq) (fun i _ => l.length - (intOf i).toNat)
      case atStart => exact ⟨0, by omega, rfl, Below.refl _ _⟩
      case round =>
        obtain ⟨q, hq, rfl, hbq⟩ := hrel
        by_cases hlt : q < l.length
        · have ca := ((rd hbq).1 ga q hga1).trans (hca1 q hlt)
          go_wp2_with fail
          exact ⟨⟨q + 1, by omega, by go_num, hbq⟩, by simp [intOf]; omega⟩
        · have hke : q = l.length := by omega
          subst hke
          obtain ⟨wo, rfl⟩ : ∃ wo : World, wo = wr := ⟨_, rfl⟩
          have hbo := Base.tr hbw hbq
          have hb1o := Base.tr hb2 hbq
          have hgo := Nat.lt_of_lt_of_le hg1 hb1o.size
          have hmod : (lost : Int).tmod (l.length : Int) = ((lost % l.length : Nat) : Int) := by rw [Int.tmod_eq_emod_of_nonneg (by omega)]; push_cast; rfl
          have hklt : lost % l.length < l.length := Nat.mod_lt _ (by omega)
          have hcells := fun (j : Nat) (u : Value) (hj : (fs.flatMap Found.row)[j]? = some u) => ((rd hb1o).1 g j hg1).trans (HC.out j u hj)
          generalize hk : lost % l.length = k at *
          have hk1 : (k : Int) + 1 ≤ (l.length : Int) := by omega
          have hk2 : (k : Int) + 1 ≤ (cp : Int) := by omega
          have hk3 : k + 1 ≤ cp := by omega
          have hk4 : (k : Int) ≤ (cp : Int) := by omega
          have hk5 : k ≤ cp := by omega
          have hk6 : (k : Int) ≤ (l.length : Int) := by omega
          obtain ⟨i0, hi, hz0, hz1, hz2⟩ := info_parts info_Found
          have hpart0 : ∀ (x : Obj) j u, ((fs.take k).flatMap Found.row)[j]? = some u → (wo.alloc x).cell? ((⟨g, 0, none⟩ : Addr).add j) = some u := fun x j u hj => by
            rw [Addr.add_lit, Nat.zero_add]
            rw [← founds_take, List.getElem?_take] at hj
            split at hj
            · exact (World.cell?_alloc_lt wo x ⟨g, j, none⟩ hgo).trans (hcells _ _ hj)
            · cases hj
          have HCELLS := Lib.hid hcells
          have HK := Lib.hid hk
          clear hk hcells cc hca1 en
          go_wp2_with (at_builtin; go_must (refine wpList_append_own _ rfl _ _ 31 rfl wo.heap.size 37 i0 _ 11 120 Try.underlying31 hi hz0 hz1 hz2 rfl (by decide) _ _ _ rfl (World.ownsRow_made wo #[] 0 (Nat.le_refl _) (Nat.zero_le _) rfl) ⟨g, 0, none⟩ k cp ((fs.take k).flatMap Found.row) rfl ?c0 (hpart0 _) (founds_one _) ?c3 ?c4 ?c5 ?_))
          case c0 => rw [founds_len, List.length_take, HFL.out, Nat.min_eq_left (by omega)]
          case c3 => unfold maxLen; omega
          case c4 => omega
          case c5 => simp
          intro v2 x2 hown2 hgr2 _
          have hbx2 := Base.gr (Base.al (Below.refl _ wo) (.cells #[] 37)) hgr2 (fun j hj => by simp [Value.ownBlock] at hj; omega)
          have OWN2 := Lib.hid hown2
          have hgx2 : g < x2.heap.size := Nat.lt_of_lt_of_le hgo hbx2.size
          have hcells2 := fun (j : Nat) (u : Value) (hj : (fs.flatMap Found.row)[j]? = some u) => ((rd hbx2).1 g j hgo).trans (HCELLS.out j u hj)
          have e1 : IntKind.i64.wrap ((k : Int) + 1) = (k : Int) + 1 := by rw [IntKind.wrap_i64]; omega
          clear hown2 hgr2 hpart0 HCELLS
          have hlen4 : ((fs.drop (k + 1)).flatMap Found.row).length = (l.length - (k + 1)) * 11 := by rw [founds_len, List.length_drop, HFL.out]
          have hpart1 := founds_part hcells2 (k + 1)
          have hnil : cp = k + 1 → (fs.drop (k + 1)).flatMap Found.row = [] := fun h => by
            rw [List.drop_eq_nil_of_le (by have := HFL.out; omega)]; rfl
          have HLEN4 := Lib.hid hlen4
          have HPART1 := Lib.hid hpart1
          have HNIL := Lib.hid hnil
          clear hlen4 hpart1 hnil hcells2
          by_cases hcpk : cp = k + 1
          focus
            go_wp2_with (at_builtin; go_must (refine wpList_append_own _ rfl _ _ 31 rfl wo.heap.size 37 i0 _ 11 120 Try.underlying31 hi hz0 hz1 hz2 rfl (by decide) _ _ _ rfl OWN2.out ⟨g, 0, none⟩ (l.length - (k + 1)) 0 ((fs.drop (k + 1)).flatMap Found.row) rfl HLEN4.out (fun j u hj => by rw [HNIL.out hcpk] at hj; cases hj) (founds_one _) ?d3 ?d4 ?d5 ?_))
            case d3 => unfold maxLen; omega
            case d4 => omega
            case d5 => have := hbx2.size; omega
          rotate_left
          focus
            go_wp2_with (at_builtin; go_must (refine wpList_append_own _ rfl _ _ 31 rfl wo.heap.size 37 i0 _ 11 120 Try.underlying31 hi hz0 hz1 hz2 rfl (by decide) _ _ _ rfl OWN2.out ⟨g, (k + 1) * 11, none⟩ (l.length - (k + 1)) (cp - (k + 1)) ((fs.drop (k + 1)).flatMap Found.row) rfl HLEN4.out HPART1.out (founds_one _) ?h3 ?h4 ?h5 ?_))
            case h3 => unfold maxLen; omega
            case h4 => omega
            case h5 => have := hbx2.size; omega
          all_goals
            intro v3 x3 hown3 hgr3 _
            have hbx3 := Base.gr hbx2 hgr3 (fun j hj => (OWN2.out.lt j hj).1)
            have hnum : k + (l.length - (k + 1)) = l.length - 1 := by omega
            rw [hnum, ← List.flatMap_append] at hown3
            have hlm : (fs.take k ++ fs.drop (k + 1)).length = l.length - 1 := by rw [List.length_append, List.length_take, List.length_drop, HFL.out]; omega
            have hms : ∀ f ∈ fs.take k ++ fs.drop (k + 1), f.item.seq = seq ∧ f.item.count = l.length := fun f hf => by
              rcases List.mem_append.1 hf with hf | hf
              · exact HSEQ.out f (List.mem_of_mem_take hf)
              · exact HSEQ.out f (List.mem_of_mem_drop hf)
            generalize fs.take k ++ fs.drop (k + 1) = ms at *
            obtain ⟨A3, cp3, hv3⟩ : ∃ A3 cp3, v3 = .slice A3 (l.length - 1) cp3 := by
              rcases hown3.2 with ⟨rfl, h0⟩ | ⟨g', cap', cur, rfl, _⟩
              · exact ⟨none, 0, by rw [h0]⟩
              · exact ⟨_, _, rfl⟩
            subst hv3
            have HOWN3 := Lib.hid hown3
            have HMS := Lib.hid hms
            have HLM := Lib.hid hlm
            have hbx3w := Base.tr hbo hbx3
            clear hown3 hms hgr3 hlm OWN2 HPART1 HLEN4 HNIL hnum hcpk
            go_wp2_with fail
            go_loopw [60] (fun i wq => ∃ (q : Nat) (mq : List Found), q ≤ l.length - 1 ∧ i = .int .i64 q ∧ wq.ownsRow wo.heap.size 37 11 (.slice A3 (l.length - 1) cp3) (l.length - 1) (mq.flatMap Found.row) ∧ Hid (∀ f ∈ mq, f.item.seq = seq ∧ f.item.count = l.length) ∧ Hid (mq.length = l.length - 1) ∧ Below wo.heap.size wo wq) (fun i _ => l.length - (intOf i).toNat)
            case atStart => exact ⟨0, ms, by omega, rfl, HOWN3.out, HMS.out, HLM.out, hbx3⟩
            case round =>
              obtain ⟨q, mq, hq, rfl, hown, hms, hlm, hbq⟩ := hrel
              by_cases hlt : q < l.length - 1
              · obtain ⟨g3, cp4, hv3, hg30, hg31, hcp4, hcell3⟩ := own_pos hown (by omega) (by decide)
                injection hv3 with hv3 hv4 hv5
                subst hv3
                subst hv5
                have hqm : q < mq.length := by have := hlm.out; omega
                have hold : (mq.flatMap Found.row)[q * 11 + 2]? = some (.bool (fd mq q).settled) := by
                  have := flatten_get (rows := mq.map Found.row) (k := 11) (by intro x hx; obtain ⟨f, _, rfl⟩ := List.mem_map.1 hx; rfl) q (fd mq q).row (by simp [fd, List.getD, hqm]) 2 _ rfl
                  rw [List.flatMap_def]
                  exact this
                have co := hcell3 _ _ hold
                have fo := own_frozen hown (q * 11 + 2)
                have hfd := (hms.out _ (fd_mem hqm))
                have hset := fun b => own_set hown (q * 11 + 2) (.bool b)
                simp only [founds_set hqm] at hset
                have hms2 : ∀ b, ∀ f ∈ mq.set q { fd mq q with settled := b }, f.item.seq = seq ∧ f.item.count = l.length := fun b f hf => by
                  rcases List.mem_or_eq_of_mem_set hf with hf | rfl
                  · exact hms.out f hf
                  · exact hfd
                have HSET := Lib.hid hset
                have HMS2 := Lib.hid hms2
                have hlm2 : ∀ b, (mq.set q { fd mq q with settled := b }).length = l.length - 1 := fun b => by rw [List.length_set]; exact hlm.out
                have HLM2 := Lib.hid hlm2
                have hq1 : (q : Int) < ((l.length - 1 : Nat) : Int) := by omega
                clear hold hset hms2 hlm2 hown hcell3 hfd
                by_cases hqs : q < ss.length
                · obtain ⟨b4, o4, hB, hb4, hc4⟩ := Bools.cell (Sl.below h2 (Base.tr hbo hbq)) (by omega)
                  have cs := hc4 q hqs
                  subst hB
                  generalize ss[q] = sb at *
                  clear hc4
                  go_wp2_with fail
                  exact ⟨⟨q + 1, _, by omega, by go_num, HSET.out sb, HMS2.out sb, HLM2.out sb, st0 hbq hg30 _ _⟩, by simp [intOf]; omega⟩
                · go_wp2_with fail
                  exact ⟨⟨q + 1, _, by omega, by go_num, HSET.out false, HMS2.out false, HLM2.out false, st0 hbq hg30 _ _⟩, by simp [intOf]; omega⟩
              · have hke : q = l.length - 1 := by omega
                subst hke
                have hS3 : Founds wr (.slice A3 (l.length - 1) cp3) mq := Sl.own _ (by intro y hy; obtain ⟨q, _, rfl⟩ := List.mem_map.1 hy; rfl) (by
                  have := hown
                  rw [List.flatMap_def] at this
                  rw [List.length_map, hlm.out]
                  exact this)
                have cc := Lib.hid (count_any A3 (l.length - 1) cp3 mq wr hS3 (by have := hlm.out; omega))
                have hcl3 := count_less hms.out (by have := hlm.out; omega)
                have HCL3 := Lib.hid hcl3
                obtain ⟨wz, rfl⟩ : ∃ wz : World, wz = wr := ⟨_, rfl⟩
                have OWNZ := Lib.hid hown
                have hbz := Base.tr hbo hbq
                clear hS3 hcl3 hown HOWN3
                go_wp2_with fail
                refine cc.out.mono ?_; rintro e w5 ⟨vb, rfl, hownb, hb5⟩
                rw [hlm.out] at hownb
                obtain ⟨Ab, cpb, hvb⟩ : ∃ Ab cpb, vb = .slice Ab (l.length - 1) cpb := by
                  rcases hownb.2 with ⟨rfl, h0⟩ | ⟨g', cap', cur, rfl, _⟩
                  · exact ⟨none, 0, by rw [h0]⟩
                  · exact ⟨_, _, rfl⟩
                subst hvb
                have OWNB := Lib.hid hownb
                clear hownb
                have hbz5 := Base.tr hbz hb5
                go_wp2_with fail
                go_loopw [81] (fun i wq => ∃ q : Nat, q ≤ l.length - 1 ∧ i = .int .i64 q ∧ Below w5.heap.size w5 wq) (fun i _ => l.length - (intOf i).toNat)
                case atStart => exact ⟨0, by omega, rfl, Below.refl _ _⟩
                case round =>
                  obtain ⟨q, hq, rfl, hbl⟩ := hrel
                  by_cases hlt : q < l.length - 1
                  · have hqm : q < mq.length := by have := hlm.out; omega
                    obtain ⟨g3, cp4, hv3, hg30, hg31, hcp4, hcell3⟩ := own_pos OWNZ.out (by omega) (by decide)
                    injection hv3 with hv3 hv4 hv5
                    subst hv3
                    subst hv5
                    obtain ⟨gb, cpb4, hvb, hgb0, hgb1, hcpb, hcellb⟩ := own_pos OWNB.out (by omega) (by decide)
                    injection hvb with hvb1 hvb2 hvb3
                    subst hvb1
                    subst hvb3
                    have hold : (mq.flatMap Found.row)[q * 11 + 2]? = some (.bool (fd mq q).settled) := by
                      have := flatten_get (rows := mq.map Found.row) (k := 11) (by intro x hx; obtain ⟨f, _, rfl⟩ := List.mem_map.1 hx; rfl) q (fd mq q).row (by simp [fd, List.getD, hqm]) 2 _ rfl
                      rw [List.flatMap_def]
                      exact this
                    have co := ((rd (Base.tr hb5 hbl)).1 _ _ hg31).trans (hcell3 _ _ hold)
                    have cb := ((rd hbl).1 _ _ hgb1).trans (hcellb q (.bool (fd mq q).settled) (by rw [HCL3.out]; simp [fd, List.getD, hqm]))
                    have hq1 : (q : Int) < ((l.length - 1 : Nat) : Int) := by omega
                    generalize (fd mq q).settled = sq at *
                    clear hold hcell3 hcellb
                    go_wp2_with fail
                    exact ⟨⟨q + 1, by omega, by go_num, hbl⟩, by simp [intOf]; omega⟩
                  · have hke : q = l.length - 1 := by omega
                    subst hke
                    have hbz6 := Base.tr hbz5 hbl
                    go_wp2_with fail
                    refine (gf _).out.mono ?_; rintro e w6 ⟨rfl, hb6⟩
                    go_wp2_with fail
                    go_ret
                    exact ⟨rfl, Base.tr hbz6 hb6⟩
    · go_enter Try.func5, Try.ntmps5
      go_wp2_with fail
      refine gl.out.mono ?_; rintro e w1 ⟨-, hno, hb1⟩
      obtain rfl := hno hok
      clear hno
      go_wp2_with fail
      refine (gf _).out.mono ?_; rintro e w2 ⟨rfl, hb2⟩
      go_wp2_with fail
      go_ret
      exact ⟨rfl, Base.tr hb1 hb2⟩
end Go.Proofs.Ytbbiohgillhmnaa
