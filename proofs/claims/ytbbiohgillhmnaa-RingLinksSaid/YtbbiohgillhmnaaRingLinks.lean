/- RingLinks: the walk. -/
import Derived.Test.YtbbiohgillhmnaaRingM
import Derived.Test.YtbbiohgillhmnaaItemEq
import Derived.Deep.DeepMust
namespace Go.Proofs.Ytbbiohgillhmnaa
open Go.RowKit Flo
attribute [local go_sem] run_store_complex

abbrev pairRow (p : Int × Int) : List Value := [.int .u64 p.1, .int .u64 p.2]
abbrev Pairs2 (w : World) (v : Value) (l : List (Int × Int)) : Prop := Sl w 2 v (l.map pairRow)
theorem Pairs2.cell {w : World} {A : Option Addr} {n cap : Nat} {xs : List (Int × Int)} (h : Pairs2 w (.slice A n cap) xs) (hn : 0 < xs.length) :
    ∃ b off, A = some ⟨b, off, none⟩ ∧ b < w.heap.size ∧ ∀ k, k < xs.length → w.cell? ⟨b, off + k * 2, none⟩ = some (.int .u64 (xs.getD k (0, 0)).1) ∧ w.cell? ⟨b, off + k * 2 + 1, none⟩ = some (.int .u64 (xs.getD k (0, 0)).2) := by
  have hl := h.len
  rw [List.length_map] at hl
  obtain ⟨b, off, hA, hb, hx⟩ := h.at (by omega)
  refine ⟨b, off, hA, hb, fun k hk => ?_⟩
  have := (hx k (pairRow (xs.getD k (0, 0))) (by simp [List.getD, hk])).2
  exact ⟨this 0 _ rfl, this 1 _ rfl⟩

def placeOfBits (p : Int × Int) : Nat × Nat := (p.1.toNat, p.2.toNat)
theorem info_place : (Try.prog.info? 23).map (fun i => (i.zero, i.size, i.bytes)) = some (some (cx 0 0), 1, 16) := by kernel_rfl

theorem flat_get {f : Nat → List Value} {n k m : Nat} (hf : ∀ i, (f i).length = m) (hk : k < n) {q : Nat} {u : Value} (h : (f k)[q]? = some u) : ((List.range n).flatMap f)[k * m + q]? = some u := by
  rw [List.flatMap_def]
  exact flatten_get (k := m) (by intro x hx; obtain ⟨i, _, rfl⟩ := List.mem_map.1 hx; exact hf i) k (f k) (by simp [hk]) q u h

set_option maxHeartbeats 8000000 in
set_option maxRecDepth 100000 in
theorem links_makes (seq : Int) (A B C : Option Addr) (n m q c1 c2 c3 : Nat) (l : List Pair) (vers : List Int) (ats : List (Int × Int)) (w : World) (h1 : Pairs w (.slice A n c1) l) (h2 : U64s w (.slice B m c2) vers) (h3 : Pairs2 w (.slice C q c3) ats)
    (hbig : ats.length * 16 ≤ 140737488351232) : Makes 13 #[.int .u64 seq, .slice A n c1, .slice B m c2, .slice C q c3] w (.bool true) := by
  have gf := fun W => Lib.hid (fixed7 W)
  have n1 := h1.len
  have n2 := h2.len
  have n3 := h3.len
  rw [List.length_map] at n1 n2 n3
  subst n1; subst n2; subst n3
  by_cases hl : 300 < l.length
  · clear h1 h2 h3
    go_enter Try.func13, Try.ntmps13
    go_wp2_with fail
    refine (gf _).out.mono ?_; rintro e w1 ⟨rfl, hb⟩
    go_wp2_with fail
    go_ret
    exact ⟨rfl, hb⟩
  · have hm3 := h3.max
    rw [List.length_map] at hm3
    unfold maxLen at hm3
    obtain ⟨i0, hi, hz0, hz1, hz2⟩ := info_parts info_place
    obtain ⟨i2, hi2, hj0, hj1, hj2⟩ := info_parts info_Item
    have hlb : decide ((300 : Int) < (l.length : Int)) = false := decide_eq_false (by omega)
    have ga := fun a b W => Lib.hid (at_gives a b W)
    go_enter Try.func13, Try.ntmps13
    go_wp2_with fail
    go_loopw [9, 23] (fun v i wr => ∃ k : Nat, k ≤ ats.length ∧ i = .int .i64 k ∧ wr.ownsRow w.heap.size 23 1 v k ((ats.take k).map fun p => cx p.1.toNat p.2.toNat) ∧ Below w.heap.size w wr) (fun _ i _ => ats.length - (intOf i).toNat)
    case atStart => exact ⟨0, Nat.zero_le _, rfl, World.ownsRow_nil _ _ _ _, Below.refl _ _⟩
    case round =>
      obtain ⟨k, hk, rfl, hown, hb⟩ := hrel
      by_cases hlt : k < ats.length
      · obtain ⟨b, off, rfl, hbs, hc⟩ := Pairs2.cell (Sl.below h3 hb) (by omega)
        obtain ⟨p0, p1⟩ := hc k hlt
        have htk : (ats.take (k + 1)).map (fun p => cx p.1.toNat p.2.toNat) = (ats.take k).map (fun p => cx p.1.toNat p.2.toNat) ++ [cx (ats.getD k (0, 0)).1.toNat (ats.getD k (0, 0)).2.toNat] := by
          rw [List.take_succ_eq_append_getElem hlt, List.map_append]
          simp [List.getD, hlt]
        have HTK := Lib.hid htk
        have OWN := Lib.hid hown
        clear hc htk hown
        generalize ats.getD k (0, 0) = pp at *
        obtain ⟨pa, pb⟩ := pp
        simp only at p0 p1
        go_wp2_with fail
        refine (ga _ _ _).out.mono ?_; rintro e w1 ⟨rfl, rfl⟩
        have hown1 := OWN.out.alloc (.cells #[.int .u64 pa, .int .u64 pb] 70)
        have hb2 := Base.al hb (.cells #[.int .u64 pa, .int .u64 pb] 70)
        go_wp2_with (at_builtin; go_must (refine wpList_append_own _ rfl _ _ 69 rfl w.heap.size 23 i0 (cx 0 0) 1 16 Try.underlying69 hi hz0 hz1 hz2 rfl (by decide) _ _ _ rfl (hown1.alloc _) ⟨(wr.heap.size + 1), 0, none⟩ 1 1 [cx pa.toNat pb.toNat] rfl rfl ?c1 ?c2 ?c3 ?c4 ?c5 ?_))
        case c1 => exact news_at (by simp) _ _
        case c2 => simp [Value.oneCell']
        case c3 => unfold maxLen; omega
        case c4 => omega
        case c5 => have := hb2.size; (try simp at this); (try simp); omega
        intro v' w2 hown2 hgrow _
        have hb3 := Base.gr (Base.al hb2 _) hgrow (fun g hg => (hown1.lt g hg).1)
        go_wp2_with fail
        refine ⟨⟨k + 1, by omega, by go_num, ?_, hb3⟩, by simp [intOf]; omega⟩
        rw [HTK.out, List.map_take]
        exact hown2
      · have hke : k = ats.length := by omega
        subst hke
        rw [List.take_length] at hown
        have hxl : (ats.map fun p => cx p.1.toNat p.2.toNat).length = ats.length := List.length_map _
        have hS : Places wr u9 (ats.map placeOfBits) := by
          have := own_Sl (w := wr) (v := u9) (xs := ats.map fun p => cx p.1.toNat p.2.toNat) (by rw [hxl]; exact hown)
          rw [List.map_map] at this
          show Sl wr 1 u9 (List.map (fun p => [cx p.1 p.2]) (List.map placeOfBits ats))
          rw [List.map_map]
          exact this
        clear hown
        have hP := hS
        obtain ⟨A', cap', hu, _⟩ := hP
        subst hu
        simp only [List.length_map] at hS ⊢
        have gl := link_any seq A B A' l.length vers.length ats.length c1 c2 cap' l vers (ats.map placeOfBits) wr (Sl.below h1 hb) (Sl.below h2 hb) hS (by omega)
        have hplen : (ats.map placeOfBits).length = ats.length := List.length_map _
        generalize ats.map placeOfBits = ps at *
        have GL := Lib.hid gl
        clear gl
        have gm := fun x W => Lib.hid (refMay_any x W)
        by_cases hok : linkOk seq l vers ps
        · obtain ⟨k1, k2, k3, k4⟩ := hok
          have k2' : ((vers.length : Int) == (l.length : Int)) = true := by rw [beq_iff_eq]; omega
          have k3' : ((ats.length : Int) == (l.length : Int)) = true := by rw [beq_iff_eq]; omega
          have k1' : decide ((0 : Int) < (l.length : Int)) = true := decide_eq_true (by omega)
          have K4 := Lib.hid k4
          have K2 := Lib.hid k2
          have K3 := Lib.hid k3
          have HPL := Lib.hid hplen
          clear k4 k2 k3 hplen
          go_wp2_with fail
          refine GL.out.mono ?_; rintro e w2 ⟨hyes, -, hb2⟩
          obtain ⟨v, rfl, hown⟩ := hyes ⟨k1, K2.out, K3.out, K4.out⟩
          clear hyes
          obtain ⟨g, cap, rfl, hg0, hg1, hcap, hcell⟩ := own_pos hown (by omega) (by decide)
          have hbw := Base.tr hb hb2
          have HS := Lib.hid (Sl.below hS hb2)
          have HC := Lib.hid hcell
          clear hown hcell hS
          go_wp2_with fail
          go_loopw [14, 15] (fun ok i wq => ∃ k : Nat, k ≤ l.length ∧ ok = .bool true ∧ i = .int .i64 k ∧ Below w2.heap.size w2 wq) (fun _ i _ => l.length - (intOf i).toNat)
          case atStart => exact ⟨0, Nat.zero_le _, rfl, rfl, Below.refl _ _⟩
          case round =>
            obtain ⟨k, hk, rfl, rfl, hbk⟩ := hrel
            by_cases hlt : k < l.length
            · have hbq := Base.tr hbw hbk
              obtain ⟨a1, o1, rfl, b1, p1⟩ := Pairs.cell (Sl.below h1 hbq) (by omega)
              obtain ⟨a2, o2, rfl, b2, p2⟩ := U64s.cell (Sl.below h2 hbq) (by have := K2.out; omega)
              obtain ⟨a3, o3, rfl, b3, p3⟩ := Places.cell (Sl.below HS.out hbk) (by have := K3.out; omega)
              obtain ⟨q0, q1, q2⟩ := p1 k hlt
              have hmod : ((k : Int) + 1).tmod (l.length : Int) = (((k + 1) % l.length : Nat) : Int) := by rw [Int.tmod_eq_emod_of_nonneg (by omega)]; push_cast; rfl
              have hw1 : IntKind.i64.wrap ((k : Int) + 1) = (k : Int) + 1 := by rw [IntKind.wrap_i64]; omega
              have hmlt : (k + 1) % l.length < l.length := Nat.mod_lt _ (by omega)
              have v0 := p2 k (by have := K2.out; omega)
              have c0 := p3 ((k + 1) % l.length) (by have := K3.out; omega)
              have hit : linkItem seq l vers ps k = ⟨seq, vers.getD k 0, k, l.length, (ps.getD ((k + 1) % l.length) (0, 0)).1, (ps.getD ((k + 1) % l.length) (0, 0)).2, (l.getD k default).gone, (l.getD k default).key, (l.getD k default).value⟩ := rfl
              have hmay := K4.out k hlt
              have hcl := fun q u (hq : (linkItem seq l vers ps k).row[q]? = some u) => ((rd hbk).1 g (k * 8 + q) hg1).trans (HC.out (k * 8 + q) u (flat_get (f := fun k => (linkItem seq l vers ps k).row) (m := 8) (fun _ => rfl) hlt hq))
              have r0 := hcl 0 _ rfl
              have r1 := hcl 1 _ rfl
              have r2 := hcl 2 _ rfl
              have r3 := hcl 3 _ rfl
              have r4 := hcl 4 _ rfl
              have r5 := hcl 5 _ rfl
              have r6 := hcl 6 _ rfl
              have r7 := hcl 7 _ rfl
              have hgq := Nat.lt_of_lt_of_le hg1 hbk.size
              clear hcl p1 p2 p3
              rw [Nat.add_zero] at r0
              simp only [hit] at r0 r1 r2 r3 r4 r5 r6 r7 hmay
              clear hit
              generalize ps.getD ((k + 1) % l.length) (0, 0) = pl at *
              generalize hj : (k + 1) % l.length = j at *
              have hj1 : (j : Int) < (l.length : Int) := by omega
              have hk1 : (k : Int) < (l.length : Int) := by omega
              have hkv : (k : Int) < (vers.length : Int) := by have := K2.out; omega
              have hja : (j : Int) < (ats.length : Int) := by have := K3.out; have := HPL.out; omega
              clear hj
              generalize vers.getD k 0 = vk at *
              generalize l.getD k default = pk at *
              obtain ⟨pk, vv, gg⟩ := pk
              obtain ⟨pa, pb⟩ := pl
              simp only at q0 q1 q2 c0 r0 r1 r2 r3 r4 r5 r6 r7 hmay
              have hself := itemEq_self (x := ⟨seq, vk, k, l.length, pa, pb, gg, pk, vv⟩) (by rw [mayB_rest, Bool.and_eq_true] at hmay; exact hmay.1)
              have heq := fun W => run_eq_item ⟨seq, vk, k, l.length, pa, pb, gg, pk, vv⟩ ⟨seq, vk, k, l.length, pa, pb, gg, pk, vv⟩ W 9998
              rw [hself] at heq
              have gm1 := fun W => (gm ⟨seq, vk, k, l.length, pa, pb, gg, pk, vv⟩ W).out
              rw [hmay] at gm1
              have GM := fun W => Lib.hid (gm1 W)
              have HEQ := Lib.hid heq
              clear hself gm1 hmay heq
              go_wp2_with fail
              refine wp_region_ph (D := fun w' => ∃ p : OnOf _, w' = p.v) 33 [32] (by kernel_rfl) (by kernel_rfl) ⟨⟨_, Base.dr (Below.refl _ _)⟩, rfl⟩ ?_
              simp only [List.take_succ_cons, List.take_zero, List.drop_succ_cons, List.drop_zero]
              have on0 := @on_rd0; have on1 := @on_rd1; have on2 := @on_rd2; have on3 := @on_new1; have on4 := @on_new2
              repeat (first | ((with_reducible refine head_alloc ?_ 35 hi2 hj0 ⟨⟨_, Base.al (by repeat (first | exact Base.dr (Below.refl _ _) | refine Base.al ?_ _)) _⟩, rfl⟩ ?_); (focus rfl)) | ((with_reducible refine head_quiet ?_ ?_); (focus rfl); (intro K hK); go_simp; first | ((with_reducible refine hK _ ?_); clear hK K) | (rw [if_neg (by intro h; cases h)]; (with_reducible refine hK _ ?_); clear hK K) | (apply Exists.intro; refine ⟨fun _ => ?_, hK _ ?_⟩; (fail); clear hK K)))
              clear on0 on1 on2 on3 on4
              with_reducible refine head_nil ?_
              rintro _ rfl
              go_wp2_with fail
              refine (GM _).out.mono ?_; rintro e x1 ⟨rfl, hx1⟩
              obtain ⟨hc1, hf1⟩ := rd hx1
              have hbx := Base.tr (Base.dr (Base.al (Below.refl _ wr) _)) hx1
              have hbk2 := Base.tr hbk hbx
              have heq2 : ∀ W : World, (Op.equalIn 10000 35 (Item.val ⟨seq, vk, k, l.length, pa, pb, gg, pk, vv⟩) (Item.val ⟨seq, vk, k, l.length, pa, pb, gg, pk, vv⟩)).run Try.prog W = .ok true W := fun W => HEQ.out W
              have hs1 : wr.heap.size < x1.heap.size := by have := hx1.size; simp at this; omega
              have hs2 : g < x1.heap.size := by omega
              have hs3 : g < wr.heap.size + 1 := by omega
              go_wp2_with fail
              have on0 := @on_rd0; have on1 := @on_rd1; have on2 := @on_rd2; have on3 := @on_new1; have on4 := @on_new2
              refine wp_region_quiet_on (by kernel_rfl) (by kernel_rfl) ?_
              repeat ((with_reducible refine wpQuiet_step (fun K hK => ?_)); go_simp; first | ((with_reducible refine hK _ ?_); clear hK K) | (rw [if_neg (by intro h; cases h)]; (with_reducible refine hK _ ?_); clear hK K) | (apply Exists.intro; refine ⟨fun _ => ?_, hK _ ?_⟩; (fail); clear hK K))
              clear on0 on1 on2 on3 on4
              with_reducible refine wpQuiet_nil ?_
              intro _ hw'
              obtain ⟨pq, hw''⟩ := hw'
              subst hw''
              go_wp2_with fail
              exact ⟨⟨k + 1, by omega, rfl, by go_num, Base.tr hbk2 pq.h⟩, by simp [intOf]; omega⟩
            · have hke : k = l.length := by omega
              subst hke
              have hbq := Base.tr hbw hbk
              go_wp2_with fail
              refine (gf _).out.mono ?_; rintro e x1 ⟨rfl, hx1⟩
              go_wp2_with fail
              go_ret
              exact ⟨rfl, Base.tr hbq hx1⟩
        · by_cases hlens : l.length ≠ 0 ∧ vers.length = l.length ∧ ps.length = l.length
          · obtain ⟨k1, k2, k3⟩ := hlens
            have k2' : ((vers.length : Int) == (l.length : Int)) = true := by rw [beq_iff_eq]; omega
            have k3' : ((ats.length : Int) == (l.length : Int)) = true := by rw [beq_iff_eq]; omega
            have k1' : decide ((0 : Int) < (l.length : Int)) = true := decide_eq_true (by omega)
            have K2 := Lib.hid k2
            have K3 := Lib.hid k3
            have HPL := Lib.hid hplen
            have HOK := Lib.hid hok
            clear k2 k3 hplen hok
            go_wp2_with fail
            refine GL.out.mono ?_; rintro e w2 ⟨-, hno, hb2⟩
            obtain rfl := hno HOK.out
            clear hno
            have hbw := Base.tr hb hb2
            have HS := Lib.hid (Sl.below hS hb2)
            clear hS
            go_wp2_with fail
            go_loopw [14, 15] (fun ok i wq => ∃ (k : Nat) (okv : Bool), k ≤ l.length ∧ ok = .bool okv ∧ i = .int .i64 k ∧ Hid (okv = true → ∀ j, j < k → mayB (linkItem seq l vers ps j) = true) ∧ Below w2.heap.size w2 wq) (fun _ i _ => l.length - (intOf i).toNat)
            case atStart => exact ⟨0, true, Nat.zero_le _, rfl, rfl, (fun _ j hj => by omega), Below.refl _ _⟩
            case round =>
              obtain ⟨k, okv, hk, rfl, rfl, hall, hbk⟩ := hrel
              have hbq := Base.tr hbw hbk
              cases okv
              · go_wp2_with fail
                refine (gf _).out.mono ?_; rintro e x1 ⟨rfl, hx1⟩
                go_wp2_with fail
                go_ret
                exact ⟨rfl, Base.tr hbq hx1⟩
              · by_cases hlt : k < l.length
                · obtain ⟨a1, o1, rfl, b1, p1⟩ := Pairs.cell (Sl.below h1 hbq) (by omega)
                  obtain ⟨a2, o2, rfl, b2, p2⟩ := U64s.cell (Sl.below h2 hbq) (by have := K2.out; omega)
                  obtain ⟨a3, o3, rfl, b3, p3⟩ := Places.cell (Sl.below HS.out hbk) (by have := K3.out; omega)
                  obtain ⟨q0, q1, q2⟩ := p1 k hlt
                  have hmod : ((k : Int) + 1).tmod (l.length : Int) = (((k + 1) % l.length : Nat) : Int) := by rw [Int.tmod_eq_emod_of_nonneg (by omega)]; push_cast; rfl
                  have hw1 : IntKind.i64.wrap ((k : Int) + 1) = (k : Int) + 1 := by rw [IntKind.wrap_i64]; omega
                  have hmlt : (k + 1) % l.length < l.length := Nat.mod_lt _ (by omega)
                  have v0 := p2 k (by have := K2.out; omega)
                  have c0 := p3 ((k + 1) % l.length) (by have := K3.out; omega)
                  have hit : linkItem seq l vers ps k = ⟨seq, vers.getD k 0, k, l.length, (ps.getD ((k + 1) % l.length) (0, 0)).1, (ps.getD ((k + 1) % l.length) (0, 0)).2, (l.getD k default).gone, (l.getD k default).key, (l.getD k default).value⟩ := rfl
                  have HALL := hall
                  clear hall p1 p2 p3
                  have gm1 := fun W => (gm (linkItem seq l vers ps k) W).out
                  cases hmay : mayB (linkItem seq l vers ps k)
                  all_goals
                    rw [hmay] at gm1
                    have HM := Lib.hid hmay
                    clear hmay
                    rw [hit] at gm1
                    have HIT := Lib.hid hit
                    clear hit
                    generalize ps.getD ((k + 1) % l.length) (0, 0) = pl at *
                    generalize hj : (k + 1) % l.length = j at *
                    have hj1 : (j : Int) < (l.length : Int) := by omega
                    have hk1 : (k : Int) < (l.length : Int) := by omega
                    have hkv : (k : Int) < (vers.length : Int) := by have := K2.out; omega
                    have hja : (j : Int) < (ats.length : Int) := by have := K3.out; have := HPL.out; omega
                    clear hj
                    generalize vers.getD k 0 = vk at *
                    generalize l.getD k default = pk at *
                    obtain ⟨pk, vv, gg⟩ := pk
                    obtain ⟨pa, pb⟩ := pl
                    simp only at q0 q1 q2 c0 gm1
                    have GM := fun W => Lib.hid (gm1 W)
                    clear gm1
                    go_wp2_with fail
                    refine wp_region_ph (D := fun w' => ∃ p : OnOf _, w' = p.v) 33 [32] (by kernel_rfl) (by kernel_rfl) ⟨⟨_, Base.dr (Below.refl _ _)⟩, rfl⟩ ?_
                    simp only [List.take_succ_cons, List.take_zero, List.drop_succ_cons, List.drop_zero]
                    have on0 := @on_rd0; have on1 := @on_rd1; have on2 := @on_rd2; have on3 := @on_new1; have on4 := @on_new2
                    repeat (first | ((with_reducible refine head_alloc ?_ 35 hi2 hj0 ⟨⟨_, Base.al (by repeat (first | exact Base.dr (Below.refl _ _) | refine Base.al ?_ _)) _⟩, rfl⟩ ?_); (focus rfl)) | ((with_reducible refine head_quiet ?_ ?_); (focus rfl); (intro K hK); go_simp; first | ((with_reducible refine hK _ ?_); clear hK K) | (rw [if_neg (by intro h; cases h)]; (with_reducible refine hK _ ?_); clear hK K) | (apply Exists.intro; refine ⟨fun _ => ?_, hK _ ?_⟩; (fail); clear hK K)))
                    clear on0 on1 on2 on3 on4
                    with_reducible refine head_nil ?_
                    rintro _ rfl
                    go_wp2_with fail
                    refine (GM _).out.mono ?_; rintro e x1 ⟨rfl, hx1⟩
                    have hbx := Base.tr (Base.dr (Base.al (Below.refl _ wr) _)) hx1
                    have hbk2 := Base.tr hbk hbx
                    go_wp2_with fail
                    have on0 := @on_rd0; have on1 := @on_rd1; have on2 := @on_rd2; have on3 := @on_new1; have on4 := @on_new2
                    refine wp_region_quiet_on (by kernel_rfl) (by kernel_rfl) ?_
                    repeat ((with_reducible refine wpQuiet_step (fun K hK => ?_)); go_simp; first | ((with_reducible refine hK _ ?_); clear hK K) | (rw [if_neg (by intro h; cases h)]; (with_reducible refine hK _ ?_); clear hK K) | (apply Exists.intro; refine ⟨fun _ => ?_, hK _ ?_⟩; (fail); clear hK K))
                    clear on0 on1 on2 on3 on4
                    with_reducible refine wpQuiet_nil ?_
                    intro _ hw'
                    obtain ⟨pq, hw''⟩ := hw'
                    subst hw''
                    go_wp2_with fail
                  · exact ⟨⟨k + 1, false, by omega, rfl, by go_num, (fun h => by cases h), Base.tr hbk2 pq.h⟩, by simp [intOf]; omega⟩
                  · refine ⟨⟨k + 1, true, by omega, rfl, by go_num, (fun _ j' hj' => ?_), Base.tr hbk2 pq.h⟩, by simp [intOf]; omega⟩
                    by_cases he : j' = k
                    · subst he; exact HM.out
                    · exact HALL.out (by first | trivial | rfl) j' (by omega)
                · have hke : k = l.length := by omega
                  subst hke
                  exact absurd ⟨k1, K2.out, K3.out, hall.out rfl⟩ HOK.out
          · obtain ⟨t1, ht1⟩ : ∃ t, decide (0 < l.length) = t := ⟨_, rfl⟩
            obtain ⟨t2, ht2⟩ : ∃ t, ((vers.length : Int) == (l.length : Int)) = t := ⟨_, rfl⟩
            obtain ⟨t3, ht3⟩ : ∃ t, ((ats.length : Int) == (l.length : Int)) = t := ⟨_, rfl⟩
            have hand : (t1 && t2 && t3) = false := by
              rw [← Bool.not_eq_true, ← ht1, ← ht2, ← ht3, Bool.and_eq_true, Bool.and_eq_true, beq_iff_eq, beq_iff_eq, decide_eq_true_eq]
              intro h
              exact hlens ⟨by omega, by omega, by omega⟩
            have HOK := Lib.hid hok
            clear hok hlens hplen
            cases t1 <;> cases t2 <;> cases t3
            rotate_right
            · cases hand
            all_goals
              clear hand
              go_wp2_with fail
              refine GL.out.mono ?_; rintro e w2 ⟨-, hno, hb2⟩
              obtain rfl := hno HOK.out
              clear hno
              have hbw := Base.tr hb hb2
              go_wp2_with fail
              go_loopw [14, 15] (fun ok i wq => ∃ k : Nat, ok = .bool false ∧ i = .int .i64 k ∧ Below w2.heap.size w2 wq) (fun _ i _ => l.length - (intOf i).toNat)
              case atStart => exact ⟨0, rfl, rfl, Below.refl _ _⟩
              case round =>
                obtain ⟨k, rfl, rfl, hbk⟩ := hrel
                go_wp2_with fail
                refine (gf _).out.mono ?_; rintro e x1 ⟨rfl, hx1⟩
                go_wp2_with fail
                go_ret
                exact ⟨rfl, Base.tr (Base.tr hbw hbk) hx1⟩
end Go.Proofs.Ytbbiohgillhmnaa
