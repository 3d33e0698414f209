/- (*shelf.Shelf).Plan: the walk. -/
import Derived.Test.YthiimpleljaimaaGreatDoorMg18
import Derived.Deep.DeepCutAuto
import Derived.Test.YthiimpleljaimaaGreatDoorSh2
import Derived.Test.YthiimpleljaimaaGreatDoorNorQ
import Derived.Test.YthiimpleljaimaaGreatDoorMg11
import Derived.Test.YthiimpleljaimaaGreatDoorMg17
namespace Go.Proofs.YthiimpleljaimaaGreatDoor
open Go Go.RowKit Flo

set_option maxHeartbeats 16000000 in
set_option maxRecDepth 100000 in
theorem plan_any {O : Nat → Prop} {w : World} {N : Nor} {H : ShV} (hd : DevR O w N) (h : ShR w H) (hD : H.D = N.D) (hpos : 0 < H.S) (a0 : Option Nat) (ha0 : H.op = atV a0) (haS : ∀ k, a0 = some k → k < H.S) (e0 : Nat) (he0 : ∀ k, a0 = some k → H.el[k]? = some e0) (hn0 : a0 = none → e0 = 0) (he : e0 ≤ H.Z) (hZ : 8 ≤ H.Z)
    (A : Option Addr) (m cap : Nat) (ns : List Int) (hy : Ints w (.slice A m cap) ns) (hm : ns.length ≤ 100000) :
    Calls Tryz.prog 131 #[H.ptr, .slice A m cap] w (PlanPost w (planGo H.Z ns (seenL H N H.S) a0 e0 0 [])) := by
  obtain ⟨i1, b0, b1, b2, b3⟩ := info_parts info_cplxS
  have hmn := hy.len
  rw [List.length_map] at hmn
  subst hmn
  have G := Lib.hid (infos_any hd h hD hpos)
  have HH := Lib.hid h
  have HY := Lib.hid hy
  have hS64 := h.S64
  have hZ4 := h.Z4
  obtain ⟨R, hR⟩ : ∃ R, planGo H.Z ns (seenL H N H.S) a0 e0 0 [] = R := ⟨_, rfl⟩
  rw [hR]
  have HR : Hid (planGo H.Z (ns.drop 0) (seenL H N H.S) a0 e0 0 [] = R) := Lib.hid hR
  have hsl : (seenL H N H.S).length = H.S := by rw [seenL_len, h.il]
  have zs : H.SB < w.heap.size := (Array.getElem?_eq_some_iff.1 h.hS).1
  generalize seenL H N H.S = l0 at *
  clear hR hd h hy hD
  go_enter Tryz.func131, Tryz.ntmps131
  go_wp2_with fail
  refine G.out.mono ?_; rintro e x1 ⟨v, rfl, hown, hb1⟩
  obtain ⟨g, gc, cur, rfl, hbg, hgg, hnc, hcm, hcs, htk⟩ : ∃ g gc cur, v = .slice (some ⟨g, 0, none⟩) H.S gc ∧ w.heap.size ≤ g ∧ x1.heap[g]? = some (.cells cur 182 (0, 0)) ∧ H.S ≤ gc ∧ gc ≤ maxLen ∧ cur.size = gc * 6 ∧ cur.toList.take (H.S * 6) = l0.flatMap Info.row := by
    rcases hown.2 with ⟨_, h0⟩ | h2
    · omega
    · exact h2
  have hcur : cur = (l0.flatMap Info.row ++ cur.toList.drop (H.S * 6)).toArray := by rw [← htk, List.take_append_drop]
  obtain ⟨junk, hj⟩ : ∃ junk, cur.toList.drop (H.S * 6) = junk := ⟨_, rfl⟩
  have hjl : junk.length = (gc - H.S) * 6 := by rw [← hj, List.length_drop, Array.length_toList, hcs, Nat.sub_mul]
  rw [hj] at hcur
  rw [hcur] at hgg
  have BG := Lib.hid hgg
  have HJ := Lib.hid (And.intro hjl (And.intro hnc hcm))
  have HB1 := Lib.hid hb1
  have HSL := Lib.hid hsl
  have h1 := HH.out.below hb1
  have c5 : x1.cell? ⟨H.SB, 5, none⟩ = some (.int .i64 H.op) := cell_blk h1.hS 5
  have c4 : x1.cell? ⟨H.SB, 4, none⟩ = some (.slice (some ⟨H.EB, 0, none⟩) H.S H.ec) := cell_blk h1.hS 4
  rw [ha0] at c5
  have hend : ∀ k, a0 = some k → x1.cell? ⟨H.EB, k, none⟩ = some (i64 e0) := fun k hk => h1.endAt (he0 k hk)
  clear hcur hj hjl htk hcs hgg hown hb1 G hnc hcm h1 hsl he0
  go_upto_if 25 with fail
  go_cut [8, 9] (fun av ev wc => av = .int .i64 (atV a0) ∧ ev = .int .i64 e0 ∧ wc = x1)
  case first =>
    cases a0 with
    | none =>
      have h0 := hn0 rfl
      subst h0
      simp only [atV] at c5 ⊢
      go_wp2_with fail
      go_meet
      case rel => exact ⟨rfl, rfl, rfl⟩
    | some k =>
      have hk := haS k rfl
      have hkI : (k : Int) < (H.S : Int) := by omega
      have he1 := hend k rfl
      have tk : ((k : Int) == -1) = false := by rw [beq_eq_false_iff_ne]; omega
      have tk2 : ((k : Int) != -1) = true := by rw [bne_iff_ne]; omega
      simp only [atV] at c5 ⊢
      go_wp2_with fail
      go_meet
      case rel => exact ⟨rfl, rfl, rfl⟩
  case rest =>
    obtain ⟨rfl, rfl, rfl⟩ := hcut
    clear c5 c4 hend hn0 ha0
    go_wp2_with fail
    go_loopw [8, 9, 10, 11, 35] (fun av ev ov uv iv wr => ∃ (i : Nat) (l : List Info) (a : Option Nat) (en op : Nat) (out : List (Nat × Nat)), av = .int .i64 (atV a) ∧ ev = .int .i64 en ∧ ov = .int .i64 op ∧ iv = .int .i64 i ∧ i ≤ ns.length ∧ Hid (l.length = H.S ∧ (∀ k, a = some k → k < H.S) ∧ en ≤ H.Z ∧ op ≤ i) ∧ Hid (out.length ≤ i) ∧
      Hid (wr.heap[g]? = some (.cells (l.flatMap Info.row ++ junk).toArray 182 (0, 0))) ∧ Hid (wr.ownsRow w.heap.size 127 1 uv out.length (out.map plV)) ∧ Hid (Below w.heap.size w wr) ∧ Hid (planGo H.Z (ns.drop i) l a en op out = R)) (fun _ _ _ _ iv _ => ns.length - (intOf iv).toNat)
    case atStart => exact ⟨0, l0, a0, e0, 0, [], rfl, rfl, rfl, rfl, Nat.zero_le _, Lib.hid ⟨HSL.out, haS, he, Nat.le_refl _⟩, Lib.hid (Nat.le_refl _), BG, Lib.hid ⟨rfl, .inl ⟨rfl, rfl⟩⟩, HB1, HR⟩
    case round =>
      clear BG HB1 HR
      obtain ⟨i, l, a, en, op, out, rfl, rfl, rfl, rfl, hi, hq, HOL, BGx, OWx, HBx, hgo⟩ := hrel
      have kwi : IntKind.i64.wrap ((i : Int) + 1) = (i : Int) + 1 := by rw [IntKind.wrap_i64]; omega
      by_cases hlt : i < ns.length
      · obtain ⟨n, hn⟩ : ∃ n, ns[i]? = some n := ⟨_, List.getElem?_eq_getElem hlt⟩
        obtain ⟨b, off, rfl, hbs, hc⟩ := Sl.at (Sl.below HY.out HBx.out) (by omega)
        have cn := (hc i [i64 n] (by rw [List.getElem?_map, hn]; rfl)).2 0 _ rfl
        rw [Nat.mul_one, Nat.add_zero] at cn
        have hdr : ns.drop i = n :: ns.drop (i + 1) := by rw [List.drop_eq_getElem_cons hlt]; congr 1; rw [List.getElem?_eq_getElem hlt] at hn; injection hn
        have hgo1 := hgo.out
        rw [hdr, planGo] at hgo1
        have GF := Lib.hid (fits_any (HH.out.below HBx.out) n)
        have HLT := Lib.hid hlt
        clear hdr hn hc hgo hi
        cases hf : fitsB H.Z n with
        | false =>
          rw [hf] at GF hgo1
          rw [if_neg (by decide)] at hgo1
          have HRR := Lib.hid hgo1
          clear hf hgo1
          go_wp2_with fail
          refine GF.out.mono ?_; rintro e3 w3 ⟨rfl, rfl⟩
          go_wp2_with fail
          go_ret3
          rw [← HRR.out]
          exact ⟨_, 0, _, rfl, HBx.out, rfl, rfl, rfl⟩
        | true =>
          rw [hf] at GF hgo1
          rw [if_pos rfl] at hgo1
          unfold fitsB at hf
          rw [Bool.and_eq_true, decide_eq_true_iff, decide_eq_true_iff] at hf
          obtain ⟨m, rfl⟩ : ∃ m : Nat, n = m := ⟨n.toNat, by omega⟩
          obtain ⟨hm1, hm8⟩ := hf
          rw [Int.toNat_natCast] at hgo1
          obtain ⟨need, hneed⟩ : ∃ need : Bool, needB H.Z a en m = need := ⟨_, rfl⟩
          have GR := Lib.hid (room_any (HH.out.below HBx.out) (en : Int) (by have := hq.out.2.2.1; omega) (by have := hq.out.2.2.1; omega))
          have hgo2 := Lib.hid hgo1
          have HNE := Lib.hid hneed
          clear hgo1 hneed
          go_wp2_with fail
          refine GF.out.mono ?_; rintro e3 w3 ⟨rfl, rfl⟩
          go_upto_region 13 with fail
          go_cut [51] (fun t wc => t = .bool need ∧ wc = w3)
          case first =>
            cases a with
            | none =>
              have hne : need = true := by rw [← HNE.out]; rfl
              subst hne
              simp only [atV]
              go_wp2_with fail
              go_meet
              case rel => exact ⟨rfl, rfl⟩
            | some k =>
              have hne : need = decide ((H.Z : Int) - en < (m : Int)) := by rw [← HNE.out]; rfl
              subst hne
              simp only [atV]
              have tk : ((k : Int) == -1) = false := by rw [beq_eq_false_iff_ne]; omega
              go_wp2_with fail
              refine GR.out.mono ?_; rintro e4 w4 ⟨rfl, rfl⟩
              go_wp2_with fail
              go_meet
              case rel => exact ⟨rfl, rfl⟩
          case rest =>
            obtain ⟨rfl, rfl⟩ := hcut
            clear GR GF
            cases need with
            | false =>
              obtain ⟨k, rfl⟩ : ∃ k, a = some k := by
                cases a with
                | none => have := HNE.out; cases this
                | some k => exact ⟨k, rfl⟩
              have hlt2 : ¬ (H.Z : Int) - en < (m : Int) := of_decide_eq_false HNE.out
              have hkS := hq.out.2.1 k rfl
              have HGO : Hid (planGo H.Z (ns.drop (i + 1)) l (some k) (en + m) op (out ++ [(k, en)]) = R) := Lib.hid (by
                have := hgo2.out
                unfold planAt at this
                simp only at this
                rw [if_neg hlt2] at this
                exact this)
              have HLL := Lib.hid hq.out.1
              have HOP : Hid (op ≤ i + 1) := Lib.hid (by have := hq.out.2.2.2; omega)
              simp only [atV]
              clear hgo2 HNE hq
              have P0 := Lib.hid (of_in k en wc (by omega) (by omega) (by omega) (by omega))
              have kwn : IntKind.i64.wrap (((en : Nat) : Int) + (m : Int)) = ((en + m : Nat) : Int) := by rw [IntKind.wrap_i64]; omega
              have HEZ : Hid (en + m ≤ H.Z) := Lib.hid (by omega)
              have HKS : Hid (∀ q, some k = some q → q < H.S) := Lib.hid (fun q hq => by injection hq with hq; omega)
              go_wp2_with fail
              refine P0.out.mono ?_; rintro ez wz ⟨rfl, rfl⟩
              go_wp2_with (at_builtin; refine wpList_append_own _ rfl _ _ 203 rfl w.heap.size 127 i1 _ 1 16 Tryz.underlying203 b0 b1 b2 b3 rfl (by decide) _ _ _ rfl (OWx.out.alloc _) ⟨wz.heap.size, 0, none⟩ 1 1 [plV (k, en)] rfl rfl ?c1 ?c2 ?c3 ?c4 ?c5 ?_)
              case c1 => exact news_of _ _ _
              case c2 => simp [Value.oneCell']
              case c3 => have := HOL.out; unfold maxLen; omega
              case c4 => have := HOL.out; omega
              case c5 => have := HBx.out.size; (try simp); omega
              intro v2 w2 own2 gr2 _
              have hb2 := below_grownS (Base.al HBx.out (.cells #[plV (k, en)] 127)) (OWx.out.alloc (.cells #[plV (k, en)] 127)) gr2 (Nat.le_refl _)
              have bg2 := keepNS (OWx.out.alloc (.cells #[plV (k, en)] 127)) gr2 (blk_old (x := .cells #[plV (k, en)] 127) BGx.out) (by decide)
              have OW2 : Hid (w2.ownsRow w.heap.size 127 1 v2 (out ++ [(k, en)]).length ((out ++ [(k, en)]).map plV)) := Lib.hid (by rw [List.length_append, List.map_append]; exact own2)
              have BG2 := Lib.hid bg2
              have HB2 := Lib.hid hb2
              clear own2 gr2 bg2 hb2 P0 OWx BGx HBx
              go_wp2_with fail
              have := HLT.out
              exact ⟨⟨i + 1, _, some k, en + m, op, out ++ [(k, en)], rfl, by first | rfl | go_num, by first | rfl | go_num, by go_num, by omega, Lib.hid ⟨HLL.out, HKS.out, HEZ.out, HOP.out⟩, Lib.hid (by rw [List.length_append, List.length_singleton]; have := HOL.out; omega), BG2, OW2, HB2, HGO⟩, by simp [intOf]; omega⟩
            | true =>
              have hnew : planAt H.Z m l a en op = planNew l op := by
                unfold planAt
                cases a with
                | none => rfl
                | some k =>
                  have := of_decide_eq_true HNE.out
                  simp only
                  rw [if_pos this]
              have hgo3 := hgo2.out
              rw [hnew] at hgo3
              have hli := infos_own (by rw [hq.out.1]; exact blk_infos BGx.out hq.out.1 HJ.out.2.1 HJ.out.2.2 HJ.out.1 (Nat.le_refl g))
              have GW := Lib.hid (Write_any (some ⟨g, 0, none⟩) H.S gc l wc hli (by rw [hq.out.1]; omega))
              have HLL := Lib.hid hq.out.1
              have HOP : Hid (op + 1 ≤ i + 1) := Lib.hid (by have := hq.out.2.2.2; omega)
              have kwo : IntKind.i64.wrap ((op : Int) + 1) = ((op + 1 : Nat) : Int) := by have := hq.out.2.2.2; rw [IntKind.wrap_i64]; omega
              cases hp : pickW l with
              | none =>
                rw [pickW_no hp] at GW
                unfold planNew at hgo3
                rw [hp] at hgo3
                simp only at hgo3
                have HRR := Lib.hid hgo3
                clear hgo3 hgo2 hnew HNE hli hp hq
                go_wp2_with fail
                refine GW.out.mono ?_; rintro e4 w4 ⟨rfl, hb4⟩
                go_wp2_with fail
                go_ret3
                rw [← HRR.out]
                exact ⟨_, 0, _, rfl, Base.tr HBx.out hb4, rfl, rfl, rfl⟩
              | some k =>
                obtain ⟨hk, hlk, hsk⟩ := pickW_lt hp
                rw [hlk, hsk] at GW
                unfold planNew at hgo3
                rw [hp] at hgo3
                simp only at hgo3
                obtain ⟨x, hx⟩ : ∃ x, l[k]? = some x := ⟨_, List.getElem?_eq_getElem hk⟩
                have hxd : l.getD k ⟨0, false, 0, 0, 0, false⟩ = x := by rw [List.getD_eq_getElem?_getD, hx]; rfl
                rw [hxd] at hgo3
                have HGO : Hid (planGo H.Z (ns.drop (i + 1)) (l.set k (asLive x)) (some k) (8 + m) (op + 1) (out ++ [(k, 8)]) = R) := Lib.hid hgo3
                have hkS : k < H.S := by rw [← HLL.out]; exact hk
                have hkI : (k : Int) < (H.S : Int) := by omega
                have HX := Lib.hid hx
                clear hgo3 hgo2 hnew HNE hli hp hq hlk hsk hxd hx hk
                go_wp2_with fail
                refine GW.out.mono ?_; rintro e4 w4 ⟨rfl, hb4⟩
                have bg4 := blk_below BGx.out hb4
                have hfl : k * 6 + 0 < (l.flatMap Info.row).length := by rw [flat_len _ 6 info_len, HLL.out]; omega
                have ck : w4.cell? ⟨g, k * 6, none⟩ = some (i64 x.cls) := by
                  have := cell_blk bg4 (k * 6 + 0)
                  rw [List.getElem?_toArray, List.getElem?_append_left hfl, flat_get Info.row 6 info_len _ _ x 0 HX.out (by decide)] at this
                  exact this
                have fz := fun o => frozen_blk bg4 o
                have h5 := heap_setCell bg4 (k * 6 + 0) (.int .i64 1)
                have h5' : (w4.setCell ⟨g, k * 6, none⟩ (.int .i64 1)).heap[g]? = some (.cells ((l.set k (asLive x)).flatMap Info.row ++ junk).toArray 182 (0, 0)) := by
                  rw [show k * 6 = k * 6 + 0 from rfl, h5]
                  congr 2
                  apply Array.ext'
                  rw [Array.toList_setIfInBounds]
                  show ((l.flatMap Info.row ++ junk).set _ _) = _
                  rw [List.set_append_left _ _ hfl, flat_set Info.row 6 info_len _ _ x (asLive x) 0 (.int .i64 1) HX.out (by decide) rfl]
                have hb5 := Base.st (Base.tr HBx.out hb4) hbg (k * 6) (.int .i64 1)
                have ow4 := own_below OWx.out hb4
                have ow5 := own_setT (o := k * 6) (u := .int .i64 1) ow4 bg4 (by decide)
                clear OWx BGx HBx
                have OWx := Lib.hid ow5
                have BGx := Lib.hid h5'
                have HBx := Lib.hid hb5
                have HLL2 : Hid ((l.set k (asLive x)).length = H.S) := Lib.hid (by rw [List.length_set]; exact HLL.out)
                clear ow4 ow5 h5 h5' hb5 bg4 hb4 GW HLL
                have HLL := HLL2
                clear HLL2
                go_upto_region 20 with fail
                generalize w4.setCell _ _ = w5 at *
                clear ck fz
                have P0 := Lib.hid (of_in k 8 w5 (by omega) (by omega) (by omega) (by omega))
                have kwn : IntKind.i64.wrap (((8 : Nat) : Int) + (m : Int)) = ((8 + m : Nat) : Int) := by rw [IntKind.wrap_i64]; omega
                have HEZ : Hid (8 + m ≤ H.Z) := Lib.hid (by omega)
                have HKS : Hid (∀ q, some k = some q → q < H.S) := Lib.hid (fun q hq => by injection hq with hq; omega)
                go_wp2_with fail
                refine P0.out.mono ?_; rintro ez wz ⟨rfl, rfl⟩
                go_wp2_with (at_builtin; refine wpList_append_own _ rfl _ _ 203 rfl w.heap.size 127 i1 _ 1 16 Tryz.underlying203 b0 b1 b2 b3 rfl (by decide) _ _ _ rfl (OWx.out.alloc _) ⟨wz.heap.size, 0, none⟩ 1 1 [plV (k, 8)] rfl rfl ?c1 ?c2 ?c3 ?c4 ?c5 ?_)
                case c1 => exact news_of _ _ _
                case c2 => simp [Value.oneCell']
                case c3 => have := HOL.out; unfold maxLen; omega
                case c4 => have := HOL.out; omega
                case c5 => have := HBx.out.size; (try simp); omega
                intro v2 w2 own2 gr2 _
                have hb2 := below_grownS (Base.al HBx.out (.cells #[plV (k, 8)] 127)) (OWx.out.alloc (.cells #[plV (k, 8)] 127)) gr2 (Nat.le_refl _)
                have bg2 := keepNS (OWx.out.alloc (.cells #[plV (k, 8)] 127)) gr2 (blk_old (x := .cells #[plV (k, 8)] 127) BGx.out) (by decide)
                have OW2 : Hid (w2.ownsRow w.heap.size 127 1 v2 (out ++ [(k, 8)]).length ((out ++ [(k, 8)]).map plV)) := Lib.hid (by rw [List.length_append, List.map_append]; exact own2)
                have BG2 := Lib.hid bg2
                have HB2 := Lib.hid hb2
                clear own2 gr2 bg2 hb2 P0 OWx BGx HBx
                go_wp2_with fail
                have := HLT.out
                exact ⟨⟨i + 1, _, some k, 8 + m, (op + 1), out ++ [(k, 8)], rfl, by first | rfl | go_num, by first | rfl | go_num, by go_num, by omega, Lib.hid ⟨HLL.out, HKS.out, HEZ.out, HOP.out⟩, Lib.hid (by rw [List.length_append, List.length_singleton]; have := HOL.out; omega), BG2, OW2, HB2, HGO⟩, by simp [intOf]; omega⟩
      · obtain rfl : i = ns.length := by omega
        have hgo1 := hgo.out
        rw [List.drop_length, planGo] at hgo1
        have HRR := Lib.hid hgo1
        clear hgo1
        go_wp2_with fail
        go_ret3
        rw [← HRR.out]
        exact ⟨_, op, _, rfl, HBx.out, OWx.out, rfl, rfl⟩
end Go.Proofs.YthiimpleljaimaaGreatDoor

/- A new shelf in memory; a sector is opened: what comes of it. -/
namespace Go.Proofs.YthiimpleljaimaaGreatDoor
open Go Go.RowKit Flo

theorem ShNew.shelf {x1 : World} {N : Nor} {SB : Nat} {W : World} {fv lv ev : Value} {fs : List Found} {il : List Info} {el : List Nat} (h : ShNew x1 N SB W fv fs lv il ev el) (hil : il.length = N.S) (hel : el.length = N.S) (hpos : 0 < N.S) (hS : N.S ≤ 64) (hZ : N.Z ≤ 4096) :
    ∃ H : ShV, H.SB = SB ∧ H.il = il ∧ H.el = el ∧ H.op = -1 ∧ H.D = N.D ∧ H.S = N.S ∧ H.Z = N.Z ∧ ShR W H ∧ SB < H.LB ∧ SB < H.EB := by
  rcases h.ownL.2 with ⟨_, h0⟩ | ⟨gl, cl, curl, rfl, hgl, hhl, ncl, mcl, scl, tkl⟩
  · omega
  rcases h.ownE.2 with ⟨_, h0⟩ | ⟨ge, ce, cure, rfl, hge, hhe, nce, mce, sce, tke⟩
  · omega
  refine ⟨⟨SB, gl, ge, cl, ce, N.D, N.S, N.Z, il, el, -1⟩, rfl, rfl, rfl, rfl, rfl, rfl, rfl, ?_, by show SB < gl; omega, by show SB < ge; omega⟩
  have hb := h.box
  rw [hil, hel] at hb
  refine { hS := hb, hL := ⟨curl.toList.drop (il.length * 6), ?_⟩, hE := ⟨cure.toList.drop (el.length * 1), ?_⟩, il := hil, el := hel, lc := by show N.S ≤ cl; omega, ec := by show N.S ≤ ce; omega, lm := mcl, em := mce, S64 := hS, Z4 := hZ }
  · rw [hhl]
    congr 2
    apply Array.ext'
    show curl.toList = il.flatMap Info.row ++ curl.toList.drop (il.length * 6)
    rw [← tkl, List.take_append_drop]
  · rw [hhe]
    congr 2
    apply Array.ext'
    show cure.toList = (el.map fun n : Nat => i64 n) ++ cure.toList.drop (el.length * 1)
    rw [← tke, List.take_append_drop]

def noInfo : Info := ⟨0, false, 0, 0, 0, false⟩
/-- What opening a sector comes to: the error's number, the shelf, the device. -/
noncomputable def opensP (N : Nor) (H : ShV) : Nat × ShV × Nor :=
  match pickW (seenL H N H.S) with
  | none => (9, H, N)
  | some k =>
    let p := N.prog (near k) (near 0) (headOf H.S H.Z)
    let H1 := ({ H with op := (k : Int) } : ShV).failed k p.1
    if p.1 = 0 then (0, { H1 with il := H1.il.set k { H1.il.getD k noInfo with cls := 1, age := 0, need := 0 }, el := H1.el.set k 8 }, p.2)
    else if p.1 = 8 then (p.1, H1, p.2)
    else (p.1, { H1 with il := H1.il.set k { H1.il.getD k noInfo with cls := 2 } }, p.2)
/-- The shelf and its device, side by side. -/
structure ShD (O : Nat → Prop) (w : World) (N : Nor) (H : ShV) : Prop where
  dev : DevR O w N
  sh : ShR w H
  D : H.D = N.D
  S : H.S = N.S
  Z : H.Z = N.Z
  far : ∀ k, H.own k → ¬ O k
theorem ShD.below {O : Nat → Prop} {w w' : World} {N : Nor} {H : ShV} (h : ShD O w N H) (hb : Below w.heap.size w w') : ShD O w' N H :=
  { h with dev := h.dev.below hb, sh := h.sh.below hb }
abbrev shO (O : Nat → Prop) (H : ShV) (k : Nat) : Prop := O k ∨ H.own k
theorem failed_S (H : ShV) (s e : Nat) : (H.failed s e).S = H.S ∧ (H.failed s e).Z = H.Z ∧ (H.failed s e).D = H.D ∧ (H.failed s e).SB = H.SB ∧ (H.failed s e).LB = H.LB ∧ (H.failed s e).EB = H.EB ∧ (H.failed s e).lc = H.lc ∧ (H.failed s e).ec = H.ec := ⟨rfl, rfl, rfl, rfl, rfl, rfl, rfl, rfl⟩
theorem prog_S0 (N : Nor) (a b : Nat) (lb : List Nat) : (N.prog a b lb).2.S = N.S ∧ (N.prog a b lb).2.Z = N.Z ∧ (N.prog a b lb).2.D = N.D := by
  unfold Nor.prog Nor.act
  repeat' (first | exact ⟨rfl, rfl, rfl⟩ | split)
/-- A cell of the shelf's own written: the device is as it was. -/
theorem ShD.dev_set {O : Nat → Prop} {w : World} {N : Nor} {H : ShV} (h : ShD O w N H) {g : Nat} (hg : H.own g) (o : Nat) (v : Value) : DevR O (w.setCell ⟨g, o, none⟩ v) N :=
  h.dev.outQ (Q := H.own) ((Out.refl _ _).set hg o v) (fun k hk hq => h.far k hq hk)
theorem ShD.setOp {O : Nat → Prop} {w : World} {N : Nor} {H : ShV} (h : ShD O w N H) (k : Int) : ShD O (w.setCell ⟨H.SB, 5, none⟩ (.int .i64 k)) N { H with op := k } :=
  { dev := h.dev_set (.inl rfl) _ _, sh := h.sh.setOp k, D := h.D, S := h.S, Z := h.Z, far := h.far }
theorem ShD.setI {O : Nat → Prop} {w : World} {N : Nor} {H : ShV} (h : ShD O w N H) {i : Nat} {x x' : Info} (hx : H.il[i]? = some x) (f : Nat) (hf : f < 6) (v : Value) (hr : x'.row = x.row.set f v) : ShD O (w.setCell ⟨H.LB, i * 6 + f, none⟩ v) N { H with il := H.il.set i x' } :=
  { dev := h.dev_set (.inr (.inl rfl)) _ _, sh := h.sh.setI hx f hf v hr, D := h.D, S := h.S, Z := h.Z, far := h.far }
theorem ShD.setE {O : Nat → Prop} {w : World} {N : Nor} {H : ShV} (h : ShD O w N H) (i n : Nat) (hi : i < H.S) : ShD O (w.setCell ⟨H.EB, i, none⟩ (i64 n)) N { H with el := H.el.set i n } :=
  { dev := h.dev_set (.inr (.inr rfl)) _ _, sh := h.sh.setE i n hi, D := h.D, S := h.S, Z := h.Z, far := h.far }
/-- The device has changed, the shelf has not. -/
theorem ShD.acted {O : Nat → Prop} {w w' : World} {N N' : Nor} {H : ShV} (h : ShD O w N H) (hd : DevR O w' N') (ho : Out O w w') (h1 : N'.S = N.S) (h2 : N'.Z = N.Z) (h3 : N'.D = N.D) : ShD O w' N' H := by
  obtain ⟨j1, l1⟩ := h.sh.hL
  obtain ⟨j2, l2⟩ := h.sh.hE
  have kp : ∀ k, H.own k → k < w.heap.size → w'.heap[k]? = w.heap[k]? := fun k hk hl => ho.block k hl (h.far k hk)
  exact { dev := hd, sh := h.sh.keep (kp _ (.inl rfl) (Array.getElem?_eq_some_iff.1 h.sh.hS).1) (kp _ (.inr (.inl rfl)) (Array.getElem?_eq_some_iff.1 l1).1) (kp _ (.inr (.inr rfl)) (Array.getElem?_eq_some_iff.1 l2).1), D := by rw [h3]; exact h.D, S := by rw [h1]; exact h.S, Z := by rw [h2]; exact h.Z, far := h.far }
/-- The shelf has changed, the device has not. -/
theorem ShD.failed {O : Nat → Prop} {w w' : World} {N : Nor} {H : ShV} (h : ShD O w N H) {s e : Nat} (hs : ShR w' (H.failed s e)) (ho : Out H.own w w') : ShD O w' N (H.failed s e) :=
  { dev := h.dev.outQ ho (fun k hk hq => h.far k hq hk), sh := hs, D := h.D, S := h.S, Z := h.Z, far := h.far }
end Go.Proofs.YthiimpleljaimaaGreatDoor

