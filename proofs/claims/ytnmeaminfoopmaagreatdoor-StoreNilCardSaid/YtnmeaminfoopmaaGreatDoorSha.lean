/- (*shelf.Shelf).Write: the walk. -/
import Derived.Test.YtnmeaminfoopmaaGreatDoorMg22
namespace Go.Proofs.YtnmeaminfoopmaaGreatDoor
open Go Go.RowKit Flo

set_option maxHeartbeats 16000000 in
set_option maxRecDepth 100000 in
theorem shWrite_any {O : Nat → Prop} {w : World} {N : Nor} {H : ShV} (h : ShD O w N H) (a0 : Option Nat) (hok : ShOk H a0) (h1 : N.acts ≤ 900000) (h2 : N.offs ≤ 900000) (hcm : ∀ c, N.cut = some c → c.1 ≤ 9223372036854775807)
    (A : Option Addr) (m cap : Nat) (b : List Nat) (age : Int) (hy : Byt w (.slice A m cap) b) (hb8 : ∀ x ∈ b, x < 256) (hfar : Far (shO O H) (.slice A m cap)) (hm : b.length ≤ 100000)
    (hbd : ∀ H' N', opensP N { H with op := -1 } = (0, H', N') → N'.acts ≤ 1000000 ∧ N'.offs ≤ 1000000 ∧ ∀ c, N'.cut = some c → c.1 ≤ 9223372036854775807) :
    Calls Tryz.prog 76 #[H.ptr, .slice A m cap, .int .u64 age] w fun e w' => e = .returned (.tuple #[cx (writeP N H a0 b age).1.1 (writeP N H a0 b age).1.2, i64 (writeP N H a0 b age).2.1]) ∧ ShD O w' (writeP N H a0 b age).2.2.2 (writeP N H a0 b age).2.2.1 ∧ Out (shO O H) w w' := by
  have hgeo := h.dev.geoI
  have hmb := hy.len
  rw [List.length_map] at hmb
  subst hmb
  have hpos : 0 < H.S := by rw [h.S]; omega
  have hZ8 : 8 ≤ H.Z := by rw [h.Z]; omega
  have hS64 := h.sh.S64
  have hZ4 := h.sh.Z4
  have GF := Lib.hid (fits_any h.sh (b.length : Int))
  have HH := Lib.hid h
  have HOK := Lib.hid hok
  have HY := Lib.hid hy
  have HFAR := Lib.hid hfar
  have HBD := Lib.hid hbd
  obtain ⟨RES, hR⟩ : ∃ RES, writeP N H a0 b age = RES := ⟨_, rfl⟩
  rw [hR]
  have HR := Lib.hid hR
  obtain ⟨fb, hfb⟩ : ∃ fb, fitsB H.Z b.length = fb := ⟨_, rfl⟩
  rw [hfb] at GF
  have HFB := Lib.hid hfb
  clear hR hfb hy hfar hbd h hok
  cases fb with
  | false =>
    have hr : RES = ((0, 0), 4, H, N) := by rw [← HR.out]; unfold writeP; rw [HFB.out]; rfl
    subst hr
    go_enter Tryz.func76, Tryz.ntmps76
    go_wp2_with fail
    refine GF.out.mono ?_; rintro e1 w1 ⟨rfl, rfl⟩
    go_wp2_with fail
    go_ret2
    exact ⟨rfl, HH.out, Out.refl _ _⟩
  | true =>
    have hfit := HFB.out
    unfold fitsB at hfit
    rw [Bool.and_eq_true, decide_eq_true_iff, decide_eq_true_iff] at hfit
    obtain ⟨hb1, hbZ⟩ := hfit
    obtain ⟨need, hneed⟩ : ∃ need, needB H.Z a0 (H.el.getD (a0.getD 0) 0) b.length = need := ⟨_, rfl⟩
    have HNE := Lib.hid hneed
    clear hneed
    go_enter Tryz.func76, Tryz.ntmps76
    go_wp2_with fail
    refine GF.out.mono ?_; rintro e1 w1 ⟨rfl, rfl⟩
    go_upto_region 5 with fail
    go_cut [42] (fun t wc => t = .bool need ∧ Hid (Below w1.heap.size w1 wc))
    case first =>
      have c5 : w1.cell? ⟨H.SB, 5, none⟩ = some (.int .i64 H.op) := cell_blk HH.out.sh.hS 5
      have c4 : w1.cell? ⟨H.SB, 4, none⟩ = some (.slice (some ⟨H.EB, 0, none⟩) H.S H.ec) := cell_blk HH.out.sh.hS 4
      have zS : H.SB < w1.heap.size := (Array.getElem?_eq_some_iff.1 HH.out.sh.hS).1
      have hop := HOK.out.op
      rw [hop] at c5
      clear hop
      cases a0 with
      | none =>
        have hne : need = true := by rw [← HNE.out]; rfl
        subst hne
        simp only [atV] at c5
        have q5 := fun p : OnOf w1 => on_cell zS c5 p
        go_wp2_with fail
        refine wp_region_quiet_on (by kernel_rfl) (by kernel_rfl) ?_
        repeat ((with_reducible refine wpQuiet_step (fun K hK => ?_)); go_simp; first | ((with_reducible refine hK _ ?_); clear hK K) | (rw [if_neg (by intro h; cases h)]; (with_reducible refine hK _ ?_); clear hK K) | (apply Exists.intro; refine ⟨fun _ => ?_, hK _ ?_⟩; (fail); clear hK K))
        with_reducible refine wpQuiet_nil ?_
        intro _ hw'
        obtain ⟨pq, hw''⟩ := hw'
        subst hw''
        go_wp2_with fail
        go_meet
        case rel => exact ⟨rfl, Lib.hid pq.h⟩
      | some k =>
        have hk := HOK.out.lt k rfl
        have hkI : (k : Int) < (H.S : Int) := by omega
        simp only [atV] at c5
        have tk : ((k : Int) == -1) = false := by rw [beq_eq_false_iff_ne]; omega
        obtain ⟨en, hen⟩ : ∃ en, H.el[k]? = some en := ⟨_, List.getElem?_eq_getElem (by rw [HH.out.sh.el]; exact hk)⟩
        have hend : H.el.getD k 0 = en := by rw [List.getD_eq_getElem?_getD, hen]; rfl
        have henZ := HOK.out.el en (List.mem_of_getElem? hen)
        have hne : need = decide ((H.Z : Int) - (en : Int) < (b.length : Int)) := by rw [← HNE.out, ← hend]; rfl
        subst hne
        have cE : w1.cell? ⟨H.EB, k, none⟩ = some (i64 en) := HH.out.sh.endAt hen
        obtain ⟨jE, hE⟩ := HH.out.sh.hE
        have zE : H.EB < w1.heap.size := (Array.getElem?_eq_some_iff.1 hE).1
        have q5 := fun p : OnOf w1 => on_cell zS c5 p
        have q4 := fun p : OnOf w1 => on_cell zS c4 p
        have qE := fun p : OnOf w1 => on_cell zE cE p
        have GR := fun p : OnOf w1 => Lib.hid (room_any (HH.out.sh.below p.h) (en : Int) (by omega) (by omega))
        clear hE hen hend
        go_wp2_with fail
        refine wp_region_quiet_on (by kernel_rfl) (by kernel_rfl) ?_
        repeat ((with_reducible refine wpQuiet_step (fun K hK => ?_)); go_simp; first | ((with_reducible refine hK _ ?_); clear hK K) | (rw [if_neg (by intro h; cases h)]; (with_reducible refine hK _ ?_); clear hK K) | (apply Exists.intro; refine ⟨fun _ => ?_, hK _ ?_⟩; (with_reducible exact on_of_same (GR _).out); clear hK K))
        with_reducible refine wpQuiet_nil ?_
        intro _ hw'
        obtain ⟨pq, hw''⟩ := hw'
        subst hw''
        go_wp2_with fail
        go_meet
        case rel => exact ⟨rfl, Lib.hid pq.h⟩
    case rest =>
      obtain ⟨rfl, hbc⟩ := hcut
      have hc := Lib.hid (HH.out.below hbc.out)
      have oc := Lib.hid (Out.of_below (O := shO O H) hbc.out)
      clear hbc GF
      go_upto_if 42 with fail
      go_cut [] (fun wd => ∃ (N2 : Nor) (H2 : ShV) (k : Nat), Hid (ShD O wd N2 H2 ∧ H2.op = (k : Int) ∧ k < H2.S ∧ H2.SB = H.SB ∧ H2.LB = H.LB ∧ H2.EB = H.EB ∧ H2.S = H.S ∧ H2.Z = H.Z ∧ (∀ n ∈ H2.el, n ≤ H.Z)) ∧ Hid (Out (shO O H) w1 wd) ∧ Hid (RES = writeAt N2 H2 k b age) ∧ Hid (N2.acts ≤ 1000000 ∧ N2.offs ≤ 1000000 ∧ ∀ c, N2.cut = some c → c.1 ≤ 9223372036854775807))
      case first =>
        cases need with
        | true =>
          have hr0 : RES = (if (opensP N { H with op := -1 }).1 = 0 then writeAt (opensP N { H with op := -1 }).2.2 (opensP N { H with op := -1 }).2.1 (opensP N { H with op := -1 }).2.1.op.toNat b age else ((0, 0), (opensP N { H with op := -1 }).1, (opensP N { H with op := -1 }).2.1, (opensP N { H with op := -1 }).2.2)) := by
            rw [← HR.out]; unfold writeP; rw [HFB.out, HNE.out]; rfl
          have s3 := Lib.hid (hc.out.setOp (-1))
          have o3 := Lib.hid (oc.out.set (g := H.SB) (.inr (.inl rfl)) 5 (.int .i64 (-1)))
          have c5 : wc.cell? ⟨H.SB, 5, none⟩ = some (.int .i64 H.op) := cell_blk hc.out.sh.hS 5
          have fS := fun o => frozen_blk hc.out.sh.hS o
          have HR0 := Lib.hid hr0
          clear hr0
          go_upto_region 7 with fail
          generalize wc.setCell _ _ = w3 at *
          clear c5 fS
          have GO := opens_any s3.out (by omega) (by omega) hcm
          have OK := fun H' N' hq => opens_ok (N := N) (H := { H with op := -1 }) (H' := H') (N' := N') hq HH.out.sh.il HOK.out.el hZ8
          obtain ⟨pe, H2, N2, hq⟩ : ∃ pe H2 N2, opensP N { H with op := -1 } = (pe, H2, N2) := ⟨_, _, _, rfl⟩
          rw [hq] at GO
          have HR1 := HR0.out
          rw [hq] at HR1
          have GO := Lib.hid GO
          have HR1 := Lib.hid HR1
          have HQ := Lib.hid hq
          clear hq HR0 HR
          go_wp2_with fail
          refine GO.out.mono ?_; rintro e4 w4 ⟨rfl, hs4, ho4⟩
          have o4 := o3.out.trans (O := shO O H) ho4
          by_cases he : pe = 0
          · subst he
            have OKK := OK H2 N2 HQ.out
            obtain ⟨k, k1, k2, k3, k4, k5, k6, k7, k8, k9⟩ := OKK
            have hrr : RES = writeAt N2 H2 k b age := by rw [HR1.out]; simp only [if_true]; rw [k1]; rfl
            have HB := HBD.out H2 N2 HQ.out
            have FIN := Lib.hid (And.intro hs4 (And.intro k1 (And.intro (show k < H2.S by rw [k3]; exact k2) (And.intro k6 (And.intro k7 (And.intro k8 (And.intro k3 (And.intro k4 k9))))))))
            have O4 := Lib.hid o4
            have HRR := Lib.hid hrr
            have HBB := Lib.hid HB
            clear k1 k2 k3 k4 k5 k6 k7 k8 k9 hrr HB OK hs4 ho4 o4
            go_wp2_with fail
            go_meet
            case rel => exact ⟨N2, H2, k, FIN, O4, HRR, HBB⟩
          · have te : ((pe : Int) == 0) = false := by rw [beq_eq_false_iff_ne]; omega
            have te' : ((pe : Int) != 0) = true := by rw [bne_iff_ne]; omega
            have hrr : RES = ((0, 0), pe, H2, N2) := by rw [HR1.out]; simp only [if_neg he]
            subst hrr
            clear HR1
            go_wp2_with fail
            go_ret2
            exact ⟨rfl, hs4, o4⟩
        | false =>
          obtain ⟨k, rfl⟩ : ∃ k, a0 = some k := by
            cases a0 with
            | none => have := HNE.out; cases this
            | some k => exact ⟨k, rfl⟩
          have hrr : RES = writeAt N H k b age := by rw [← HR.out]; unfold writeP; rw [HFB.out, HNE.out]; rfl
          have HRR := Lib.hid hrr
          have HBB := Lib.hid (And.intro (show N.acts ≤ 1000000 by omega) (And.intro (show N.offs ≤ 1000000 by omega) hcm))
          clear hrr
          go_wp2_with fail
          go_meet
          case rel => exact ⟨N, H, k, Lib.hid ⟨hc.out, HOK.out.op, HOK.out.lt k rfl, rfl, rfl, rfl, rfl, rfl, HOK.out.el⟩, oc, HRR, HBB⟩
      case rest =>
        clear hc oc
        obtain ⟨N2, H2, k, FIN, od, HRR, HBB⟩ := hcut
        obtain ⟨hs, hop, hkS, e1, e2, e3, e4, e5, hel⟩ := FIN.out
        obtain ⟨en, hen⟩ : ∃ en, H2.el[k]? = some en := ⟨_, List.getElem?_eq_getElem (by rw [hs.sh.el]; exact hkS)⟩
        have hend : H2.el.getD k 0 = en := by rw [List.getD_eq_getElem?_getD, hen]; rfl
        have henZ : en ≤ H.Z := hel en (List.mem_of_getElem? hen)
        have c5 : wc.cell? ⟨H.SB, 5, none⟩ = some (.int .i64 (k : Int)) := by rw [← e1, ← hop]; exact cell_blk hs.sh.hS 5
        have c4 : wc.cell? ⟨H.SB, 4, none⟩ = some (.slice (some ⟨H.EB, 0, none⟩) H.S H2.ec) := by rw [← e1, ← e3, ← e4]; exact cell_blk hs.sh.hS 4
        have c0 : wc.cell? ⟨H.SB, 0, none⟩ = some (.pointer (some ⟨H2.D, 0, none⟩)) := by rw [← e1]; exact cell_blk hs.sh.hS 0
        have cE : wc.cell? ⟨H.EB, k, none⟩ = some (i64 en) := by rw [← e3]; exact hs.sh.endAt hen
        have hkI : (k : Int) < (H.S : Int) := by omega
        have P0 : ∀ W, Hid (Gives 56 #[i64 k, i64 en] W (cx (near k) (near en))) := fun W => Lib.hid (of_in k en W (by omega) (by omega) (by omega) (by omega))
        obtain ⟨pe, N3, hpe⟩ : ∃ pe N3, N2.prog (near k) (near en) b = (pe, N3) := ⟨_, _, rfl⟩
        have GP := prog_any hs.dev HBB.out.1 HBB.out.2.1 HBB.out.2.2 (near k) (near en) A b.length cap b (Sl.out HY.out HFAR.out od.out) hb8 (HFAR.out.sub (fun q hq => .inl hq)) hm
        rw [show ptrD N2 = .pointer (some ⟨H2.D, 0, none⟩) by rw [hs.D], hpe] at GP
        have hSS := prog_S0 N2 (near k) (near en) b
        rw [hpe] at hSS
        have GP := Lib.hid GP
        have HEN := Lib.hid (And.intro hen hend)
        have HPE := Lib.hid (And.intro hpe hSS)
        have HK := Lib.hid (And.intro hkS (And.intro e1 (And.intro e2 (And.intro e3 (And.intro e4 e5)))))
        clear hs hop hkS e1 e2 e3 e4 e5 hel hen hend hpe hSS HBB
        go_wp2_with fail
        refine (P0 _).out.mono ?_; rintro e6 w6 ⟨rfl, rfl⟩
        go_wp2_with fail
        refine GP.out.mono ?_; rintro e7 w7 ⟨rfl, hd7, ho7⟩
        have s7 := Lib.hid (FIN.out.1.acted hd7 ho7 HPE.out.2.1 HPE.out.2.2.1 HPE.out.2.2.2)
        have o7 := Lib.hid (od.out.trans (O := shO O H) (ho7.wide (fun q hq => .inl hq)))
        have GF := failed_any s7.out.sh k pe HK.out.1
        rw [show H2.ptr = H.ptr by rw [ShV.ptr, HK.out.2.1]] at GF
        have GF := Lib.hid GF
        clear GP hd7 ho7 c5 c4 c0 cE P0 od FIN
        go_wp2_with fail
        refine GF.out.mono ?_; rintro e8 w8 ⟨rfl, hs8, ho8⟩
        have s8 := Lib.hid (s7.out.failed hs8 ho8)
        have o8 := Lib.hid (o7.out.trans (O := shO O H) (ho8.wide (fun q hq => .inr (by
          rcases hq with h | h | h
          · exact .inl (h.trans HK.out.2.1)
          · exact .inr (.inl (h.trans HK.out.2.2.1))
          · exact .inr (.inr (h.trans HK.out.2.2.2.1))))))
        clear GF s7 o7 hs8 ho8
        by_cases he : pe = 0
        · subst he
          obtain ⟨y, hy⟩ : ∃ y, (H2.failed k 0).il[k]? = some y := ⟨_, List.getElem?_eq_getElem (by rw [s8.out.sh.il]; exact HK.out.1)⟩
          have hyd : (H2.failed k 0).il.getD k noInfo = y := by rw [List.getD_eq_getElem?_getD, hy]; rfl
          have hrr : RES = ((near k, near en), 0, { H2.failed k 0 with el := (H2.failed k 0).el.set k (en + b.length), il := (H2.failed k 0).il.set k { y with age := max y.age age } }, N3) := by
            rw [HRR.out]; unfold writeAt; simp only [HEN.out.2, HPE.out.1, if_true, hyd]
          have s9a := s8.out.setE k (en + b.length) (show k < H2.S from HK.out.1)
          have s9 : ShD O (w8.setCell ⟨H.EB, k, none⟩ (i64 (en + b.length : Nat))) N3 { H2.failed k 0 with el := (H2.failed k 0).el.set k (en + b.length) } := by
            rw [← HK.out.2.2.2.1]; exact s9a
          clear s9a
          have o9 := o8.out.set (g := H.EB) (.inr (.inr (.inr rfl))) k (i64 (en + b.length : Nat))
          have hv : (i64 ((en + b.length : Nat) : Int)) = Value.int .i64 ((en : Int) + (b.length : Int)) := by push_cast; rfl
          rw [hv] at s9 o9
          have S9 := Lib.hid s9
          have O9 := Lib.hid o9
          have HY8 := Lib.hid hy
          have HRR2 := Lib.hid hrr
          have c4 : w8.cell? ⟨H.SB, 4, none⟩ = some (.slice (some ⟨H.EB, 0, none⟩) H.S H2.ec) := by rw [← HK.out.2.1, ← HK.out.2.2.2.1, ← HK.out.2.2.2.2.1]; exact cell_blk s8.out.sh.hS 4
          have cE : w8.cell? ⟨H.EB, k, none⟩ = some (i64 en) := by rw [← HK.out.2.2.2.1]; exact s8.out.sh.endAt HEN.out.1
          obtain ⟨jE, hE⟩ := s8.out.sh.hE
          have fE : ∀ o, w8.frozen? ⟨H.EB, o, none⟩ = false := fun o => by rw [← HK.out.2.2.2.1]; exact frozen_blk hE o
          have kwe : IntKind.i64.wrap ((en : Int) + (b.length : Int)) = ((en + b.length : Nat) : Int) := by rw [IntKind.wrap_i64]; omega
          clear hE hy hyd hrr s9 o9 s8 o8 hv
          go_upto_region 16 with fail
          generalize w8.setCell _ _ = w9 at *
          clear c4 cE fE
          have c3 : w9.cell? ⟨H.SB, 3, none⟩ = some (.slice (some ⟨H.LB, 0, none⟩) H.S H2.lc) := by rw [← HK.out.2.1, ← HK.out.2.2.1, ← HK.out.2.2.2.2.1]; exact cell_blk S9.out.sh.hS 3
          have cI : w9.cell? ⟨H.LB, k * 6 + 3, none⟩ = some (.int .u64 y.age) := by rw [← HK.out.2.2.1]; exact S9.out.sh.info HY8.out 3 (by decide)
          obtain ⟨jL, hL⟩ := S9.out.sh.hL
          have hL' : w9.heap[H.LB]? = some (.cells ((H2.failed k 0).il.flatMap Info.row ++ jL).toArray 121 (0, 0)) := by rw [← HK.out.2.2.1]; exact hL
          have fL := fun o => frozen_blk hL' o
          have zS : H.SB < w9.heap.size := by rw [← HK.out.2.1]; exact (Array.getElem?_eq_some_iff.1 S9.out.sh.hS).1
          have zL : H.LB < w9.heap.size := (Array.getElem?_eq_some_iff.1 hL').1
          have q3 := fun p : OnOf w9 => on_cell zS c3 p
          have qI := fun p : OnOf w9 => on_cell zL cI p
          have hmx : (if y.age < age then age else y.age) = max y.age age := by rw [Int.max_def]; split <;> split <;> omega
          have s10a := (S9.out.below (Base.dr (Below.refl _ w9))).setI (i := k) (x := y) (x' := { y with age := max y.age age }) HY8.out 3 (by decide) (.int .u64 (if y.age < age then age else y.age)) (by rw [hmx]; rfl)
          have s10 : ShD O (w9.drew.setCell ⟨H.LB, k * 6 + 3, none⟩ (.int .u64 (if y.age < age then age else y.age))) N3 { H2.failed k 0 with el := (H2.failed k 0).el.set k (en + b.length), il := (H2.failed k 0).il.set k { y with age := max y.age age } } := by
            rw [← HK.out.2.2.1]; exact s10a
          have o10 := (O9.out.then (Base.dr (Below.refl _ w9))).set (g := H.LB) (.inr (.inr (.inl rfl))) (k * 6 + 3) (.int .u64 (if y.age < age then age else y.age))
          have S10 := Lib.hid s10
          have O10 := Lib.hid o10
          clear hL hL' s10a s10 o10 hmx S9 O9
          go_wp2_with fail
          refine wp_region_po (fun w' => ∃ p : OnOf w9, w' = p.v) 17 [] (by kernel_rfl) (by kernel_rfl) ⟨⟨_, Base.dr (Below.refl _ _)⟩, rfl⟩ ?_
          simp only [List.take_succ_cons, List.take_zero, List.drop_succ_cons, List.drop_zero]
          have on0 := @on_rd0; have on1 := @on_rd1; have on2 := @on_rd2; have on3 := @on_new1; have on4 := @on_new2; have on5 := @gr_rd0
          repeat ((with_reducible refine seq_read ?_ ?_); (focus rfl); (intro K hK); (unfold readsAt); go_simp; first | ((with_reducible refine hK _ ?_); clear hK K) | (rw [if_neg (by intro h; cases h)]; (with_reducible refine hK _ ?_); clear hK K))
          clear on0 on1 on2 on3 on4 on5
          with_reducible refine seq_nil ?_
          clear q3 qI
          go_wp2_with fail
          · rename_i hag
            have ev : (if y.age < age then age else y.age) = age := by split <;> omega
            have s11 := S10.out
            have o11 := O10.out
            rw [ev] at s11 o11
            go_ret2
            have HRR3 := HRR2.out
            subst HRR3
            exact ⟨rfl, s11, o11⟩
          · rename_i hag
            have ev : (if y.age < age then age else y.age) = y.age := by split <;> omega
            have s11 := S10.out
            have o11 := O10.out
            rw [ev] at s11 o11
            go_ret2
            have HRR3 := HRR2.out
            subst HRR3
            exact ⟨rfl, s11, o11⟩
        · have te : ((pe : Int) == 0) = false := by rw [beq_eq_false_iff_ne]; omega
          have te' : ((pe : Int) != 0) = true := by rw [bne_iff_ne]; omega
          have hrr : RES = ((0, 0), pe, H2.failed k pe, N3) := by
            rw [HRR.out]; unfold writeAt; simp only [HEN.out.2, HPE.out.1, if_neg he]
          subst hrr
          go_wp2_with fail
          go_ret2
          exact ⟨rfl, s8.out, o8.out⟩
end Go.Proofs.YtnmeaminfoopmaaGreatDoor
