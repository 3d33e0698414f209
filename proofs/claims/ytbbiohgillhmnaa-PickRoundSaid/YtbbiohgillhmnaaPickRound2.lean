/- PickRound: the walk. -/
import Derived.Test.YtbbiohgillhmnaaPickRound
import Derived.Laws.MakeOwn
namespace Go.Proofs.Ytbbiohgillhmnaa
open Go.ChangeShapes Go.WideShapes Go.ChangeAt Go.RowKit

abbrev Info.zero : Info := ⟨0, false, 0, 0, 0, false⟩
theorem own_made (w : World) (N : Nat) : OwnInfos (w.alloc (.cells (madeCells #[i64 0, .bool false, i64 0, .int .u64 0, i64 0, .bool false] (N * 6)) 53 (0, 0))) w.heap.size (List.replicate N Info.zero) := by
  refine ⟨_, heap_alloc_new w _, by simp [madeCells], fun k hk q u hq => ?_⟩
  rw [List.length_replicate] at hk
  have hg : gi (List.replicate N Info.zero) k = Info.zero := by
    unfold gi
    simp only [Int.toNat_natCast, List.getD_eq_getElem?_getD, List.getElem?_replicate]
    split <;> rfl
  rw [hg] at hq
  have hq6 : q < 6 := by simpa using (List.getElem?_eq_some_iff.1 hq).1
  have hlt : k * 6 + q < N * 6 := by omega
  have hmod : (k * 6 + q) % 6 = q := by omega
  unfold madeCells
  rw [Array.getElem?_map, Array.getElem?_range, if_pos hlt]
  simp only [Option.map_some]
  show some (#[i64 0, Value.bool false, i64 0, Value.int .u64 0, i64 0, Value.bool false][(k * 6 + q) % 6]!) = some u
  rw [hmod]
  match q, hq6, hq with
  | 0, _, hq => exact hq
  | 1, _, hq => exact hq
  | 2, _, hq => exact hq
  | 3, _, hq => exact hq
  | 4, _, hq => exact hq
  | 5, _, hq => exact hq

theorem OwnInfos.two {W : World} {g : Nat} {l : List Info} (h : OwnInfos W g l) {k : Nat} (hk : k < l.length) (a : Int) :
    OwnInfos ((W.setCell ⟨g, k * 6, none⟩ (i64 1)).setCell ⟨g, k * 6 + 3, none⟩ (.int .u64 a)) g (l.set k { gi l k with cls := 1, age := a }) := by
  have h1 := h.set hk { gi l k with cls := 1 } 0 (i64 1) (by omega) (by intro p; rcases p with _ | _ | _ | _ | _ | _ | p <;> simp)
  have h2 := h1.set (k := k) (by rw [List.length_set]; exact hk) { gi l k with cls := 1, age := a } 3 (.int .u64 a) (by omega) (by
    intro p; rw [gi_set hk, if_pos rfl]; rcases p with _ | _ | _ | _ | _ | _ | p <;> simp)
  rw [List.set_set] at h2
  exact h2
theorem OwnInfos.three {W : World} {g : Nat} {l : List Info} (h : OwnInfos W g l) {k : Nat} (hk : k < l.length) (v a : Int) :
    OwnInfos (((W.setCell ⟨g, k * 6 + 2, none⟩ (i64 v)).setCell ⟨g, k * 6, none⟩ (i64 1)).setCell ⟨g, k * 6 + 3, none⟩ (.int .u64 a)) g (l.set k { gi l k with cls := 1, age := a, wear := v }) := by
  have h1 := h.set hk { gi l k with wear := v } 2 (i64 v) (by omega) (by intro p; rcases p with _ | _ | _ | _ | _ | _ | p <;> simp)
  have h2 := h1.two (k := k) (by rw [List.length_set]; exact hk) a
  rw [List.set_set, gi_set hk, if_pos rfl] at h2
  exact h2

theorem info_Info : (Try.prog.info? 53).map (fun i => (i.zero, i.size)) = some (some (.agg #[i64 0, .bool false, i64 0, .int .u64 0, i64 0, .bool false]), 6) := by kernel_rfl

set_option maxHeartbeats 8000000 in
set_option maxRecDepth 100000 in
theorem pickRound_makes (n turns : Nat) (hn : n ≤ 255) (ht : turns ≤ 65535) (w : World) : Makes 11 #[u8 n, .int .u16 turns] w (.bool true) := by
  obtain ⟨i, hi, hiz⟩ := Option.map_eq_some_iff.1 info_Info
  simp only [Prod.mk.injEq] at hiz
  obtain ⟨hz, hs⟩ := hiz
  obtain ⟨N, hN⟩ : ∃ N : Nat, N = 6 + n % 20 := ⟨_, rfl⟩
  obtain ⟨T, hT⟩ : ∃ T : Nat, T = turns % 400 := ⟨_, rfl⟩
  have hbytes : i.bytes ≤ 100 := by
    have : (Try.prog.info? 53).map (fun i => decide (i.bytes ≤ 100)) = some true := by kernel_rfl
    rw [hi] at this
    simpa using this
  have hmk := fun W => run_make (P := Try.prog) W 50 53 i _ Try.underlying50 hi hz .i64 .i64 (N : Int) (N : Int) (by omega) (Int.le_refl _) (by
    have : (i.bytes : Int) * (N : Int) ≤ 100 * 30 := Int.mul_le_mul (by omega) (by omega) (by omega) (by omega)
    omega) (by omega)
  rw [hs] at hmk
  simp only [Int.toNat_natCast, Value.cells] at hmk
  have hNe : (6 : Int) + (n : Int) % 20 = (N : Int) := by omega
  have hTe : (turns : Int) % 400 = (T : Int) := by omega
  have hNp : 6 ≤ N ∧ N ≤ 25 := by omega
  have hT4 : T < 400 := by omega
  have HTE := Lib.hid hTe
  clear hTe
  have HNP := Lib.hid hNp
  have HT4 := Lib.hid hT4
  have gw := fun l hl W hW => Lib.hid (Write_any (some ⟨w.heap.size, 0, none⟩) N N l W hW hl)
  have ge := fun l hl hm W hW => Lib.hid (Erase_any (some ⟨w.heap.size, 0, none⟩) N N l hm W hW hl)
  have gl := fun l hm W hW => Lib.hid (Lead_any (some ⟨w.heap.size, 0, none⟩) N N l hm W hW)
  have gf := fun W => Lib.hid (fixed11 W)
  have hown := own_made w N
  have HOWN := Lib.hid hown
  clear hown hN hT hbytes hi hz hs hNp hT4
  go_enter Try.func11, Try.ntmps11
  go_wp2_with fail
  go_loopw [6, 17] (fun age i wr => ∃ (k : Nat) (l : List Info), k ≤ T ∧ i = i64 (k : Int) ∧ age = .int .u64 (k : Int) ∧ OwnInfos wr w.heap.size l ∧ Hid (Good N k l) ∧ Below w.heap.size w wr) (fun _ i _ => T - (intOf i).toNat)
  case atStart => exact ⟨0, List.replicate N Info.zero, by omega, rfl, rfl, HOWN.out, Good.new N, Base.al (Below.refl _ _) _⟩
  case round =>
    obtain ⟨k, l, hk, rfl, rfl, hown, hgood, hb⟩ := hrel
    have hlen := hgood.out.len
    have hmax : l.length ≤ maxLen := by have := HNP.out; unfold maxLen; omega
    have hbig : l.length * 8 ≤ 140737488351232 := by have := HNP.out; omega
    have hmild := hgood.out.mild (by have := HT4.out; omega)
    by_cases hlt : k < T
    · have hltb : decide ((k : Int) < (turns : Int) % 400) = true := decide_eq_true (by have := HTE.out; omega)
      have hk4 : k < 400 := by have := HT4.out; omega
      have OWN := Lib.hid hown
      have hI := hown.infos hmax
      rw [hlen] at hI
      have HI := Lib.hid hI
      have w1 := gw l hbig
      by_cases hbl : idx canBlank 0 l = []
      · obtain ⟨hok, s, hs, hsN, hsw⟩ := hgood.out.pick (by have := HNP.out; omega) hbl
        have v1 : leastOf cWear l (idx canBlank 0 l) = 0 := by rw [hbl]; rfl
        have v2 : someB (idx canBlank 0 l) = false := by rw [hbl]; rfl
        rw [v1, v2] at w1
        have e1 := ge l hbig hmild
        rw [hok, hs] at e1
        have hsl : s < l.length := by omega
        have hgood2 := hgood.out.erase hsN hsw ((k + 1 : Nat) : Int)
        have hh1 := hgood.out.high s hsN
        have hh0 := hgood.out.low s hsN
        have hwr : IntKind.i64.wrap ((gi l s).wear + 1) = (gi l s).wear + 1 := by have := HT4.out; rw [IntKind.wrap_i64]; omega
        have hwa : IntKind.u64.wrap ((k : Int) + 1) = (k : Int) + 1 := by have := HT4.out; rw [IntKind.wrap_u64]; omega
        have hs0 : (0 : Int) ≤ (s : Int) := by omega
        have hs1 : (s : Int) < (N : Int) := by omega
        have G2 := Lib.hid hgood2
        have W1 := fun W hW => Lib.hid ((w1 W hW).out)
        have E1 := fun W hW => Lib.hid ((e1 W hW).out)
        clear hgood2 hh1 hh0 hmild hbig hmax w1 e1 v1 v2 hbl hok hs hsw hI hown gw ge
        go_wp2_with fail
        refine (W1 _ HI.out).out.mono ?_; rintro e x1 ⟨rfl, c1⟩
        go_wp2_with fail
        refine (E1 _ (Sl.below HI.out c1)).out.mono ?_; rintro e x2 ⟨rfl, c2⟩
        have hbx := Base.tr (Base.tr (Below.refl _ wr) c1) c2
        have hown2 := OWN.out.below hbx
        have hB := Base.tr hb hbx
        obtain ⟨p0, p1⟩ := hown2.cell hsl (q := 0) rfl
        obtain ⟨p2, p3⟩ := hown2.cell hsl (q := 2) rfl
        obtain ⟨p4, p5⟩ := hown2.cell hsl (q := 3) rfl
        rw [Nat.add_zero] at p0 p1
        have O3 := Lib.hid (hown2.three hsl ((gi l s).wear + 1) ((k + 1 : Nat) : Int))
        clear hown2 c1 c2 hbx
        go_wp2_with fail
        go_roundw
        case rel => exact ⟨k + 1, _, by omega, by go_num, by go_num, O3.out, G2.out, Base.st (Base.st (Base.st hB (Nat.le_refl _) _ _) (Nat.le_refl _) _ _) (Nat.le_refl _) _ _⟩
        case measure => simp [intOf]; omega
      · have hmem := least_mem (c := cWear) (l := l) hbl
        have hr := idx_range canBlank l 0 _ hmem
        obtain ⟨s, hs⟩ : ∃ s : Nat, leastOf cWear l (idx canBlank 0 l) = s := ⟨(leastOf cWear l (idx canBlank 0 l)).toNat, by omega⟩
        have v2 : someB (idx canBlank 0 l) = true := by cases hh : idx canBlank 0 l with | nil => exact absurd hh hbl | cons _ _ => rfl
        rw [hs, v2] at w1
        rw [hs] at hr
        have hsN : s < N := by omega
        have hsl : s < l.length := by omega
        have hgood2 := hgood.out.write hsN ((k + 1 : Nat) : Int)
        have hwa : IntKind.u64.wrap ((k : Int) + 1) = (k : Int) + 1 := by have := HT4.out; rw [IntKind.wrap_u64]; omega
        have hs0 : (0 : Int) ≤ (s : Int) := by omega
        have hs1 : (s : Int) < (N : Int) := by omega
        have G2 := Lib.hid hgood2
        have W1 := fun W hW => Lib.hid ((w1 W hW).out)
        clear hgood2 hmild hbig hmax w1 v2 hbl hmem hr hs hI hown gw ge
        go_wp2_with fail
        refine (W1 _ HI.out).out.mono ?_; rintro e x1 ⟨rfl, c1⟩
        have hbx := Base.tr (Below.refl _ wr) c1
        have hown2 := OWN.out.below hbx
        have hB := Base.tr hb hbx
        obtain ⟨p0, p1⟩ := hown2.cell hsl (q := 0) rfl
        obtain ⟨p4, p5⟩ := hown2.cell hsl (q := 3) rfl
        rw [Nat.add_zero] at p0 p1
        have O3 := Lib.hid (hown2.two hsl ((k + 1 : Nat) : Int))
        clear hown2 c1 hbx
        go_wp2_with fail
        go_roundw
        case rel => exact ⟨k + 1, _, by omega, by go_num, by go_num, O3.out, G2.out, Base.st (Base.st hB (Nat.le_refl _) _ _) (Nat.le_refl _) _ _⟩
        case measure => simp [intOf]; omega
    · have hke : k = T := by omega
      subst hke
      have hltb : decide ((k : Int) < (turns : Int) % 400) = false := decide_eq_false (by have := HTE.out; omega)
      have hI := hown.infos hmax
      rw [hlen] at hI
      have HI := Lib.hid hI
      have l1 := gl l hmild
      have hlead := hgood.out.lead (by have := HNP.out; omega)
      generalize leadOf l = ld at *
      have L1 := fun W hW => Lib.hid ((l1 W hW).out)
      have hdec : decide (ld ≤ 4) = true := decide_eq_true hlead
      clear l1 gl gw ge hI hown hmild hbig hmax hlead
      go_wp2_with fail
      refine (gf _).out.mono ?_; rintro e x1 ⟨rfl, c1⟩
      go_wp2_with fail
      refine (L1 _ (Sl.below HI.out c1)).out.mono ?_; rintro e x2 ⟨rfl, c2⟩
      go_wp2_with fail
      go_ret
      exact ⟨by first | rfl | exact ret_bool hdec, Base.tr (Base.tr hb c1) c2⟩
end Go.Proofs.Ytbbiohgillhmnaa
