/- Package text: a quoted text is written; the document's likewise. -/
import Derived.Test.YtbjjpplhnibjdaaDoorItoa
import Derived.Test.YtbjjpplhnibjdaaDoorTextLong
namespace Go.Proofs.YtbjjpplhnibjdaaDoor
open Go Go.RowKit

/-- A digit of sixteen. -/
def hexC (d : Nat) : Nat := if d < 10 then 48 + d else 55 + d
def quoteC (c : Nat) : List Nat := if plainB c then [c] else [37, hexC (c / 16), hexC (c % 16)]
def quoteB : List Nat → List Nat
  | [] => []
  | c :: l => quoteC c ++ quoteB l
def quoteL (l : List Nat) : List Nat := 34 :: (quoteB l ++ [34])
theorem quoteB_app : ∀ l m : List Nat, quoteB (l ++ m) = quoteB l ++ quoteB m
  | [], _ => rfl
  | c :: l, m => by rw [List.cons_append, quoteB, quoteB, quoteB_app l m, List.append_assoc]
theorem quoteC_len (c : Nat) : (quoteC c).length ≤ 3 := by unfold quoteC; split <;> simp
theorem quoteB_len : ∀ l : List Nat, (quoteB l).length ≤ 3 * l.length
  | [] => Nat.le_refl _
  | c :: l => by
    have h1 := quoteB_len l
    have h2 := quoteC_len c
    rw [quoteB, List.length_append, List.length_cons]
    omega
theorem quoteB_take {l : List Nat} {i : Nat} (h : i < l.length) : quoteB (l.take (i + 1)) = quoteB (l.take i) ++ quoteC (l.getD i 0) := by
  have hg : l.getD i 0 = l[i] := by rw [List.getD_eq_getElem?_getD, List.getElem?_eq_getElem h]; rfl
  rw [List.take_succ_eq_append_getElem h, quoteB_app, hg]
  congr 1
  rw [quoteB, quoteB, List.append_nil]
theorem hex_fin : ∀ d : Fin 16, ({ data := #[48, 49, 50, 51, 52, 53, 54, 55, 56, 57, 65, 66, 67, 68, 69, 70] } : ByteArray).extract d.val (d.val + 1) = toB [hexC d.val] := by decide +kernel
theorem hex_one {d : Nat} (h : d < 16) : ({ data := #[48, 49, 50, 51, 52, 53, 54, 55, 56, 57, 65, 66, 67, 68, 69, 70] } : ByteArray).extract d (d + 1) = toB [hexC d] := hex_fin ⟨d, h⟩
theorem hexi_fin : ∀ d : Fin 16, (({ data := #[48, 49, 50, 51, 52, 53, 54, 55, 56, 57, 65, 66, 67, 68, 69, 70] } : ByteArray).data.getD d.val 0).toNat = hexC d.val := by decide +kernel
theorem idx16 (d : Nat) (hd : d < 16) (z : Int) (hz : z = (d : Int)) (w : World) : (Instr.index 9 (.string { data := #[48, 49, 50, 51, 52, 53, 54, 55, 56, 57, 65, 66, 67, 68, 69, 70] }) (.int .u8 z)).run Tryd.prog w = .ok (.int .u8 (hexC d : Nat)) w := by
  subst hz
  have hs : ({ data := #[48, 49, 50, 51, 52, 53, 54, 55, 56, 57, 65, 66, 67, 68, 69, 70] } : ByteArray).size = 16 := rfl
  rw [run_index_string w 9 _ _ _ Tryd.underlying9, dif_pos ⟨by omega, by rw [hs]; omega⟩]
  have e : ((d : Int)).toNat = d := by omega
  have := hexi_fin ⟨d, hd⟩
  rw [← this]
  simp only [e]
  congr 3
  show (#[48, 49, 50, 51, 52, 53, 54, 55, 56, 57, 65, 66, 67, 68, 69, 70] : Array UInt8)[d].toNat = _
  rw [Array.getD, dif_pos (by simpa using hd)]
  rfl
theorem and15_fin : ∀ c : Fin 256, bits .and .u8 (c.val : Int) 15 = (c.val : Int) % 16 := by decide +kernel
theorem and15 (c : Nat) (h : c < 256) : bits .and .u8 (c : Int) 15 = (c : Int) % 16 := and15_fin ⟨c, h⟩
theorem own_one (w : World) (c : Nat) : (w.alloc (.cells #[bv c] 5)).ownsRow w.heap.size 5 1 (.slice (some ⟨w.heap.size, 0, none⟩) 1 1) 1 [bv c] :=
  ⟨rfl, .inr ⟨w.heap.size, _, _, rfl, Nat.le_refl _, blk_new w _, Nat.le_refl _, (by decide : (1 : Nat) ≤ maxLen), by simp, rfl⟩⟩

set_option maxHeartbeats 2000000 in
set_option maxRecDepth 100000 in
theorem rplain_any (c : Nat) (w : World) : Gives 34 #[bv c] w (.bool (plainB c)) := by
  unfold plainB
  go_enter Tryd.func34, Tryd.ntmps34
  go_wp2_with fail
  all_goals
    go_ret
    refine ⟨retB ?_, rfl⟩
    rw [Bool.eq_iff_iff]
    first | (simp; omega) | simp | omega

set_option maxHeartbeats 2000000 in
set_option maxRecDepth 100000 in
theorem rhex_any (d : Nat) (hd : d < 16) (w : World) : Gives 35 #[i64 d] w (.string (toB [hexC d])) := by
  have kw : IntKind.i64.wrap ((d : Int) + 1) = (d : Int) + 1 := by rw [IntKind.wrap_i64]; omega
  have hx := hex_one hd
  go_enter Tryd.func35, Tryd.ntmps35
  go_wp2_with fail
  go_ret
  exact ⟨rfl, rfl⟩

set_option maxHeartbeats 4000000 in
set_option maxRecDepth 100000 in
theorem quote_any (s : ByteArray) (w : World) (hs : s.size ≤ 3000) : Makes 20 #[.string s] w (.string (toB (quoteL (sb s)))) := by
  have HP := fun c W => Lib.hid (plain_any c W)
  obtain ⟨i0, hi, hz0, hz1, hz2⟩ := info_parts info_u8
  have hls : (sb s).length = s.size := sb_len s
  have HLS := Lib.hid hls
  clear hls
  go_enter Tryd.func20, Tryd.ntmps20
  go_wp2_with fail
  have own0 := Lib.hid (own_one w 34)
  have hb0 := Base.al (Below.refl _ w) (.cells #[bv 34] 5)
  go_loopw [3, 9] (fun v i wr => ∃ j : Nat, j ≤ s.size ∧ i = .int .i64 j ∧ Below w.heap.size w wr ∧ Hid (wr.ownsRow w.heap.size 5 1 v (1 + (quoteB ((sb s).take j)).length) ((34 :: quoteB ((sb s).take j)).map bv))) (fun _ i _ => s.size - (intOf i).toNat)
  case atStart => exact ⟨0, Nat.zero_le _, rfl, hb0, own0⟩
  case round =>
    obtain ⟨j, hj, rfl, hb, hown⟩ := hrel
    clear own0 hb0
    have hown := hown.out
    have hql := quoteB_len ((sb s).take j)
    have hqj : (quoteB ((sb s).take j)).length ≤ 9000 := by rw [List.length_take, HLS.out] at hql; omega
    clear hql
    by_cases hlt : j < s.size
    · have hg := sb_get hlt
      have hst := quoteB_take (l := sb s) (i := j) (by rw [HLS.out]; exact hlt)
      have kw : IntKind.i64.wrap ((j : Int) + 1) = (j : Int) + 1 := by rw [IntKind.wrap_i64]; omega
      have hc256 : (sb s).getD j 0 < 256 := by rw [← hg]; exact UInt8.toNat_lt _
      have hg' : ((s[j].toNat : Nat) : Int) = (((sb s).getD j 0 : Nat) : Int) := congrArg Nat.cast hg
      clear hg
      generalize (sb s).getD j 0 = c at *
      generalize hq : quoteB ((sb s).take j) = q at *
      have HST := Lib.hid hst
      clear hst
      by_cases hp : plainB c = true
      · have G := fun W => HP c W
        rw [hp] at G
        have hqc : quoteC c = [c] := by unfold quoteC; rw [if_pos hp]
        rw [hqc] at HST
        obtain ⟨g, gc, rfl, hg1, hg2, hgc, -⟩ := own_pos hown (by omega) (by decide)
        have hbl : w.heap.size ≤ (wr.alloc (.cells #[bv c] 5)).heap.size := by simp; omega
        go_wp2_with fail
        refine (G _).out.mono ?_; rintro e1 w1 ⟨rfl, rfl⟩
        go_wp2_with (at_builtin; refine wpList_append_own _ rfl _ _ 23 rfl w.heap.size 5 i0 _ 1 1 Tryd.underlying23 hi hz0 hz1 hz2 rfl (by decide) _ _ _ rfl (hown.alloc _) ⟨w1.heap.size, 0, none⟩ 1 1 [bv c] rfl rfl ?c1 ?c2 ?c3 ?c4 ?c5 ?_)
        case c1 => exact news_of _ _ _
        case c2 => simp [Value.oneCell']
        case c3 => unfold maxLen; omega
        case c4 => omega
        case c5 => exact hbl
        intro v' w5 hown5 hgrow _
        have hb6 := Base.gr (Base.al hb _) hgrow (fun g hg => (hown.lt g hg).1)
        have hown6 : w5.ownsRow w.heap.size 5 1 v' (1 + (q ++ [c]).length) ((34 :: (q ++ [c])).map bv) := by
          rw [List.length_append, List.map_cons, List.map_append]; exact hown5
        rw [← HST.out] at hown6
        have HO6 := Lib.hid hown6
        clear hown hown5 hown6 hgrow hbl
        go_wp2_with fail
        go_roundw
        case rel => exact ⟨j + 1, by omega, by go_num, hb6, HO6⟩
        case measure => simp [intOf]; omega
      · have hp : plainB c = false := by simpa using hp
        have G := fun W => HP c W
        rw [hp] at G
        have hqc : quoteC c = [37, hexC (c / 16), hexC (c % 16)] := by unfold quoteC; rw [if_neg (by rw [hp]; decide)]
        rw [hqc] at HST
        obtain ⟨g, gc, rfl, hg1, hg2, hgc, -⟩ := own_pos hown (by omega) (by decide)
        have ix1 := fun W => idx16 (c / 16) (by omega) ((c : Int) / 16) (by omega) W
        have ix2 := fun W => idx16 (c % 16) (by omega) ((c : Int) % 16) (by omega) W
        have ab : bits .and .u8 (c : Int) 15 = (c : Int) % 16 := and15 c hc256
        generalize hexC (c / 16) = d1 at *
        generalize hexC (c % 16) = d2 at *
        go_wp2_with fail
        refine (G _).out.mono ?_; rintro e1 w1 ⟨rfl, rfl⟩
        go_wp2_with fail
        refine wp_region_ph (D := fun w' => ∃ p : GrOf _ (some g), w' = p.v) 9 [7, 8] (by kernel_rfl) (by kernel_rfl) ⟨⟨_, grown_dr (grown_same _ _)⟩, rfl⟩ ?_
        simp only [List.take_succ_cons, List.take_zero, List.drop_succ_cons, List.drop_zero]
        have on0 := @on_rd0; have on1 := @on_rd1; have on2 := @on_rd2; have on3 := @on_new1; have on4 := @on_new2; have on5 := @gr_rd0
        repeat ((with_reducible refine head_quiet ?_ ?_); (focus rfl); (intro K hK); go_simp; first | ((with_reducible refine hK _ ?_); clear hK K) | (rw [if_neg (by intro h; cases h)]; (with_reducible refine hK _ ?_); clear hK K) | (apply Exists.intro; refine ⟨fun _ => ?_, hK _ ?_⟩; (fail); clear hK K))
        have hb7 : Below w1.heap.size w1 (w1.drew.alloc (.cells #[bv 37, bv d1, bv d2] 5)) := Base.al (Base.dr (Below.refl _ _)) _
        have hnw : ∀ j u, [bv 37, bv d1, bv d2][j]? = some u → (w1.drew.alloc (.cells #[bv 37, bv d1, bv d2] 5)).cell? ((⟨w1.heap.size, 0, none⟩ : Addr).add j) = some u := news_of w1.drew _ _
        refine head_run (by rfl) rfl (.slice (some ⟨w1.heap.size, 0, none⟩) 3 3) (w1.drew.alloc (.cells #[bv 37, bv d1, bv d2] 5)) ?_ ⟨⟨_, grown_al (grown_dr (grown_same _ _)) _⟩, rfl⟩ ?_
        · go_simp
          rfl
        refine head_append (by rfl) rfl _ _ 23 rfl w.heap.size 5 i0 _ 1 1 Tryd.underlying23 hi hz0 hz1 hz2 rfl (by decide) _ _ _ rfl (own_below hown hb7) ⟨w1.heap.size, 0, none⟩ 3 3 [bv 37, bv d1, bv d2] rfl rfl hnw (by simp [Value.oneCell']) (by decide) (by unfold maxLen; omega) (by omega) (by simp; omega) (fun w2 hg => ⟨⟨w2, grown_trans (grown_al (grown_dr (grown_same _ _)) _) hg⟩, rfl⟩) ?_
        intro g9 cp w2 hown2 hgr hloc hgl
        clear on0 on1 on2 on3 on4 on5
        with_reducible refine head_nil ?_
        with_reducible refine eq_intro ?_
        have hb6 := Base.gr (Base.tr hb hb7) hgr (fun k hk => (hown.lt k hk).1)
        have hown6 : w2.ownsRow w.heap.size 5 1 (.slice (some ⟨g9, 0, none⟩) (1 + q.length + 3) cp) (1 + (q ++ [37, d1, d2]).length) ((34 :: (q ++ [37, d1, d2])).map bv) := by
          rw [List.length_append, List.map_cons, List.map_append]; exact hown2
        rw [← HST.out] at hown6
        have HO6 := Lib.hid hown6
        clear hown hown2 hown6 hgr hloc hb7 hnw ix1 ix2 ab
        go_wp2_with fail
        go_roundw
        case rel => exact ⟨j + 1, by omega, by go_num, hb6, HO6⟩
        case measure => simp [intOf]; omega
    · have hje : j = s.size := by omega
      have htk : (sb s).take j = sb s := List.take_of_length_le (by rw [HLS.out]; omega)
      rw [htk] at hown hqj
      obtain ⟨g, gc, rfl, hg1, hg2, hgc, -⟩ := own_pos hown (by omega) (by decide)
      have hbl : w.heap.size ≤ (wr.alloc (.cells #[bv 34] 5)).heap.size := by simp; omega
      go_wp2_with (at_builtin; refine wpList_append_own _ rfl _ _ 23 rfl w.heap.size 5 i0 _ 1 1 Tryd.underlying23 hi hz0 hz1 hz2 rfl (by decide) _ _ _ rfl (hown.alloc _) ⟨wr.heap.size, 0, none⟩ 1 1 [bv 34] rfl rfl ?c1 ?c2 ?c3 ?c4 ?c5 ?_)
      case c1 => exact news_of _ _ _
      case c2 => simp [Value.oneCell']
      case c3 => unfold maxLen; omega
      case c4 => omega
      case c5 => exact hbl
      intro v' w5 hown5 hgrow _
      have hb6 := Base.gr (Base.al hb _) hgrow (fun g hg => (hown.lt g hg).1)
      have hql : (quoteL (sb s)).length = 1 + (quoteB (sb s)).length + 1 := by unfold quoteL; simp; omega
      have hown6 : w5.ownsRow w.heap.size 5 1 v' (quoteL (sb s)).length ((quoteL (sb s)).map bv) := by
        rw [hql]; unfold quoteL; rw [List.map_cons, List.map_append]; exact hown5
      obtain ⟨g', gc', rfl, -, -, -, -⟩ := own_pos hown6 (by omega) (by decide)
      have hcv := conv_any (own_Byt hown6)
      clear hown hown5 hown6 hgrow hbl hqj
      rw [hql] at hcv
      go_wp2_with fail
      go_ret
      exact ⟨rfl, hb6⟩
end Go.Proofs.YtbjjpplhnibjdaaDoor
