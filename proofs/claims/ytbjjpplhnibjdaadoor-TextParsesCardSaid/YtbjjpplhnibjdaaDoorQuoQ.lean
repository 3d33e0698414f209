/- Package text: a quoted text is written; the document's likewise. -/
import Derived.Test.YtbjjpplhnibjdaaDoorItoa
import Derived.Test.YtbjjpplhnibjdaaDoorTextL9
namespace Go.Proofs.YtbjjpplhnibjdaaDoor
open Go Go.RowKit

/-- A digit of sixteen. -/
def hexC (d : Nat) : Nat := if d < 10 then 48 + d else 55 + d
def quoteC (c : Nat) : List Nat := if plainB c then [c] else [37, hexC (c / 16), hexC (c % 16)]
def quoteB : List Nat → List Nat
  | [] => []
  | c :: l => quoteC c ++ quoteB l
def quoteL (l : List Nat) : List Nat := 34 :: (quoteB l ++ [34])
theorem quoteB_app : ∀ l m : List Nat, quoteB (l ++ m) = quoteB l ++ quoteB m
  | [], _ => rfl
  | c :: l, m => by rw [List.cons_append, quoteB, quoteB, quoteB_app l m, List.append_assoc]
theorem quoteC_len (c : Nat) : (quoteC c).length ≤ 3 := by unfold quoteC; split <;> simp
theorem quoteB_len : ∀ l : List Nat, (quoteB l).length ≤ 3 * l.length
  | [] => Nat.le_refl _
  | c :: l => by
    have h1 := quoteB_len l
    have h2 := quoteC_len c
    rw [quoteB, List.length_append, List.length_cons]
    omega
theorem quoteB_take {l : List Nat} {i : Nat} (h : i < l.length) : quoteB (l.take (i + 1)) = quoteB (l.take i) ++ quoteC (l.getD i 0) := by
  have hg : l.getD i 0 = l[i] := by rw [List.getD_eq_getElem?_getD, List.getElem?_eq_getElem h]; rfl
  rw [List.take_succ_eq_append_getElem h, quoteB_app, hg]
  congr 1
  rw [quoteB, quoteB, List.append_nil]
theorem hex_fin : ∀ d : Fin 16, ({ data := #[48, 49, 50, 51, 52, 53, 54, 55, 56, 57, 65, 66, 67, 68, 69, 70] } : ByteArray).extract d.val (d.val + 1) = toB [hexC d.val] := by decide +kernel
theorem hex_one {d : Nat} (h : d < 16) : ({ data := #[48, 49, 50, 51, 52, 53, 54, 55, 56, 57, 65, 66, 67, 68, 69, 70] } : ByteArray).extract d (d + 1) = toB [hexC d] := hex_fin ⟨d, h⟩
theorem hexi_fin : ∀ d : Fin 16, (({ data := #[48, 49, 50, 51, 52, 53, 54, 55, 56, 57, 65, 66, 67, 68, 69, 70] } : ByteArray).data.getD d.val 0).toNat = hexC d.val := by decide +kernel
theorem idx16 (d : Nat) (hd : d < 16) (z : Int) (hz : z = (d : Int)) (w : World) : (Instr.index 9 (.string { data := #[48, 49, 50, 51, 52, 53, 54, 55, 56, 57, 65, 66, 67, 68, 69, 70] }) (.int .u8 z)).run Tryd.prog w = .ok (.int .u8 (hexC d : Nat)) w := by
  subst hz
  have hs : ({ data := #[48, 49, 50, 51, 52, 53, 54, 55, 56, 57, 65, 66, 67, 68, 69, 70] } : ByteArray).size = 16 := rfl
  rw [run_index_string w 9 _ _ _ Tryd.underlying9, dif_pos ⟨by omega, by rw [hs]; omega⟩]
  have e : ((d : Int)).toNat = d := by omega
  have := hexi_fin ⟨d, hd⟩
  rw [← this]
  simp only [e]
  congr 3
  show (#[48, 49, 50, 51, 52, 53, 54, 55, 56, 57, 65, 66, 67, 68, 69, 70] : Array UInt8)[d].toNat = _
  rw [Array.getD, dif_pos (by simpa using hd)]
  rfl
theorem and15_fin : ∀ c : Fin 256, bits .and .u8 (c.val : Int) 15 = (c.val : Int) % 16 := by decide +kernel
theorem and15 (c : Nat) (h : c < 256) : bits .and .u8 (c : Int) 15 = (c : Int) % 16 := and15_fin ⟨c, h⟩
theorem own_one (w : World) (c : Nat) : (w.alloc (.cells #[bv c] 5)).ownsRow w.heap.size 5 1 (.slice (some ⟨w.heap.size, 0, none⟩) 1 1) 1 [bv c] :=
  ⟨rfl, .inr ⟨w.heap.size, _, _, rfl, Nat.le_refl _, blk_new w _, Nat.le_refl _, (by decide : (1 : Nat) ≤ maxLen), by simp, rfl⟩⟩

set_option maxHeartbeats 2000000 in
set_option maxRecDepth 100000 in
theorem rplain_any (c : Nat) (w : World) : Gives 34 #[bv c] w (.bool (plainB c)) := by
  unfold plainB
  go_enter Tryd.func34, Tryd.ntmps34
  go_wp2_with fail
  all_goals
    go_ret
    refine ⟨retB ?_, rfl⟩
    rw [Bool.eq_iff_iff]
    first | (simp; omega) | simp | omega

set_option maxHeartbeats 2000000 in
set_option maxRecDepth 100000 in
theorem rhex_any (d : Nat) (hd : d < 16) (w : World) : Gives 35 #[i64 d] w (.string (toB [hexC d])) := by
  have kw : IntKind.i64.wrap ((d : Int) + 1) = (d : Int) + 1 := by rw [IntKind.wrap_i64]; omega
  have hx := hex_one hd
  go_enter Tryd.func35, Tryd.ntmps35
  go_wp2_with fail
  go_ret
  exact ⟨rfl, rfl⟩

set_option maxHeartbeats 4000000 in
set_option maxRecDepth 100000 in
theorem quote_any (s : ByteArray) (w : World) (hs : s.size ≤ 3000) : Makes 20 #[.string s] w (.string (toB (quoteL (sb s)))) := by
  have HP := fun c W => Lib.hid (plain_any c W)
  obtain ⟨i0, hi, hz0, hz1, hz2⟩ := info_parts info_u8
  have hls : (sb s).length = s.size := sb_len s
  have HLS := Lib.hid hls
  clear hls
  go_enter Tryd.func20, Tryd.ntmps20
  go_wp2_with fail
  have own0 := Lib.hid (own_one w 34)
  have hb0 := Base.al (Below.refl _ w) (.cells #[bv 34] 5)
  go_loopw [3, 9] (fun v i wr => ∃ j : Nat, j ≤ s.size ∧ i = .int .i64 j ∧ Below w.heap.size w wr ∧ Hid (wr.ownsRow w.heap.size 5 1 v (1 + (quoteB ((sb s).take j)).length) ((34 :: quoteB ((sb s).take j)).map bv))) (fun _ i _ => s.size - (intOf i).toNat)
  case atStart => exact ⟨0, Nat.zero_le _, rfl, hb0, own0⟩
  case round =>
    obtain ⟨j, hj, rfl, hb, hown⟩ := hrel
    clear own0 hb0
    have hown := hown.out
    have hql := quoteB_len ((sb s).take j)
    have hqj : (quoteB ((sb s).take j)).length ≤ 9000 := by rw [List.length_take, HLS.out] at hql; omega
    clear hql
    by_cases hlt : j < s.size
    · have hg := sb_get hlt
      have hst := quoteB_take (l := sb s) (i := j) (by rw [HLS.out]; exact hlt)
      have kw : IntKind.i64.wrap ((j : Int) + 1) = (j : Int) + 1 := by rw [IntKind.wrap_i64]; omega
      have hc256 : (sb s).getD j 0 < 256 := by rw [← hg]; exact UInt8.toNat_lt _
      have hg' : ((s[j].toNat : Nat) : Int) = (((sb s).getD j 0 : Nat) : Int) := congrArg Nat.cast hg
      clear hg
      generalize (sb s).getD j 0 = c at *
      generalize hq : quoteB ((sb s).take j) = q at *
      have HST := Lib.hid hst
      clear hst
      by_cases hp : plainB c = true
      · have G := fun W => HP c W
        rw [hp] at G
        have hqc : quoteC c = [c] := by unfold quoteC; rw [if_pos hp]
        rw [hqc] at HST
        obtain ⟨g, gc, rfl, hg1, hg2, hgc, -⟩ := own_pos hown (by omega) (by decide)
        have hbl : w.heap.size ≤ (wr.alloc (.cells #[bv c] 5)).heap.size := by simp; omega
        go_wp2_with fail
        refine (G _).out.mono ?_; rintro e1 w1 ⟨rfl, rfl⟩
        go_wp2_with (at_builtin; refine wpList_append_own _ rfl _ _ 23 rfl w.heap.size 5 i0 _ 1 1 Tryd.underlying23 hi hz0 hz1 hz2 rfl (by decide) _ _ _ rfl (hown.alloc _) ⟨w1.heap.size, 0, none⟩ 1 1 [bv c] rfl rfl ?c1 ?c2 ?c3 ?c4 ?c5 ?_)
        case c1 => exact news_of _ _ _
        case c2 => simp [Value.oneCell']
        case c3 => unfold maxLen; omega
        case c4 => omega
        case c5 => exact hbl
        intro v' w5 hown5 hgrow _
        have hb6 := Base.gr (Base.al hb _) hgrow (fun g hg => (hown.lt g hg).1)
        have hown6 : w5.ownsRow w.heap.size 5 1 v' (1 + (q ++ [c]).length) ((34 :: (q ++ [c])).map bv) := by
          rw [List.length_append, List.map_cons, List.map_append]; exact hown5
        rw [← HST.out] at hown6
        have HO6 := Lib.hid hown6
        clear hown hown5 hown6 hgrow hbl
        go_wp2_with fail
        go_roundw
        case rel => exact ⟨j + 1, by omega, by go_num, hb6, HO6⟩
        case measure => simp [intOf]; omega
      · have hp : plainB c = false := by simpa using hp
        have G := fun W => HP c W
        rw [hp] at G
        have hqc : quoteC c = [37, hexC (c / 16), hexC (c % 16)] := by unfold quoteC; rw [if_neg (by rw [hp]; decide)]
        rw [hqc] at HST
        obtain ⟨g, gc, rfl, hg1, hg2, hgc, -⟩ := own_pos hown (by omega) (by decide)
        have ix1 := fun W => idx16 (c / 16) (by omega) ((c : Int) / 16) (by omega) W
        have ix2 := fun W => idx16 (c % 16) (by omega) ((c : Int) % 16) (by omega) W
        have ab : bits .and .u8 (c : Int) 15 = (c : Int) % 16 := and15 c hc256
        generalize hexC (c / 16) = d1 at *
        generalize hexC (c % 16) = d2 at *
        go_wp2_with fail
        refine (G _).out.mono ?_; rintro e1 w1 ⟨rfl, rfl⟩
        go_wp2_with fail
        refine wp_region_ph (D := fun w' => ∃ p : GrOf _ (some g), w' = p.v) 9 [7, 8] (by kernel_rfl) (by kernel_rfl) ⟨⟨_, grown_dr (grown_same _ _)⟩, rfl⟩ ?_
        simp only [List.take_succ_cons, List.take_zero, List.drop_succ_cons, List.drop_zero]
        have on0 := @on_rd0; have on1 := @on_rd1; have on2 := @on_rd2; have on3 := @on_new1; have on4 := @on_new2; have on5 := @gr_rd0
        repeat ((with_reducible refine head_quiet ?_ ?_); (focus rfl); (intro K hK); go_simp; first | ((with_reducible refine hK _ ?_); clear hK K) | (rw [if_neg (by intro h; cases h)]; (with_reducible refine hK _ ?_); clear hK K) | (apply Exists.intro; refine ⟨fun _ => ?_, hK _ ?_⟩; (fail); clear hK K))
        have hb7 : Below w1.heap.size w1 (w1.drew.alloc (.cells #[bv 37, bv d1, bv d2] 5)) := Base.al (Base.dr (Below.refl _ _)) _
        have hnw : ∀ j u, [bv 37, bv d1, bv d2][j]? = some u → (w1.drew.alloc (.cells #[bv 37, bv d1, bv d2] 5)).cell? ((⟨w1.heap.size, 0, none⟩ : Addr).add j) = some u := news_of w1.drew _ _
        refine head_run (by rfl) rfl (.slice (some ⟨w1.heap.size, 0, none⟩) 3 3) (w1.drew.alloc (.cells #[bv 37, bv d1, bv d2] 5)) ?_ ⟨⟨_, grown_al (grown_dr (grown_same _ _)) _⟩, rfl⟩ ?_
        · go_simp
          rfl
        refine head_append (by rfl) rfl _ _ 23 rfl w.heap.size 5 i0 _ 1 1 Tryd.underlying23 hi hz0 hz1 hz2 rfl (by decide) _ _ _ rfl (own_below hown hb7) ⟨w1.heap.size, 0, none⟩ 3 3 [bv 37, bv d1, bv d2] rfl rfl hnw (by simp [Value.oneCell']) (by decide) (by unfold maxLen; omega) (by omega) (by simp; omega) (fun w2 hg => ⟨⟨w2, grown_trans (grown_al (grown_dr (grown_same _ _)) _) hg⟩, rfl⟩) ?_
        intro g9 cp w2 hown2 hgr hloc hgl
        clear on0 on1 on2 on3 on4 on5
        with_reducible refine head_nil ?_
        with_reducible refine eq_intro ?_
        have hb6 := Base.gr (Base.tr hb hb7) hgr (fun k hk => (hown.lt k hk).1)
        have hown6 : w2.ownsRow w.heap.size 5 1 (.slice (some ⟨g9, 0, none⟩) (1 + q.length + 3) cp) (1 + (q ++ [37, d1, d2]).length) ((34 :: (q ++ [37, d1, d2])).map bv) := by
          rw [List.length_append, List.map_cons, List.map_append]; exact hown2
        rw [← HST.out] at hown6
        have HO6 := Lib.hid hown6
        clear hown hown2 hown6 hgr hloc hb7 hnw ix1 ix2 ab
        go_wp2_with fail
        go_roundw
        case rel => exact ⟨j + 1, by omega, by go_num, hb6, HO6⟩
        case measure => simp [intOf]; omega
    · have hje : j = s.size := by omega
      have htk : (sb s).take j = sb s := List.take_of_length_le (by rw [HLS.out]; omega)
      rw [htk] at hown hqj
      obtain ⟨g, gc, rfl, hg1, hg2, hgc, -⟩ := own_pos hown (by omega) (by decide)
      have hbl : w.heap.size ≤ (wr.alloc (.cells #[bv 34] 5)).heap.size := by simp; omega
      go_wp2_with (at_builtin; refine wpList_append_own _ rfl _ _ 23 rfl w.heap.size 5 i0 _ 1 1 Tryd.underlying23 hi hz0 hz1 hz2 rfl (by decide) _ _ _ rfl (hown.alloc _) ⟨wr.heap.size, 0, none⟩ 1 1 [bv 34] rfl rfl ?c1 ?c2 ?c3 ?c4 ?c5 ?_)
      case c1 => exact news_of _ _ _
      case c2 => simp [Value.oneCell']
      case c3 => unfold maxLen; omega
      case c4 => omega
      case c5 => exact hbl
      intro v' w5 hown5 hgrow _
      have hb6 := Base.gr (Base.al hb _) hgrow (fun g hg => (hown.lt g hg).1)
      have hql : (quoteL (sb s)).length = 1 + (quoteB (sb s)).length + 1 := by unfold quoteL; simp; omega
      have hown6 : w5.ownsRow w.heap.size 5 1 v' (quoteL (sb s)).length ((quoteL (sb s)).map bv) := by
        rw [hql]; unfold quoteL; rw [List.map_cons, List.map_append]; exact hown5
      obtain ⟨g', gc', rfl, -, -, -, -⟩ := own_pos hown6 (by omega) (by decide)
      have hcv := conv_any (own_Byt hown6)
      clear hown hown5 hown6 hgrow hbl hqj
      rw [hql] at hcv
      go_wp2_with fail
      go_ret
      exact ⟨rfl, hb6⟩
end Go.Proofs.YtbjjpplhnibjdaaDoor

/- The document's quoted text and its numbers. -/
namespace Go.Proofs.YtbjjpplhnibjdaaDoor
open Go Go.RowKit

theorem toB_cat (l m : List Nat) : toB l ++ toB m = toB (l ++ m) := by
  apply ByteArray.ext
  unfold toB
  rw [ByteArray.data_append, List.map_append]
  simp
theorem nocat (l m : List Nat) (h : l.length + m.length ≤ 60000) : (9223372036854775807 < (toB l).size + (toB m).size) = False := eq_false (by rw [toB_size, toB_size]; omega)

set_option maxHeartbeats 4000000 in
set_option maxRecDepth 100000 in
theorem rquote_any (s : ByteArray) (w : World) (hs : s.size ≤ 3000) : Makes 23 #[.string s] w (.string (toB (quoteL (sb s)))) := by
  have HP := fun c W => Lib.hid (rplain_any c W)
  have HX := fun d hd W => Lib.hid (rhex_any d hd W)
  have HLS := Lib.hid (sb_len s)
  go_enter Tryd.func23, Tryd.ntmps23
  go_wp2_with fail
  go_loopw [3, 4] (fun v i wr => ∃ j : Nat, j ≤ s.size ∧ i = .int .i64 j ∧ v = .string (toB (34 :: quoteB ((sb s).take j))) ∧ Below w.heap.size w wr) (fun _ i _ => s.size - (intOf i).toNat)
  case atStart => exact ⟨0, Nat.zero_le _, rfl, rfl, Below.refl _ _⟩
  case round =>
    obtain ⟨j, hj, rfl, rfl, hb⟩ := hrel
    have hql := quoteB_len ((sb s).take j)
    have hqj : (quoteB ((sb s).take j)).length ≤ 9000 := by rw [List.length_take, HLS.out] at hql; omega
    clear hql
    by_cases hlt : j < s.size
    · have hg : s[j].toNat = (sb s).getD j 0 := sb_get hlt
      have hst := quoteB_take (l := sb s) (i := j) (by rw [HLS.out]; exact hlt)
      have kw : IntKind.i64.wrap ((j : Int) + 1) = (j : Int) + 1 := by rw [IntKind.wrap_i64]; omega
      have hc256 : (sb s).getD j 0 < 256 := by rw [← hg]; exact UInt8.toNat_lt _
      have hg' : ((s[j].toNat : Nat) : Int) = (((sb s).getD j 0 : Nat) : Int) := congrArg Nat.cast hg
      have hex : s.extract j (j + 1) = toB [(sb s).getD j 0] := by
        rw [ext_sb, show j + 1 - j = 1 by omega]
        have hjl : j < (sb s).length := by rw [HLS.out]; exact hlt
        rw [List.drop_eq_getElem_cons hjl, List.getD_eq_getElem?_getD, List.getElem?_eq_getElem hjl]
        rfl
      clear hg
      generalize (sb s).getD j 0 = c at *
      generalize hq : quoteB ((sb s).take j) = q at *
      have HST := Lib.hid hst
      clear hst
      by_cases hp : plainB c = true
      · have G := fun W => HP c W
        rw [hp] at G
        have hqc : quoteC c = [c] := by unfold quoteC; rw [if_pos hp]
        rw [hqc] at HST
        have happ : toB (34 :: q) ++ toB [c] = toB (34 :: (q ++ [c])) := toB_cat _ _
        rw [← HST.out] at happ
        have HAP := Lib.hid happ
        have nc := nocat (34 :: q) [c] (by simp; omega)
        clear happ
        go_wp2_with fail
        refine (G _).out.mono ?_; rintro e1 w1 ⟨rfl, rfl⟩
        go_wp2_with fail
        exact ⟨⟨j + 1, by omega, by go_num, by rw [HAP.out], hb⟩, by simp [intOf]; omega⟩
      · have hp : plainB c = false := by simpa using hp
        have G := fun W => HP c W
        rw [hp] at G
        have hqc : quoteC c = [37, hexC (c / 16), hexC (c % 16)] := by unfold quoteC; rw [if_neg (by rw [hp]; decide)]
        rw [hqc] at HST
        have X1 : ∀ W : World, Hid (Gives 35 #[.int .i64 ((c : Int) / 16)] W (.string (toB [hexC (c / 16)]))) := fun W => by
          have := HX (c / 16) (by omega) W
          rw [show ((c / 16 : Nat) : Int) = (c : Int) / 16 by omega] at this
          exact this
        have X2 : ∀ W : World, Hid (Gives 35 #[.int .i64 ((c : Int) % 16)] W (.string (toB [hexC (c % 16)]))) := fun W => by
          have := HX (c % 16) (by omega) W
          rw [show ((c % 16 : Nat) : Int) = (c : Int) % 16 by omega] at this
          exact this
        have q1 : (c : Int).tdiv 16 = (c : Int) / 16 := by rw [Int.tdiv_eq_ediv_of_nonneg (by omega)]
        have q2 : (c : Int).tmod 16 = (c : Int) % 16 := by rw [Int.tmod_eq_emod_of_nonneg (by omega)]
        have w0 : IntKind.i64.wrap (c : Int) = (c : Int) := by rw [IntKind.wrap_i64]; omega
        have w1' : IntKind.i64.wrap ((c : Int) / 16) = (c : Int) / 16 := by rw [IntKind.wrap_i64]; omega
        generalize hexC (c / 16) = d1 at *
        generalize hexC (c % 16) = d2 at *
        have n1 : (9223372036854775807 < (toB (34 :: q)).size + 1) = False := nocat (34 :: q) [37] (by simp; omega)
        have n2 := nocat (34 :: (q ++ [37])) [d1] (by simp; omega)
        have n3 := nocat (34 :: (q ++ [37, d1])) [d2] (by simp; omega)
        have a1 : toB (34 :: q) ++ ({ data := #[37] } : ByteArray) = toB (34 :: (q ++ [37])) := toB_cat (34 :: q) [37]
        have a2 : toB (34 :: (q ++ [37])) ++ toB [d1] = toB (34 :: (q ++ [37, d1])) := by rw [toB_cat]; simp
        have a3 : toB (34 :: (q ++ [37, d1])) ++ toB [d2] = toB (34 :: (q ++ [37, d1, d2])) := by rw [toB_cat]; simp
        go_wp2_with fail
        refine (G _).out.mono ?_; rintro e1 w1 ⟨rfl, rfl⟩
        go_wp2_with fail
        refine wp_region_quiet_on (by kernel_rfl) (by kernel_rfl) ?_
        repeat ((with_reducible refine wpQuiet_step (fun K hK => ?_)); go_simp; first | ((with_reducible refine hK _ ?_); clear hK K) | (rw [if_neg (by intro h; cases h)]; (with_reducible refine hK _ ?_); clear hK K) | (apply Exists.intro; refine ⟨fun _ => ?_, hK _ ?_⟩; (first | (with_reducible exact on_of_same (X1 _).out) | (with_reducible exact on_of_same (X2 _).out)); clear hK K))
        with_reducible refine wpQuiet_nil ?_
        intro _ hw'
        obtain ⟨pq, hw''⟩ := hw'
        subst hw''
        rename_i pq
        have hb2 := Base.tr hb pq.h
        go_wp2_with fail
        exact ⟨⟨j + 1, by omega, by go_num, by rw [HST.out], hb2⟩, by simp [intOf]; omega⟩
    · have hje : j = s.size := by omega
      have htk : (sb s).take j = sb s := List.take_of_length_le (by rw [HLS.out]; omega)
      rw [htk] at hqj ⊢
      have n1 : (9223372036854775807 < (toB (34 :: quoteB (sb s))).size + 1) = False := nocat (34 :: quoteB (sb s)) [34] (by simp; omega)
      have happ : toB (34 :: quoteB (sb s)) ++ ({ data := #[34] } : ByteArray) = toB (quoteL (sb s)) := toB_cat _ [34]
      go_wp2_with fail
      go_ret
      exact ⟨rfl, hb⟩

/-! ### Numbers -/
theorem decN_len : ∀ (k u : Nat), u < 10 ^ (k + 1) → (decN u).length ≤ k + 1
  | 0, u, h => by
    rw [decN, dif_pos (by omega)]
    exact Nat.le_refl _
  | k + 1, u, h => by
    rw [decN]
    split
    · show 1 ≤ _; omega
    · rw [List.length_append]
      have := decN_len k (u / 10) (by rw [Nat.pow_succ] at h; omega)
      show _ + 1 ≤ _
      omega
theorem hexC_10 {d : Nat} (h : d < 10) : hexC d = 48 + d := by unfold hexC; rw [if_pos h]

set_option maxHeartbeats 4000000 in
set_option maxRecDepth 100000 in
theorem decimal_nat : ∀ (k m : Nat), m < k → Hid (m < 10 ^ 20 ∧ (m : Int) ≤ 9223372036854775807) → ∀ w : World, Gives 24 #[.int .i64 (m : Int)] w (.string (toB (decN m)))
  | 0, _, h, _, _ => by omega
  | k + 1, m, h, hm, w => by
    have HX := fun d hd W => Lib.hid (rhex_any d hd W)
    have t0 : decide ((m : Int) < 0) = false := decide_eq_false (by omega)
    by_cases h10 : m < 10
    · have t1 : decide ((m : Int) < 10) = true := decide_eq_true (by omega)
      have hd : decN m = [hexC m] := by rw [decN, dif_pos h10, hexC_10 h10]
      have X1 := fun W => HX m (by omega) W
      rw [hd]
      clear hd
      go_enter Tryd.func24, Tryd.ntmps24
      go_wp2_with fail
      refine (X1 _).out.mono ?_; rintro e1 w1 ⟨rfl, rfl⟩
      go_wp2_with fail
      go_ret
      exact ⟨rfl, rfl⟩
    · have t1 : decide ((m : Int) < 10) = false := decide_eq_false (by omega)
      have hd : toB (decN (m / 10)) ++ toB [hexC (m % 10)] = toB (decN m) := by rw [toB_cat, hexC_10 (by omega)]; conv => rhs; rw [decN, dif_neg h10]
      have HD := Lib.hid hd
      have hh := hm.out
      have IH : ∀ W : World, Hid (Gives 24 #[.int .i64 ((m : Int) / 10)] W (.string (toB (decN (m / 10))))) := fun W => by
        have := decimal_nat k (m / 10) (by omega) (Lib.hid ⟨by omega, by omega⟩) W
        rw [show ((m / 10 : Nat) : Int) = (m : Int) / 10 by omega] at this
        exact Lib.hid this
      have X2 : ∀ W : World, Hid (Gives 35 #[.int .i64 ((m : Int) % 10)] W (.string (toB [hexC (m % 10)]))) := fun W => by
        have := HX (m % 10) (by omega) W
        rw [show ((m % 10 : Nat) : Int) = (m : Int) % 10 by omega] at this
        exact this
      have hl := decN_len 19 (m / 10) (by omega)
      have n1 := nocat (decN (m / 10)) [hexC (m % 10)] (by simp; omega)
      have q1 : (m : Int).tdiv 10 = (m : Int) / 10 := by rw [Int.tdiv_eq_ediv_of_nonneg (by omega)]
      have q2 : (m : Int).tmod 10 = (m : Int) % 10 := by rw [Int.tmod_eq_emod_of_nonneg (by omega)]
      have w1 : IntKind.i64.wrap ((m : Int) / 10) = (m : Int) / 10 := by rw [IntKind.wrap_i64]; omega
      clear hh hd hl
      go_enter Tryd.func24, Tryd.ntmps24
      go_wp2_with fail
      refine (IH _).out.mono ?_; rintro e1 w1 ⟨rfl, rfl⟩
      go_wp2_with fail
      refine (X2 _).out.mono ?_; rintro e1 w1 ⟨rfl, rfl⟩
      go_wp2_with fail
      go_ret
      exact ⟨by rw [← HD.out]; rfl, rfl⟩

set_option maxHeartbeats 4000000 in
set_option maxRecDepth 100000 in
theorem decimal_neg : ∀ (k m : Nat), m < k → Hid (1 ≤ m ∧ m < 10 ^ 20 ∧ (m : Int) ≤ 9223372036854775808) → ∀ w : World, Gives 24 #[.int .i64 (-(m : Int))] w (.string (toB (45 :: decN m)))
  | 0, _, h, _, _ => by omega
  | k + 1, m, h, hm, w => by
    have HX := fun d hd W => Lib.hid (rhex_any d hd W)
    have hh := hm.out
    obtain ⟨n, hn⟩ : ∃ n : Int, n = -(m : Int) := ⟨_, rfl⟩
    obtain ⟨d, hd⟩ : ∃ d : Nat, m % 10 = d := ⟨_, rfl⟩
    obtain ⟨p, hp⟩ : ∃ p : Int, p = -((m / 10 : Nat) : Int) := ⟨_, rfl⟩
    have t0 : decide (n < 0) = true := decide_eq_true (by omega)
    have e1 : n.tmod 10 = -(d : Int) := by rw [hn, Int.neg_tmod, Int.tmod_eq_emod_of_nonneg (by omega)]; omega
    have e2 : n.tdiv 10 = p := by rw [hn, Int.neg_tdiv, Int.tdiv_eq_ediv_of_nonneg (by omega)]; omega
    have w1 : IntKind.i64.wrap (d : Int) = (d : Int) := by rw [IntKind.wrap_i64]; omega
    have w2 : IntKind.i64.wrap p = p := by rw [IntKind.wrap_i64]; omega
    have X1 := fun W => HX d (by omega) W
    have hd48 : hexC d = 48 + m % 10 := by rw [hexC_10 (by omega), hd]
    rw [← hn]
    by_cases h10 : m < 10
    · have tp : (p == 0) = true := by rw [beq_iff_eq]; omega
      have hr : ({ data := #[45] } : ByteArray) ++ toB [hexC d] = toB (45 :: decN m) := by
        rw [decN, dif_pos h10, hd48, show m % 10 = m by omega]; exact toB_cat [45] [48 + m]
      have n1 : (9223372036854775807 < 1 + (toB [hexC d]).size) = False := nocat [45] [hexC d] (by simp)
      have HR := Lib.hid hr
      clear hr hh hd48 h10 hp hn hd h
      go_enter Tryd.func24, Tryd.ntmps24
      go_wp2_with fail
      refine (X1 _).out.mono ?_; rintro e1 w1 ⟨rfl, rfl⟩
      go_wp2_with fail
      go_ret
      exact ⟨by rw [← HR.out]; rfl, rfl⟩
    · have tp : (p == 0) = false := by rw [beq_eq_false_iff_ne]; omega
      have hr : toB (45 :: decN (m / 10)) ++ toB [hexC d] = toB (45 :: decN m) := by
        rw [toB_cat, hd48]; conv => rhs; rw [decN, dif_neg h10]
        rfl
      have IH : ∀ W : World, Hid (Gives 24 #[.int .i64 p] W (.string (toB (45 :: decN (m / 10))))) := fun W => by
        have := decimal_neg k (m / 10) (by omega) (Lib.hid ⟨by omega, by omega, by omega⟩) W
        rw [← hp] at this
        exact Lib.hid this
      have hl := decN_len 19 (m / 10) (by omega)
      have n1 := nocat (45 :: decN (m / 10)) [hexC d] (by simp; omega)
      have HR := Lib.hid hr
      generalize decN (m / 10) = q at *
      clear hr hh hd48 h10 hp hn hd h hl
      go_enter Tryd.func24, Tryd.ntmps24
      go_wp2_with fail
      refine (IH _).out.mono ?_; rintro e1 w1 ⟨rfl, rfl⟩
      go_wp2_with fail
      refine (X1 _).out.mono ?_; rintro e1 w1 ⟨rfl, rfl⟩
      go_wp2_with fail
      go_ret
      exact ⟨by rw [← HR.out]; rfl, rfl⟩

theorem decimal_any (n : Int) (h0 : -9223372036854775808 ≤ n) (h1 : n ≤ 9223372036854775807) (w : World) : Gives 24 #[i64 n] w (.string (toB (decI n))) := by
  unfold decI
  by_cases h : n < 0
  · rw [if_pos h]
    have := decimal_neg (n.natAbs + 1) n.natAbs (by omega) (Lib.hid ⟨by omega, by omega, by omega⟩) w
    rw [show -((n.natAbs : Nat) : Int) = n by omega] at this
    exact this
  · rw [if_neg h]
    have := decimal_nat (n.toNat + 1) n.toNat (by omega) (Lib.hid ⟨by omega, by omega⟩) w
    rw [show ((n.toNat : Nat) : Int) = n by omega] at this
    exact this
end Go.Proofs.YtbjjpplhnibjdaaDoor

