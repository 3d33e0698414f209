/- flintlaw26.fixed: the chapter's example; a long line. -/
import Derived.Test.YtbjjpplhnibjdaaDoorText78
import Derived.Laws.OwnMore
import Derived.Lib.SlBytesConst
namespace Go.Proofs.YtbjjpplhnibjdaaDoor
open Go Go.RowKit

set_option maxHeartbeats 2000000 in
set_option maxRecDepth 100000 in
theorem word_any (k : Nat) (hk : k ≤ 16) (x : List Nat) (hx : wordsL[k]? = some x) (w : World) (hw : WordsIn w) : Gives 11 #[bv k] w (.string (toB x)) := by
  have c0 := hw.cell k x hx
  have t1 : decide ((17 : Int) ≤ (k : Int)) = false := decide_eq_false (by omega)
  have hk17 : (k : Int) < 17 := by omega
  have kw : IntKind.i64.wrap (k : Int) = (k : Int) := by rw [IntKind.wrap_i64]; omega
  clear hx
  go_enter Tryd.func11, Tryd.ntmps11
  go_wp2_with fail
  go_ret
  exact ⟨rfl, rfl⟩

abbrev fixS : ByteArray := { data := #[119, 114, 105, 116, 101, 32, 48, 32, 51, 32, 34, 97, 37, 48, 48, 34] }
theorem fix_parse : tParse (sb fixS) = .ok ⟨9, [], [], 0, 3, 0, [97, 0]⟩ := by kernel_rfl

set_option maxHeartbeats 4000000 in
set_option maxRecDepth 100000 in
theorem fixed26 (w : World) (hw : WordsIn w) : Makes 7 #[] w (.bool true) := by
  have GP := Lib.hid (parse_any fixS w hw (by decide))
  rw [fix_parse] at GP
  have GW := fun W hW => Lib.hid (word_any 16 (by decide) [115, 116, 97, 116] rfl W hW)
  have hq1 : ((toB [97, 0]).toList == [97, 0]) = true := by rw [beq_iff_eq, ByteArray.toList_eq]; rfl
  have hq2 : ((toB [115, 116, 97, 116]).toList == [115, 116, 97, 116]) = true := by rw [beq_iff_eq, ByteArray.toList_eq]; rfl
  go_enter Tryd.func7, Tryd.ntmps7
  go_wp2_with fail
  refine GP.out.mono ?_; rintro e1 w1 ⟨v, rfl, hown, hb1⟩
  obtain ⟨A, c, rfl⟩ := own_val3 hown
  have hcv : (convert 23 9 (.slice A 2 c)).run Tryd.prog (w1.alloc (.cells #[.int .u8 9, .string (toB []), .string (toB []), .int .i64 0, .int .i64 3, .int .i64 0, .slice A 2 c] 25)) = .ok (.string (toB [97, 0])) (w1.alloc (.cells #[.int .u8 9, .string (toB []), .string (toB []), .int .i64 0, .int .i64 3, .int .i64 0, .slice A 2 c] 25)) := conv_any (Sl.below (own_Byt (l := [97, 0]) hown) (Base.al (Below.refl _ w1) _))
  have hw2 := hw.below (Base.al hb1 (.cells #[.int .u8 9, .string (toB []), .string (toB []), .int .i64 0, .int .i64 3, .int .i64 0, .slice A 2 c] 25))
  simp only [OpT.cells]
  go_wp2_with fail
  refine (GW _ hw2).out.mono ?_; rintro e2 w2 ⟨rfl, rfl⟩
  go_wp2_with fail
  go_ret
  exact ⟨rfl, Base.al hb1 _⟩

/-- A line 'stat "aa..a"'. -/
def longL (m : Nat) : List Nat := [115, 116, 97, 116, 32, 34] ++ List.replicate m 97 ++ [34]
theorem longL_len (m : Nat) : (longL m).length = m + 7 := by unfold longL; simp
theorem long_quoted (m : Nat) : ∀ (k j : Nat), j ≤ m → m - j < k → quotedGo (longL m) k (6 + j) (List.replicate j 97) = .ok (List.replicate m 97, m + 7)
  | 0, _, _, h => by omega
  | k + 1, j, hj, hk => by
    rw [quotedGo, longL_len, if_pos (by omega)]
    by_cases hjm : j = m
    · subst hjm
      have hx : (longL j).getD (6 + j) 0 = 34 := by
        unfold longL
        have hix : 6 + j - (([115, 116, 97, 116, 32, 34] ++ List.replicate j 97 : List Nat)).length = 0 := by simp; omega
        rw [List.getD_eq_getElem?_getD, List.getElem?_append_right (by simp; omega), hix]
        rfl
      rw [hx, if_pos rfl, show 6 + j + 1 = j + 7 by omega]
    · have hx : (longL m).getD (6 + j) 0 = 97 := by
        unfold longL
        rw [List.getD_eq_getElem?_getD, List.getElem?_append_left (by simp; omega), List.getElem?_append_right (by simp), show 6 + j - ([115, 116, 97, 116, 32, 34] : List Nat).length = j by simp, List.getElem?_replicate, if_pos (by omega)]
        rfl
      rw [hx, if_neg (by decide), if_neg (by decide), if_pos (by decide), ← List.replicate_succ', show 6 + j + 1 = 6 + (j + 1) by omega]
      exact long_quoted m k (j + 1) (by omega) (by omega)
theorem long_op (m : Nat) : tOp (longL m) = .ok ⟨16, List.replicate m 97, [], 0, 0, 0, []⟩ := by
  have hr : runL 97 122 (longL m) 0 = [115, 116, 97, 116] := by
    unfold runL longL
    rfl
  have hn : runN 97 122 (longL m) = 4 := by unfold longL; rfl
  have hw : wordIdx [115, 116, 97, 116] = some 15 := by rfl
  unfold tOp
  rw [hr, hn, hw]
  have h4 : tNeed (longL m) 4 32 = .ok 5 := by unfold tNeed; rw [longL_len, if_pos (by omega)]; rfl
  have h5 : tNeed (longL m) 5 34 = .ok 6 := by unfold tNeed; rw [longL_len, if_pos (by omega)]; rfl
  have hq : tQuoted (longL m) 5 = .ok (List.replicate m 97, m + 7) := by
    unfold tQuoted
    rw [h5]
    exact long_quoted m _ 0 (Nat.zero_le _) (by rw [longL_len]; omega)
  show opEnd (longL m) (tParts (longL m) [112] (zeroT 16) 4) = _
  rw [tParts, tPart_112 h4 hq]
  show opEnd (longL m) (.ok ({ zeroT 16 with path := List.replicate m 97 }, m + 7)) = _
  rw [opEnd, longL_len, if_neg (by omega)]
  rfl
end Go.Proofs.YtbjjpplhnibjdaaDoor

/- flintlaw26.TextLong: what it computes. -/
namespace Go.Proofs.YtbjjpplhnibjdaaDoor
open Go Go.RowKit

/-- An append onto a row of the call's own that is full, elements of one cell: a new row. -/
theorem wpList_append_full {P : Program} (w : World) {ops : Array Oper} {rest : List Oper} {o : Oper} {a : Act} {Q : Exit → Act → World → Prop} (hgd : o.guard = none) (s x : Operand) (t : TypeId)
    (ho : o.op = .call { callee := .builtin .append, args := #[s, x], argTypes := #[t, t] })
    (e : TypeId) (i : TypeInfo) (z : Value) (ht : P.underlying t = some (.slice e)) (hi : P.info? e = some i) (hz : i.zero = some z) (hsize : i.size = 1) (hzs : z.cells.size = 1) (hby : i.bytes ≤ 1000)
    (b : Addr) (n0 : Nat) (olds : List Value) (hs : a.eval s = .slice (some b) n0 n0) (hlo : olds.length = n0) (holds : ∀ j u, olds[j]? = some u → w.cell? (b.add j) = some u)
    (ad : Addr) (n c : Nat) (news : List Value) (hx : a.eval x = .slice (some ad) n c) (hl : news.length = n) (hn : 0 < n) (hm : n0 + n ≤ 100000) (hnews : ∀ j u, news[j]? = some u → w.cell? (ad.add j) = some u)
    (base : Nat) (hbase : base ≤ w.heap.size)
    (h : ∀ (v' : Value) (w' : World), w'.ownsRow base e 1 v' (n0 + n) (olds ++ news) → Below w.heap.size w w' → wpList P ops Q rest (a.put o.dst v') w') : wpList P ops Q (o :: rest) a w := by
  have hfit : Builtin.nextslicecap (n0 + n) n0 * i.bytes ≤ 281474976710656 := growslice_fits (by omega) (by
    have : (n0 + n) * i.bytes ≤ 100000 * 1000 := Nat.mul_le_mul (by omega) hby
    omega)
  have hr := run_append_grow (P := P) w t o.type e i z ht hi hz b n0 n0 olds (by rw [hlo, hsize, Nat.mul_one]) holds ad n c news (by rw [hl, hsize, Nat.mul_one]) hnews (by omega) (by omega) hfit
  have hge := grownCap_ge w (n0 + n) n0 e
  have hle := grownCap_le_maxLen w (n0 + n) n0 e (by unfold maxLen; omega)
  have hown : (w.drew.alloc (.cells (olds.toArray ++ news.toArray ++ Builtin.zeroCells z.cells (grownCap w (n0 + n) n0 e - (n0 + n))) e)).ownsRow base e 1 (.slice (some ⟨w.heap.size, 0, none⟩) (n0 + n) (grownCap w (n0 + n) n0 e)) (n0 + n) (olds ++ news) := by
    refine ⟨by rw [List.length_append, hlo, hl, Nat.mul_one], .inr ⟨w.heap.size, _, _, rfl, hbase, blk_new w.drew _, hge, hle, ?_, ?_⟩⟩
    · rw [Array.size_append, Array.size_append, size_zeroCells, hzs, List.size_toArray, List.size_toArray, hlo, hl]
      omega
    · rw [Nat.mul_one, Array.toList_append, Array.toList_append]
      exact List.take_left' (by simp [hlo, hl])
  have := h _ _ hown (Base.al (Base.dr (Below.refl _ _)) _)
  refine wpList_plain hgd fun K hK => ?_
  unfold Oper.wp execOp
  simp only [ho, resolve, invoke, builtin, Sem.run_bind, Sem.run_pure, Result.andThen_ok, List.map_toArray, List.map_cons, List.map_nil, hs, hx, hr]
  exact hK _ _ this

/-- What is there behind the blank and the mark. -/
def preL (j : Nat) : List Nat := [115, 116, 97, 116, 32, 34] ++ List.replicate j 97
theorem preL_len (j : Nat) : (preL j).length = 6 + j := by unfold preL; simp; omega
theorem preL_succ (j : Nat) : preL (j + 1) = preL j ++ [97] := by unfold preL; rw [List.replicate_succ', List.append_assoc]
theorem preL_long (m : Nat) : preL m ++ [34] = longL m := rfl
def lenOf : Value → Nat | .slice _ n _ => n | _ => 0
/-- The line so far: the literal, or a row of the call's own. -/
def LineIn (w wr : World) (g0 : Nat) (v : Value) (j : Nat) : Prop :=
  (j = 0 ∧ v = .slice (some ⟨g0, 0, none⟩) 6 6 ∧ wr.heap[g0]? = some (.cells ((preL 0).map bv).toArray 5 (6, 7))) ∨ wr.ownsRow w.heap.size 5 1 v (6 + j) ((preL j).map bv)

set_option maxHeartbeats 8000000 in
set_option maxRecDepth 100000 in
theorem textLong_makes (n : Nat) (hn : n < 65536) (w : World) (hw : WordsIn w) : Makes 3 #[.int .u16 n] w (.bool true) := by
  obtain ⟨q, hq⟩ : ∃ q, n % 80 = q := ⟨_, rfl⟩
  have hq80 : q < 80 := by omega
  have kn : IntKind.i64.wrap (n : Int) = (n : Int) := by rw [IntKind.wrap_i64]; omega
  have kq : (n : Int).tmod 80 = (q : Int) := by rw [Int.tmod_eq_emod_of_nonneg (by omega)]; omega
  have kq2 : (n : Int) % 80 = (q : Int) := by omega
  have ks : IntKind.i64.wrap (8152 + (q : Int)) = 8152 + (q : Int) := by rw [IntKind.wrap_i64]; omega
  have ks1 : IntKind.i64.wrap (8152 + (q : Int) - 1) = 8151 + (q : Int) := by rw [IntKind.wrap_i64]; omega
  obtain ⟨m, hm⟩ : ∃ m, 8145 + q = m := ⟨_, rfl⟩
  obtain ⟨i0, hi, hz0, hz1, hz2⟩ := info_parts info_u8
  have hcv := Lib.run_convert_bytes_const (P := Tryd.prog) w 23 5 #[.int .u8 115, .int .u8 116, .int .u8 97, .int .u8 116, .int .u8 32, .int .u8 34] 6 6 Tryd.underlying23 Tryd.underlying5
  clear hq
  go_enter Tryd.func3, Tryd.ntmps3
  go_wp2_with fail
  have l0 : LineIn w (w.alloc (.cells #[.int .u8 115, .int .u8 116, .int .u8 97, .int .u8 116, .int .u8 32, .int .u8 34] 5 (6, 7))) w.heap.size (.slice (some ⟨w.heap.size, 0, none⟩) 6 6) 0 := .inl ⟨rfl, rfl, blk_new w _⟩
  have hb0 := Base.al (Below.refl _ w) (.cells #[.int .u8 115, .int .u8 116, .int .u8 97, .int .u8 116, .int .u8 32, .int .u8 34] 5 (6, 7))
  have hg0 : w.heap.size < (w.alloc (.cells #[.int .u8 115, .int .u8 116, .int .u8 97, .int .u8 116, .int .u8 32, .int .u8 34] 5 (6, 7))).heap.size := by simp
  have L0 := Lib.hid l0
  clear l0 hcv
  go_loopw [4] (fun v wr => ∃ j, j ≤ m ∧ Hid (LineIn w wr w.heap.size v j) ∧ Below w.heap.size w wr ∧ w.heap.size < wr.heap.size) (fun v _ => 6 + m - lenOf v)
  case atStart => exact ⟨0, Nat.zero_le _, L0, hb0, hg0⟩
  case round =>
    obtain ⟨j, hj, hl, hb, hs⟩ := hrel
    clear L0 hb0 hg0
    by_cases hlt : j < m
    · have hjq : (6 + (j : Int)) < 8152 + (q : Int) - 1 := by omega
      have hsu := preL_succ j
      have HSU := Lib.hid hsu
      clear hsu
      rcases hl.out with ⟨rfl, rfl, hg⟩ | hown
      · have hq2 : (6 : Int) < 8152 + (q : Int) - 1 := by omega
        have hbl : w.heap.size ≤ (wr.alloc (.cells #[.int .u8 97] 5)).heap.size := by simp; omega
        have hcl : ∀ j u, ((preL 0).map bv)[j]? = some u → (wr.alloc (.cells #[.int .u8 97] 5)).cell? ((⟨w.heap.size, 0, none⟩ : Addr).add j) = some u := fun j u hu => by
          rw [Addr.add_lit, cell_of_row _ _ _ _ _ _ (blk_old hg)]; simpa using hu
        go_wp2_with (at_builtin; refine wpList_append_full _ rfl _ _ 23 rfl 5 i0 _ Tryd.underlying23 hi hz0 hz1 rfl (by omega) ⟨w.heap.size, 0, none⟩ 6 ((preL 0).map bv) rfl rfl hcl ⟨wr.heap.size, 0, none⟩ 1 1 [.int .u8 97] rfl rfl (by decide) (by decide) (news_of _ _ _) w.heap.size hbl ?_)
        intro v' w5 hown5 hb5
        have hb6 := Base.trb (Base.al hb (.cells #[.int .u8 97] 5)) hb5 (by omega)
        have hs6 : w.heap.size < w5.heap.size := Nat.lt_of_lt_of_le (by simp; omega) hb5.size
        obtain ⟨g', gc', rfl, -, -, -, -⟩ := own_pos hown5 (by decide) (by decide)
        have HL : Hid (LineIn w w5 w.heap.size (.slice (some ⟨g', 0, none⟩) (6 + 1) gc') (0 + 1)) := Lib.hid (.inr (by rw [HSU.out, List.map_append]; exact hown5))
        clear hown5 hb5 hcl hl hg hb hs
        go_wp2_with fail
        exact ⟨⟨1, by omega, HL, hb6, hs6⟩, by show 6 + m - (6 + 1) < 6 + m - 6; omega⟩
      · obtain ⟨g, gc, rfl, hg1, hg2, hgc, -⟩ := own_pos hown (by omega) (by decide)
        have hbl : w.heap.size ≤ (wr.alloc (.cells #[.int .u8 97] 5)).heap.size := by simp; omega
        go_wp2_with (at_builtin; refine wpList_append_own _ rfl _ _ 23 rfl w.heap.size 5 i0 _ 1 1 Tryd.underlying23 hi hz0 hz1 hz2 rfl (by decide) _ _ _ rfl (hown.alloc _) ⟨wr.heap.size, 0, none⟩ 1 1 [.int .u8 97] rfl rfl ?c1 ?c2 ?c3 ?c4 ?c5 ?_)
        case c1 => exact news_of _ _ _
        case c2 => simp [Value.oneCell']
        case c3 => unfold maxLen; omega
        case c4 => omega
        case c5 => exact hbl
        intro v' w5 hown5 hgrow _
        have hb6 := Base.gr (Base.al hb _) hgrow (fun g hg => (hown.lt g hg).1)
        have hs6 : w.heap.size < w5.heap.size := Nat.lt_of_lt_of_le (by simp; omega) hgrow.size
        have hown6 : w5.ownsRow w.heap.size 5 1 v' (6 + (j + 1)) ((preL (j + 1)).map bv) := by rw [HSU.out, List.map_append]; exact hown5
        obtain ⟨g', gc', rfl, -, -, -, -⟩ := own_pos hown6 (by omega) (by decide)
        have HL : Hid (LineIn w w5 w.heap.size (.slice (some ⟨g', 0, none⟩) (6 + (j + 1)) gc') (j + 1)) := Lib.hid (.inr hown6)
        have HLT := Lib.hid hlt
        clear hown5 hown6 hgrow hl hown hb hs
        go_wp2_with fail
        refine ⟨⟨j + 1, HLT.out, HL, hb6, hs6⟩, ?_⟩
        have := HLT.out
        show 6 + m - (6 + (j + 1)) < 6 + m - (6 + j)
        omega
    · have hje : j = m := by omega
      rw [hje] at hl
      have hjq : ¬ (6 + (m : Int)) < 8152 + (q : Int) - 1 := by omega
      rcases hl.out with ⟨h0, _⟩ | hown
      · omega
      clear hl hje hlt hj
      obtain ⟨g, gc, rfl, hg1, hg2, hgc, -⟩ := own_pos hown (by omega) (by decide)
      have hbl : w.heap.size ≤ (wr.alloc (.cells #[.int .u8 34] 5)).heap.size := by simp; omega
      have hm60 : m ≤ 9000 := by omega
      go_wp2_with (at_builtin; refine wpList_append_own _ rfl _ _ 23 rfl w.heap.size 5 i0 _ 1 1 Tryd.underlying23 hi hz0 hz1 hz2 rfl (by decide) _ _ _ rfl (hown.alloc _) ⟨wr.heap.size, 0, none⟩ 1 1 [.int .u8 34] rfl rfl ?c1 ?c2 ?c3 ?c4 ?c5 ?_)
      case c2 => simp [Value.oneCell']
      case c3 => unfold maxLen; omega
      case c4 => omega
      case c5 => exact Nat.le_succ_of_le (by omega)
      intro v' w5 hown5 hgrow _
      have hb6 := Base.gr (Base.al hb _) hgrow (fun g hg => (hown.lt g hg).1)
      have hown6 : w5.ownsRow w.heap.size 5 1 v' (longL m).length ((longL m).map bv) := by
        rw [longL_len, ← preL_long, List.map_append, show m + 7 = 6 + m + 1 by omega]; exact hown5
      have hlen := longL_len m
      rw [hlen] at hown6
      obtain ⟨g', gc', rfl, -, -, -, -⟩ := own_pos hown6 (by omega) (by decide)
      have hy := own_Byt (l := longL m) (by rw [hlen]; exact hown6)
      have hcv : (convert 23 9 (.slice (some ⟨g', 0, none⟩) (m + 7) gc')).run Tryd.prog w5 = .ok (.string (toB (longL m))) w5 := by
        have := conv_any hy
        first | (rw [hlen] at this; exact this) | exact this
      have hll : ∀ b ∈ longL m, b < 256 := by
        intro b hb
        unfold longL at hb
        rcases List.mem_append.1 hb with hb | hb
        · rcases List.mem_append.1 hb with hb | hb
          · exact (show ∀ b ∈ ([115, 116, 97, 116, 32, 34] : List Nat), b < 256 by decide) b hb
          · rw [(List.mem_replicate.1 hb).2]; decide
        · rw [List.mem_singleton.1 hb]; decide
      have hsb := sb_toB _ hll
      have hsz : (toB (longL m)).size = m + 7 := by rw [toB_size, hlen]
      have GP := fun W hW => parse_any (toB (longL m)) W hW (by rw [hsz]; omega)
      rw [hsb] at GP
      unfold tParse at GP
      rw [hlen, long_op] at GP
      have HF := fun W hB => Lib.hid (fixed26 W (hw.below (w' := W) hB))
      have hw5 := hw.below hb6
      clear hown5 hown6 hgrow hown hb hs hy hsb hll hlen hbl hsz
      generalize toB (longL m) = line at *
      by_cases hbig : 8192 < m + 7
      · simp only [if_pos hbig] at GP
        have HG := fun W hW => Lib.hid (GP W hW)
        have t1 : decide ((8192 : Int) < ((m + 7 : Nat) : Int)) = true := decide_eq_true (by omega)
        clear GP
        go_wp2_with fail
        refine (HG _ hw5).out.mono ?_; rintro e7 w7 ⟨rfl, hb7⟩
        simp only [OpT.cells]
        have hb8 := Base.tr hb6 hb7
        go_wp2_with fail
        refine (HF _ (Base.al hb8 _)).out.mono ?_; rintro e8 x8 ⟨rfl, hb9⟩
        go_wp2_with fail
        go_ret
        exact ⟨rfl, Base.tr (Base.al hb8 _) hb9⟩
      · simp only [if_neg hbig] at GP
        have HG := fun W hW => Lib.hid (GP W hW)
        have t1 : decide ((8192 : Int) < ((m + 7 : Nat) : Int)) = false := decide_eq_false (by omega)
        clear GP
        go_wp2_with fail
        refine (HG _ hw5).out.mono ?_; rintro e7 w7 ⟨v, rfl, hown7, hb7⟩
        obtain ⟨A7, c7, rfl⟩ := own_val3 hown7
        simp only [OpT.cells]
        have hb8 := Base.tr hb6 hb7
        go_wp2_with fail
        have hsz : (toB (List.replicate m 97)).size = m := by rw [toB_size, List.length_replicate]
        have kw7 : IntKind.i64.wrap ((m : Int) + 7 - 7) = (m : Int) := by rw [IntKind.wrap_i64]; omega
        refine (HF _ (Base.al hb8 _)).out.mono ?_; rintro e8 x8 ⟨rfl, hb9⟩
        have kg := blk_below (blk_new w7 _) hb9
        have hs9 : w7.heap.size < x8.heap.size := by have := hb9.size; simp at this; omega
        have c1 : x8.cell? ⟨w7.heap.size, 1, none⟩ = some (.string (toB (List.replicate m 97))) := cell_blk kg 1
        have hb10 := Base.tr (Base.al hb8 _) hb9
        clear kg hb9
        go_wp2_with fail
        go_ret
        exact ⟨rfl, hb10⟩
end Go.Proofs.YtbjjpplhnibjdaaDoor

