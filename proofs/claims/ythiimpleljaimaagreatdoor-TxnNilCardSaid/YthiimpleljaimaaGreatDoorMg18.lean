/- Package tree on at most one key, and the smallest functions of package store. -/
import Derived.Test.YthiimpleljaimaaGreatDoorMg6
import Derived.Test.YthiimpleljaimaaGreatDoorMg2
import Derived.Test.YthiimpleljaimaaGreatDoorMg15
import Derived.Test.YthiimpleljaimaaGreatDoorMg19
import Derived.Test.YthiimpleljaimaaGreatDoorMg20
import Derived.Laws.AppendOwnNone
import Derived.Deep.DeepCutAuto
import Derived.Deep.CutBlock
import Derived.Test.YthiimpleljaimaaGreatDoorMg4
import Derived.Deep.DeepMust
namespace Go.Proofs.YthiimpleljaimaaGreatDoor
open Go Go.RowKit Flo

abbrev nilP : Value := .pointer none
def leafC (k v : ByteArray) : Array Value := #[.string k, .string v, nilP, nilP, i64 1, i64 1]
/-- A tree of one key. -/
abbrev LeafAt (w : World) (b : Nat) (k v : ByteArray) : Prop := w.heap[b]? = some (.cells (leafC k v) 101 (0, 0))

set_option maxHeartbeats 2000000 in
set_option maxRecDepth 100000 in
theorem treeNew_any (w : World) : Gives 56 #[] w nilP := by
  go_enter Tryz.func56, Tryz.ntmps56
  go_wp2_with fail
  go_ret
  exact ⟨rfl, rfl⟩
set_option maxHeartbeats 2000000 in
set_option maxRecDepth 100000 in
theorem treeLen_nil (w : World) : Gives 16 #[nilP] w (i64 0) := by
  go_enter Tryz.func16, Tryz.ntmps16
  go_wp2_with fail
  go_ret
  exact ⟨rfl, rfl⟩
set_option maxHeartbeats 2000000 in
set_option maxRecDepth 100000 in
theorem treeLen_leaf {w : World} {b : Nat} {k v : ByteArray} (h : LeafAt w b k v) : Gives 16 #[.pointer (some ⟨b, 0, none⟩)] w (i64 1) := by
  have c4 : w.cell? ⟨b, 4, none⟩ = some (i64 1) := cell_blk h 4
  clear h
  go_enter Tryz.func16, Tryz.ntmps16
  go_wp2_with fail
  go_ret
  exact ⟨rfl, rfl⟩
set_option maxHeartbeats 2000000 in
set_option maxRecDepth 100000 in
theorem treeSet_nil (k v : ByteArray) (w : World) : Calls Tryz.prog 104 #[nilP, .string k, .string v] w fun e w' => e = .returned (.pointer (some ⟨w.heap.size, 0, none⟩)) ∧ LeafAt w' w.heap.size k v ∧ Below w.heap.size w w' := by
  go_enter Tryz.func104, Tryz.ntmps104
  go_wp2_with fail
  go_ret
  exact ⟨rfl, blk_new _ _, Base.al (Below.refl _ _) _⟩
set_option maxHeartbeats 4000000 in
set_option maxRecDepth 100000 in
theorem treeGet_leaf {w : World} {b : Nat} {k v : ByteArray} (h : LeafAt w b k v) : Gives 105 #[.pointer (some ⟨b, 0, none⟩), .string k] w (.tuple #[.string v, .bool true]) := by
  have c0 : w.cell? ⟨b, 0, none⟩ = some (.string k) := cell_blk h 0
  have c1 : w.cell? ⟨b, 1, none⟩ = some (.string v) := cell_blk h 1
  clear h
  go_enter Tryz.func105, Tryz.ntmps105
  go_wp2_with fail
  go_loopw [0] (fun t wr => t = .pointer (some ⟨b, 0, none⟩) ∧ wr = w) (fun _ _ => 0)
  case atStart => exact ⟨rfl, rfl⟩
  case round =>
    obtain ⟨rfl, rfl⟩ := hrel
    go_wp2_with fail
    go_ret2
    exact ⟨rfl, rfl⟩
theorem less_self : ∀ l : List UInt8, Op.bytesLess l l = false
  | [] => rfl
  | a :: l => by unfold Op.bytesLess; simp [less_self l]
set_option maxHeartbeats 4000000 in
set_option maxRecDepth 100000 in
theorem treeCut_leaf {w : World} {b : Nat} {k v : ByteArray} (h : LeafAt w b k v) : Gives 121 #[.pointer (some ⟨b, 0, none⟩), .string k] w nilP := by
  have G := Lib.hid (treeGet_leaf h)
  have c0 : w.cell? ⟨b, 0, none⟩ = some (.string k) := cell_blk h 0
  have c2 : w.cell? ⟨b, 2, none⟩ = some nilP := cell_blk h 2
  have c3 : w.cell? ⟨b, 3, none⟩ = some nilP := cell_blk h 3
  have t1 := less_self k.toList
  clear h
  go_enter Tryz.func121, Tryz.ntmps121
  go_wp2_with fail
  refine G.out.mono ?_; rintro e x1 ⟨rfl, rfl⟩
  go_wp2_with fail
  go_ret
  exact ⟨rfl, rfl⟩

set_option maxHeartbeats 2000000 in
set_option maxRecDepth 100000 in
theorem above_any (n : Nat) (w : World) (hn : n < 9223372036854775807) : Gives 60 #[.int .u64 n] w (.int .u64 ((n + 1 : Nat) : Int)) := by
  have kw : IntKind.u64.wrap ((n : Int) + 1) = (n : Int) + 1 := by rw [IntKind.wrap_u64]; omega
  have km : max (n : Int) ((n : Int) + 1) = (n : Int) + 1 := by omega
  go_enter Tryz.func60, Tryz.ntmps60
  go_wp2_with fail
  go_ret
  refine ⟨?_, rfl⟩
  push_cast
  simp
end Go.Proofs.YthiimpleljaimaaGreatDoor

/- scan.All: of all sectors of a device. -/
namespace Go.Proofs.YthiimpleljaimaaGreatDoor
open Go Go.RowKit Flo

theorem info_secE : (Tryz.prog.info? 180).map (fun i => (i.zero, i.size, i.bytes)) = some (some (.agg #[.int .i64 0, .int .i64 0, .bool false, .slice none 0 0]), 4, 48) := by kernel_rfl

set_option maxHeartbeats 4000000 in
set_option maxRecDepth 100000 in
theorem scanAll_nil (w : World) : Makes 83 #[nilD] w (.tuple #[.slice none 0 0, i64 7]) := by
  have G := fun W => Lib.hid (geom_nil W)
  go_enter Tryz.func83, Tryz.ntmps83
  go_wp2_with fail
  refine (G _).out.mono ?_; rintro e x1 ⟨rfl, hb1⟩
  have hb2 := Base.al hb1 (.cells #[i64 0, i64 0] 38)
  go_wp2_with fail
  go_loopw [5, 13] (fun v i wr => v = .slice none 0 0 ∧ i = .int .i64 0 ∧ Below w.heap.size w wr) (fun _ _ _ => 0)
  case atStart => exact ⟨rfl, rfl, hb2⟩
  case round =>
    obtain ⟨rfl, rfl, hb⟩ := hrel
    go_wp2_with fail
    go_ret2
    exact ⟨rfl, hb⟩

set_option maxHeartbeats 4000000 in
set_option maxRecDepth 100000 in
theorem scanAll_off {O : Nat → Prop} {w : World} {N : Nor} (hd : DevR O w N) (hoff : N.off = true) : Makes 83 #[ptrD N] w (.tuple #[.slice none 0 0, i64 7]) := by
  have hgeo := geoB_yes hd.geo
  have G := Lib.hid (geom_any hd)
  go_enter Tryz.func83, Tryz.ntmps83
  go_wp2_with fail
  refine G.out.mono ?_; rintro e x1 ⟨rfl, hb1⟩
  have hb2 := Base.al hb1 (.cells #[i64 N.S, i64 N.Z] 38)
  have B0 := Lib.hid (blk_new x1 (.cells #[i64 N.S, i64 N.Z] 38))
  have hd2 := hd.below hb2
  have HD2 := Lib.hid hd2
  have HB2 := Lib.hid hb2
  clear G hb1 hb2 hd2 hd
  go_wp2_with fail
  generalize x1.alloc _ = x2 at *
  generalize x1.heap.size = gb at *
  go_loopw [5, 13] (fun v i wr => v = .slice none 0 0 ∧ i = .int .i64 0 ∧ wr = x2) (fun _ _ _ => 0)
  case atStart => exact ⟨rfl, rfl, rfl⟩
  case round =>
    obtain ⟨rfl, rfl, rfl⟩ := hrel
    have hS : 0 < N.S := by omega
    have P0 : ∀ W, Hid (Gives 118 #[i64 0, i64 0] W (cx (near 0) (near 0))) := fun W => Lib.hid (of_in 0 0 W (by omega) (by omega) (by omega) (by omega))
    have HRd : ∀ W, Below wr.heap.size wr W → Hid (Calls Tryz.prog 117 #[ptrD N, cx (near 0) (near 0), i64 N.Z] W (ReadPost W [] 7)) := by
      intro W hW
      have := read_any (HD2.out.below hW) (near 0) (near 0) N.Z
      have hg : N.got (near 0) (near 0) N.Z = ([], 7) := by unfold Nor.got; rw [hoff]; rfl
      rw [hg] at this
      exact Lib.hid this
    have e1 : wr.cell? ⟨gb, 1, none⟩ = some (i64 N.Z) := cell_blk B0.out 1
    have zd : gb < wr.heap.size := (Array.getElem?_eq_some_iff.1 B0.out).1
    have q1 := fun q => on_cell (w := wr) zd e1 q
    have tS : decide ((0 : Int) < (N.S : Int)) = true := decide_eq_true (by omega)
    clear hoff hgeo
    go_wp2_with fail
    refine wp_region_po (fun w' => ∃ p : OnOf wr, w' = p.v) 11 [2, 5] (by kernel_rfl) (by kernel_rfl) ⟨⟨_, Base.dr (Below.refl _ _)⟩, rfl⟩ ?_
    simp only [List.take_succ_cons, List.take_zero, List.drop_succ_cons, List.drop_zero]
    have on0 := @on_rd0; have on1 := @on_rd1; have on2 := @on_rd2; have on3 := @on_new1; have on4 := @on_new2; have on5 := @gr_rd0
    repeat ((with_reducible refine seq_read ?_ ?_); (focus rfl); (intro K hK); (unfold readsAt); go_simp; first | ((with_reducible refine hK _ ?_); clear hK K) | (rw [if_neg (by intro h; cases h)]; (with_reducible refine hK _ ?_); clear hK K))
    refine seq_eff (by rfl) (by first | rfl | go_simp) ?_
    intro K hK
    unfold effAt2
    go_simp
    refine ⟨rfl, (P0 _).out.mono ?_⟩; rintro e x5 ⟨rfl, rfl⟩
    refine ⟨_, rfl, ⟨⟨_, Base.dr (Below.refl _ _)⟩, rfl⟩, hK _ _ ?_⟩
    clear hK K
    repeat ((with_reducible refine seq_read ?_ ?_); (focus rfl); (intro K hK); (unfold readsAt); go_simp; first | ((with_reducible refine hK _ ?_); clear hK K) | (rw [if_neg (by intro h; cases h)]; (with_reducible refine hK _ ?_); clear hK K))
    refine seq_eff (by rfl) (by first | rfl | go_simp) ?_
    intro K hK
    unfold effAt2
    go_simp
    refine ⟨rfl, (HRd _ (Base.dr (Below.refl _ _))).out.mono ?_⟩; rintro e x6 ⟨v, rfl, hown, hb6⟩
    obtain ⟨va, vc, rfl⟩ := own_val hown
    refine ⟨_, rfl, ⟨⟨_, Base.tr (Base.dr (Below.refl _ _)) hb6⟩, rfl⟩, hK _ _ ?_⟩
    clear hK K
    repeat ((with_reducible refine seq_read ?_ ?_); (focus rfl); (intro K hK); (unfold readsAt); go_simp; first | ((with_reducible refine hK _ ?_); clear hK K) | (rw [if_neg (by intro h; cases h)]; (with_reducible refine hK _ ?_); clear hK K))
    clear on0 on1 on2 on3 on4 on5
    with_reducible refine seq_nil ?_
    have B6 := Base.tr HB2.out (Base.tr (Base.dr (Below.refl wr.heap.size wr)) hb6)
    clear hown hb6
    go_wp2_with fail
    go_ret2
    exact ⟨rfl, B6⟩

set_option maxHeartbeats 8000000 in
set_option maxRecDepth 100000 in
theorem scanAll_any {O : Nat → Prop} {w : World} {N : Nor} (hd : DevR O w N) (hon : N.off = false) : Calls Tryz.prog 83 #[ptrD N] w (AllPost w N) := by
  have hgeo := geoB_yes hd.geo
  obtain ⟨i1, a0, a1, a2, a3⟩ := info_parts info_secE
  have G := Lib.hid (geom_any hd)
  have HD := Lib.hid hd
  clear hd
  go_enter Tryz.func83, Tryz.ntmps83
  go_wp2_with fail
  refine G.out.mono ?_; rintro e x1 ⟨rfl, hb1⟩
  have hb2 := Base.al hb1 (.cells #[i64 N.S, i64 N.Z] 38)
  have B0 := Lib.hid (blk_new x1 (.cells #[i64 N.S, i64 N.Z] 38))
  have hz1 := hb1.size
  have HB2 : Hid (SecSt w N x1.heap.size (x1.alloc (.cells #[i64 N.S, i64 N.Z] 38)) (.slice none 0 0) []) := Lib.hid ⟨⟨rfl, .inl ⟨rfl, rfl⟩⟩, (fun i x h => by cases h), hb2, hz1⟩
  clear G hb1 hb2
  go_wp2_with fail
  generalize x1.alloc _ = x2 at *
  generalize x1.heap.size = gb at *
  go_loopw [5, 13] (fun v i wr => ∃ (j : Nat) (xs : List (Scan × Value)), j ≤ N.S ∧ i = .int .i64 j ∧ Hid (xs.length = j) ∧ Hid (SecSt w N gb wr v xs) ∧ Hid (wr.heap[gb]? = some (Obj.cells #[i64 N.S, i64 N.Z] 38 (0, 0)))) (fun _ i _ => N.S - (intOf i).toNat)
  case atStart => exact ⟨0, [], Nat.zero_le _, rfl, Lib.hid rfl, HB2, B0⟩
  case round =>
    clear HB2 B0
    obtain ⟨j, xs, hj, rfl, hxl, st, bg⟩ := hrel
    by_cases hlt : j < N.S
    · have hdr := HD.out.below st.out.below
      have hjd : j < N.data.length := by rw [HD.out.dl]; exact hlt
      obtain ⟨l, hl⟩ : ∃ l, N.data[j]? = some l := ⟨_, List.getElem?_eq_getElem hjd⟩
      have hrow := HD.out.row l (List.mem_of_getElem? hl)
      have hll := hrow.1
      have P0 : ∀ W, Hid (Gives 118 #[i64 j, i64 0] W (cx (near j) (near 0))) := fun W => Lib.hid (of_in j 0 W (by omega) (by omega) (by omega) (by omega))
      have HRd : ∀ W, Below wr.heap.size wr W → Hid (Calls Tryz.prog 117 #[ptrD N, cx (near j) (near 0), i64 N.Z] W (ReadPost W l 0)) := by
        intro W hW
        have := read_any (hdr.below hW) (near j) (near 0) N.Z
        rw [got_row hon hl hlt (by omega) hll] at this
        exact Lib.hid this
      have hsec : secAt N j = scanB N.S N.Z j l := by unfold secAt; rw [List.getD_eq_getElem?_getD, hl]; rfl
      have HS : ∀ W A n c, Byt W (.slice A n c) l → Hid (Calls Tryz.prog 119 #[geo N.S N.Z, i64 j, .slice A n c] W (ScanPost W (secAt N j))) := fun W A n c hy => Lib.hid (by rw [hsec]; exact scanOf_any N.S N.Z j A n c l W hy hrow.2 (by omega) (by omega))
      have HL := Lib.hid (And.intro hll hl)
      have e0 : wr.cell? ⟨gb, 0, none⟩ = some (i64 N.S) := cell_blk bg.out 0
      have e1 : wr.cell? ⟨gb, 1, none⟩ = some (i64 N.Z) := cell_blk bg.out 1
      have zd : gb < wr.heap.size := (Array.getElem?_eq_some_iff.1 bg.out).1
      have q1 := fun q => on_cell (w := wr) zd e1 q
      clear hll hrow hsec hl hjd hdr
      go_wp2_with fail
      refine wp_region_po (fun w' => ∃ p : OnOf wr, w' = p.v) 11 [2, 5] (by kernel_rfl) (by kernel_rfl) ⟨⟨_, Base.dr (Below.refl _ _)⟩, rfl⟩ ?_
      simp only [List.take_succ_cons, List.take_zero, List.drop_succ_cons, List.drop_zero]
      have on0 := @on_rd0; have on1 := @on_rd1; have on2 := @on_rd2; have on3 := @on_new1; have on4 := @on_new2; have on5 := @gr_rd0
      repeat ((with_reducible refine seq_read ?_ ?_); (focus rfl); (intro K hK); (unfold readsAt); go_simp; first | ((with_reducible refine hK _ ?_); clear hK K) | (rw [if_neg (by intro h; cases h)]; (with_reducible refine hK _ ?_); clear hK K))
      refine seq_eff (by rfl) (by first | rfl | go_simp) ?_
      intro K hK
      unfold effAt2
      go_simp
      refine ⟨rfl, (P0 _).out.mono ?_⟩; rintro e x5 ⟨rfl, rfl⟩
      refine ⟨_, rfl, ⟨⟨_, Base.dr (Below.refl _ _)⟩, rfl⟩, hK _ _ ?_⟩
      clear hK K
      repeat ((with_reducible refine seq_read ?_ ?_); (focus rfl); (intro K hK); (unfold readsAt); go_simp; first | ((with_reducible refine hK _ ?_); clear hK K) | (rw [if_neg (by intro h; cases h)]; (with_reducible refine hK _ ?_); clear hK K))
      refine seq_eff (by rfl) (by first | rfl | go_simp) ?_
      intro K hK
      unfold effAt2
      go_simp
      refine ⟨rfl, (HRd _ (Base.dr (Below.refl _ _))).out.mono ?_⟩; rintro e x6 ⟨v, rfl, hown, hb6⟩
      obtain ⟨va, vc, rfl⟩ := own_val hown
      refine ⟨_, rfl, ⟨⟨_, Base.tr (Base.dr (Below.refl _ _)) hb6⟩, rfl⟩, hK _ _ ?_⟩
      clear hK K
      repeat ((with_reducible refine seq_read ?_ ?_); (focus rfl); (intro K hK); (unfold readsAt); go_simp; first | ((with_reducible refine hK _ ?_); clear hK K) | (rw [if_neg (by intro h; cases h)]; (with_reducible refine hK _ ?_); clear hK K))
      clear on0 on1 on2 on3 on4 on5
      with_reducible refine seq_nil ?_
      have B6 := Base.tr (Base.dr (Below.refl wr.heap.size wr)) hb6
      have st6 := Lib.hid (st.out.on B6)
      have bg6 := Lib.hid (blk_below bg.out B6)
      have hy6 := own_Byt hown
      have f0 : x6.cell? ⟨gb, 0, none⟩ = some (i64 N.S) := cell_blk bg6.out 0
      have f1 : x6.cell? ⟨gb, 1, none⟩ = some (i64 N.Z) := cell_blk bg6.out 1
      have HS6 := HS x6 va l.length vc hy6
      clear q1 e0 e1 P0 HRd HS st bg hown hb6 B6 hy6 zd
      go_wp2_with fail
      refine HS6.out.mono ?_; rintro e x7 ⟨v7, rfl, own7, hb7⟩
      have st7 := Lib.hid (st6.out.on hb7)
      have bg7 := Lib.hid (blk_below bg6.out hb7)
      have z6 := Nat.le_trans st6.out.below.size (Nat.le_refl _)
      have own7' : Hid (x7.ownsRow w.heap.size 131 11 v7 (secAt N j).found.length ((secAt N j).found.flatMap Found.row)) := Lib.hid (own_base own7 z6)
      obtain ⟨A7, n7, c7, rfl⟩ : ∃ A n c, v7 = .slice A n c := by
        rcases own7.2 with ⟨h1, _⟩ | ⟨g', c', _, h1, _⟩
        · exact ⟨_, _, _, h1⟩
        · exact ⟨_, _, _, h1⟩
      have own6 := st7.out.own
      have zgb := (Array.getElem?_eq_some_iff.1 bg7.out).1
      have hxn := hxl.out
      clear HS6 st6 bg6 hb7 own7 f0 f1 z6
      go_wp2_with (at_builtin; refine wpList_append_own _ rfl _ _ 173 rfl gb 180 i1 _ 4 48 Tryz.underlying173 a0 a1 a2 a3 rfl (by decide) _ _ _ rfl (own6.alloc _) ⟨x7.heap.size, 0, none⟩ 1 1 [i64 (secAt N j).cls, i64 (secAt N j).stop, .bool (secAt N j).full, .slice A7 n7 c7] rfl rfl ?c1 ?c2 ?c3 ?c4 ?c5 ?_)
      case c1 => exact news_of _ _ _
      case c2 => simp [Value.oneCell']
      case c3 => unfold maxLen; omega
      case c4 => omega
      case c5 => (try simp); omega
      intro v2 w2 own2 gr2 _
      have stA := st7.out.on (Base.al (Below.refl _ x7) (.cells #[i64 (secAt N j).cls, i64 (secAt N j).stop, .bool (secAt N j).full, .slice A7 n7 c7] 180))
      have hfA := own7'.out.alloc (.cells #[i64 (secAt N j).cls, i64 (secAt N j).stop, .bool (secAt N j).full, .slice A7 n7 c7] 180)
      have hst2 := Lib.hid (SecSt.step (x := (secAt N j, .slice A7 n7 c7)) stA gr2 (by rw [hxn]; exact own2) (by rw [hxn]) hfA)
      have bg2 := Lib.hid (keepN stA.own gr2 (blk_old (x := .cells #[i64 (secAt N j).cls, i64 (secAt N j).stop, .bool (secAt N j).full, .slice A7 n7 c7] 180) bg7.out) (by decide))
      clear stA hfA own2 gr2 own6 own7' st7 bg7
      go_wp2_with fail
      exact ⟨⟨j + 1, _, by omega, by go_num, Lib.hid (by rw [List.length_append, hxn]; rfl), hst2, bg2⟩, by simp [intOf]; omega⟩
    · obtain rfl : j = N.S := by omega
      rcases st.out.own.2 with ⟨h1, h2⟩ | ⟨g9, c9, cur9, rfl, -, -⟩
      · have := hxl.out; omega
      have hxn := hxl.out
      have tS : ((N.S : Int) == 0) = false := by rw [beq_eq_false_iff_ne]; omega
      have HXN := Lib.hid hxn
      have tS2 : ((xs.length : Int) == 0) = false := by rw [hxn]; exact tS
      clear hxn
      go_wp2_with fail
      go_ret2
      exact ⟨_, xs, rfl, ⟨own_base st.out.own st.out.hB, st.out.sec, st.out.below, Nat.le_refl _⟩, hxl.out⟩
end Go.Proofs.YthiimpleljaimaaGreatDoor

/- Where bytes would be written: a plan. -/
namespace Go.Proofs.YthiimpleljaimaaGreatDoor
open Go Go.RowKit Flo

/-- The sector to write. -/
def pickW (l : List Info) : Option Nat := if someB (idx canBlank 0 l) then some (leastOf cWear l (idx canBlank 0 l)).toNat else none
theorem minL_memS (f : Int → Int → Int) : ∀ {xs : List Int}, xs ≠ [] → minL f xs ∈ xs := fun h => minL_mem _ h
theorem pickW_lt {l : List Info} {k : Nat} (h : pickW l = some k) : k < l.length ∧ leastOf cWear l (idx canBlank 0 l) = (k : Int) ∧ someB (idx canBlank 0 l) = true := by
  unfold pickW at h
  split at h
  · rename_i hs
    injection h with h
    have hne : idx canBlank 0 l ≠ [] := by intro e; rw [e] at hs; cases hs
    have hm : leastOf cWear l (idx canBlank 0 l) ∈ idx canBlank 0 l := by unfold leastOf; rw [if_neg hne]; exact minL_mem _ hne
    have := idx_range canBlank l 0 _ hm
    exact ⟨by omega, by omega, hs⟩
  · cases h
theorem pickW_no {l : List Info} (h : pickW l = none) : someB (idx canBlank 0 l) = false := by
  unfold pickW at h
  split at h
  · cases h
  · rename_i hs; simpa using hs
def asLive (x : Info) : Info := { x with cls := 1 }
def planNew (l : List Info) (op : Nat) : Option (List Info × Nat × Nat × Nat) :=
  match pickW l with
  | none => none
  | some k => some (l.set k (asLive (l.getD k ⟨0, false, 0, 0, 0, false⟩)), k, 8, op + 1)
def planAt (Z : Nat) (n : Int) (l : List Info) (a : Option Nat) (en op : Nat) : Option (List Info × Nat × Nat × Nat) :=
  match a with
  | none => planNew l op
  | some k => if (Z : Int) - en < n then planNew l op else some (l, k, en, op)
def planGo (Z : Nat) : List Int → List Info → Option Nat → Nat → Nat → List (Nat × Nat) → Option (List (Nat × Nat) × Nat)
  | [], _, _, _, op, out => some (out, op)
  | n :: ns, l, a, en, op, out =>
    if fitsB Z n then
      match planAt Z n l a en op with
      | none => none
      | some (l', k, e, op') => planGo Z ns l' (some k) (e + n.toNat) op' (out ++ [(k, e)])
    else none
def needB (Z : Nat) (a : Option Nat) (en : Nat) (m : Int) : Bool := match a with | none => true | some _ => decide ((Z : Int) - en < m)
def atV : Option Nat → Int
  | none => -1
  | some k => (k : Int)
abbrev plV (p : Nat × Nat) : Value := cx (near p.1) (near p.2)
/-- What a plan comes to. -/
def PlanPost (w : World) (R : Option (List (Nat × Nat) × Nat)) (e : Ending) (w' : World) : Prop :=
  ∃ (v : Value) (k : Nat) (b : Bool), e = .returned (.tuple #[v, i64 k, .bool b]) ∧ Below w.heap.size w w' ∧
    match R with
    | none => v = .slice none 0 0 ∧ k = 0 ∧ b = false
    | some y => w'.ownsRow w.heap.size 127 1 v y.1.length (y.1.map plV) ∧ k = y.2 ∧ b = true
/-- A row of how sectors stand, in a block. -/
theorem blk_infos {w : World} {g S cap base : Nat} {l : List Info} {junk : List Value} (h : w.heap[g]? = some (.cells (l.flatMap Info.row ++ junk).toArray 182 (0, 0))) (hl : l.length = S) (hc : S ≤ cap) (hm : cap ≤ maxLen) (hj : junk.length = (cap - S) * 6) (hb : base ≤ g) :
    w.ownsRow base 182 6 (.slice (some ⟨g, 0, none⟩) S cap) S (l.flatMap Info.row) := by
  have hf := flat_len Info.row 6 info_len l
  refine ⟨by rw [hf, hl], .inr ⟨g, cap, _, rfl, hb, h, hc, hm, ?_, ?_⟩⟩
  · rw [List.size_toArray, List.length_append, hf, hl, hj, Nat.sub_mul]
    have := Nat.mul_le_mul_right 6 hc
    omega
  · rw [List.take_left' (by rw [hf, hl])]
theorem infos_own {w : World} {base : Nat} {v : Value} {l : List Info} (h : w.ownsRow base 182 6 v l.length (l.flatMap Info.row)) : Infos w v l :=
  Sl.own _ (by intro y hy; obtain ⟨q, _, rfl⟩ := List.mem_map.1 hy; rfl) (by rw [List.length_map, ← List.flatMap_def]; exact h)
theorem own_setT {W : World} {b k n g o : Nat} {e t : TypeId} {v u : Value} {xs : List Value} {c : Array Value} {f : Nat × Nat} (h : W.ownsRow b e k v n xs) (hg : W.heap[g]? = some (.cells c t f)) (hne : e ≠ t) : (W.setCell ⟨g, o, none⟩ u).ownsRow b e k v n xs := by
  refine ⟨h.1, ?_⟩
  rcases h.2 with hn | ⟨g', cap', cur', rfl, hbg', hgg', rest⟩
  · exact .inl hn
  · exact .inr ⟨g', cap', cur', rfl, hbg', blk_set hgg' _ _ (ne_type hgg' hg hne), rest⟩
theorem below_grownS {w W W' : World} {e : TypeId} {base n k : Nat} {v : Value} {xs : List Value} (h : Below w.heap.size w W) (own : W.ownsRow base e k v n xs) (hg : W.grownBy W' v.ownBlock) (hB : w.heap.size ≤ base) : Below w.heap.size w W' :=
  Base.gr h hg (fun g hg => Nat.le_trans hB (own.lt g hg).1)
theorem keepNS {W W' : World} {e : TypeId} {base n size : Nat} {v : Value} {xs : List Value} (own : W.ownsRow base e size v n xs) (hg : W.grownBy W' v.ownBlock) {g : Nat} {c : Array Value} {t : TypeId} {f : Nat × Nat} (hx : W.heap[g]? = some (.cells c t f)) (hne : t ≠ e) : W'.heap[g]? = some (.cells c t f) := by
  rw [hg.block g (Array.getElem?_eq_some_iff.1 hx).1 ?_]
  · exact hx
  · intro he
    rcases own.2 with ⟨h1, _⟩ | ⟨g', cap, cur, h1, _, hgg, _⟩
    · rw [h1] at he; cases he
    · rw [h1] at he
      injection he with he
      subst he
      rw [hx] at hgg
      injection hgg with hgg
      injection hgg with _ h2
      exact hne h2
theorem info_cplxS : (Tryz.prog.info? 127).map (fun i => (i.zero, i.size, i.bytes)) = some (some (cx 0 0), 1, 16) := by kernel_rfl
end Go.Proofs.YthiimpleljaimaaGreatDoor

/- shelf.New: the shelf on a device, and what was found there. -/
namespace Go.Proofs.YthiimpleljaimaaGreatDoor
open Go Go.RowKit Flo

def seqMax (fs : List Found) : Int := fs.foldl (fun a f => max a f.item.seq) 0
theorem seqMax_snoc (fs : List Found) (f : Found) : seqMax (fs ++ [f]) = max (seqMax fs) f.item.seq := by unfold seqMax; rw [List.foldl_append]; rfl
noncomputable def infoAt (N : Nor) (i : Nat) : Info := ⟨(secAt N i).cls, false, 0, seqMax (secAt N i).found, 0, false⟩
noncomputable def shFound (N : Nor) (j : Nat) : List Found := (List.range j).flatMap fun i => (secAt N i).found
noncomputable def shInfos (N : Nor) (j : Nat) : List Info := (List.range j).map (infoAt N)
noncomputable def shEnds (N : Nor) (j : Nat) : List Nat := (List.range j).map fun i => (secAt N i).stop
theorem shFound_succ (N : Nor) (j : Nat) : shFound N (j + 1) = shFound N j ++ (secAt N j).found := by unfold shFound; rw [List.range_succ, List.flatMap_append]; simp
theorem shInfos_succ (N : Nor) (j : Nat) : shInfos N (j + 1) = shInfos N j ++ [infoAt N j] := by unfold shInfos; rw [List.range_succ, List.map_append]; rfl
theorem shEnds_succ (N : Nor) (j : Nat) : shEnds N (j + 1) = shEnds N j ++ [(secAt N j).stop] := by unfold shEnds; rw [List.range_succ, List.map_append]; rfl
theorem shInfos_len (N : Nor) (j : Nat) : (shInfos N j).length = j := by unfold shInfos; simp
theorem shEnds_len (N : Nor) (j : Nat) : (shEnds N j).length = j := by unfold shEnds; simp

theorem secAt_len {O : Nat → Prop} {w : World} {N : Nor} (hd : DevR O w N) (i : Nat) : (secAt N i).found.length ≤ 4097 := by
  have h1 := scanB_len N.S N.Z i (N.data.getD i [])
  have h2 : (N.data.getD i []).length ≤ 4096 := by
    rw [List.getD_eq_getElem?_getD]
    cases hq : N.data[i]? with
    | none => exact Nat.zero_le _
    | some l =>
      have := (hd.row l (List.mem_of_getElem? hq)).1
      have := hd.geoI
      show l.length ≤ 4096
      omega
  unfold secAt
  omega
theorem shFound_len {N : Nor} (h : ∀ i, (secAt N i).found.length ≤ 4097) : ∀ j, (shFound N j).length ≤ j * 4097
  | 0 => Nat.zero_le _
  | j + 1 => by
    rw [shFound_succ, List.length_append, Nat.add_mul]
    have := shFound_len h j
    have := h j
    omega

/-- The shelf under way: its block, the rows of what was found, of how sectors stand, of ends. -/
structure ShNew (x1 : World) (N : Nor) (SB : Nat) (W : World) (fv : Value) (fs : List Found) (lv : Value) (il : List Info) (ev : Value) (el : List Nat) : Prop where
  box : W.heap[SB]? = some (.cells #[ptrD N, i64 N.S, i64 N.Z, lv, ev, i64 (-1)] 178 (0, 0))
  ownF : W.ownsRow (SB + 1) 131 11 fv fs.length (fs.flatMap Found.row)
  ownL : W.ownsRow (SB + 1) 182 6 lv il.length (il.flatMap Info.row)
  ownE : W.ownsRow (SB + 1) 3 1 ev el.length (el.map fun n : Nat => i64 n)
  below : Below x1.heap.size x1 W
  lt : x1.heap.size ≤ SB
theorem ShNew.on {x1 : World} {N : Nor} {SB : Nat} {W W' : World} {fv lv ev : Value} {fs : List Found} {il : List Info} {el : List Nat} (h : ShNew x1 N SB W fv fs lv il ev el) (hb : Below W.heap.size W W') : ShNew x1 N SB W' fv fs lv il ev el :=
  ⟨blk_below h.box hb, own_below h.ownF hb, own_below h.ownL hb, own_below h.ownE hb, Base.tr h.below hb, h.lt⟩
theorem ShNew.addF {x1 : World} {N : Nor} {SB : Nat} {W W' : World} {fv fv' lv ev : Value} {fs gs : List Found} {il : List Info} {el : List Nat} (h : ShNew x1 N SB W fv fs lv il ev el) (hg : W.grownBy W' fv.ownBlock)
    (ho : W'.ownsRow (SB + 1) 131 11 fv' (fs.length + gs.length) (fs.flatMap Found.row ++ gs.flatMap Found.row)) : ShNew x1 N SB W' fv' (fs ++ gs) lv il ev el :=
  ⟨keepN h.ownF hg h.box (by decide), by rw [List.length_append, List.flatMap_append]; exact ho, own_keepN h.ownF hg h.ownL (by decide), own_keepN h.ownF hg h.ownE (by decide), Base.gr h.below hg (fun g hg => by have := (h.ownF.lt g hg).1; have := h.lt; omega), h.lt⟩
theorem own_setN {W : World} {b n k SB o : Nat} {e : TypeId} {v u : Value} {xs : List Value} (h : W.ownsRow b e k v n xs) (hb : SB < b) : (W.setCell ⟨SB, o, none⟩ u).ownsRow b e k v n xs := by
  refine ⟨h.1, ?_⟩
  rcases h.2 with hn | ⟨g, cap, cur, rfl, hbg, hgg, rest⟩
  · exact .inl hn
  · exact .inr ⟨g, cap, cur, rfl, hbg, blk_set hgg _ _ (by omega), rest⟩
theorem ShNew.addL {x1 : World} {N : Nor} {SB : Nat} {W W' : World} {fv lv lv' ev : Value} {fs : List Found} {il : List Info} {el : List Nat} (h : ShNew x1 N SB W fv fs lv il ev el) (hg : W.grownBy W' lv.ownBlock) {x : Info}
    (ho : W'.ownsRow (SB + 1) 182 6 lv' (il.length + 1) (il.flatMap Info.row ++ x.row)) : ShNew x1 N SB (W'.setCell ⟨SB, 3, none⟩ lv') fv fs lv' (il ++ [x]) ev el := by
  have hb : Below x1.heap.size x1 W' := Base.gr h.below hg (fun g hg => by have := (h.ownL.lt g hg).1; have := h.lt; omega)
  refine ⟨heap_setCell (keepN h.ownL hg h.box (by decide)) 3 lv', own_setN (own_keepN h.ownL hg h.ownF (by decide)) (by omega), ?_, own_setN (own_keepN h.ownL hg h.ownE (by decide)) (by omega), Base.st hb h.lt _ _, h.lt⟩
  rw [List.length_append, List.flatMap_append]
  have := own_setN (SB := SB) (o := 3) (u := lv') ho (by omega)
  simpa using this
theorem ShNew.addE {x1 : World} {N : Nor} {SB : Nat} {W W' : World} {fv lv ev ev' : Value} {fs : List Found} {il : List Info} {el : List Nat} (h : ShNew x1 N SB W fv fs lv il ev el) (hg : W.grownBy W' ev.ownBlock) {x : Nat}
    (ho : W'.ownsRow (SB + 1) 3 1 ev' (el.length + 1) ((el.map fun n : Nat => i64 n) ++ [i64 x])) : ShNew x1 N SB (W'.setCell ⟨SB, 4, none⟩ ev') fv fs lv il ev' (el ++ [x]) := by
  have hb : Below x1.heap.size x1 W' := Base.gr h.below hg (fun g hg => by have := (h.ownE.lt g hg).1; have := h.lt; omega)
  refine ⟨heap_setCell (keepN h.ownE hg h.box (by decide)) 4 ev', own_setN (own_keepN h.ownE hg h.ownF (by decide)) (by omega), own_setN (own_keepN h.ownE hg h.ownL (by decide)) (by omega), ?_, Base.st hb h.lt _ _, h.lt⟩
  rw [List.length_append, List.map_append]
  exact own_setN ho (by omega)
/-- What shelf.New comes back with. -/
def ShPost (w : World) (N : Nor) (e : Ending) (w' : World) : Prop :=
  ∃ (x1 : World) (SB : Nat) (fv lv ev : Value), e = .returned (.tuple #[.pointer (some ⟨SB, 0, none⟩), fv, i64 0]) ∧ ShNew x1 N SB w' fv (shFound N N.S) lv (shInfos N N.S) ev (shEnds N N.S) ∧ Below w.heap.size w x1
theorem ShPost.below {w w' x1 : World} {N : Nor} {SB : Nat} {fv lv ev : Value} {fs : List Found} {il : List Info} {el : List Nat} (h : ShNew x1 N SB w' fv fs lv il ev el) (hb : Below w.heap.size w x1) : Below w.heap.size w w' := Base.tr hb h.below
theorem info_intS : (Tryz.prog.info? 3).map (fun i => (i.zero, i.size, i.bytes)) = some (some (.int .i64 0), 1, 8) := by kernel_rfl
end Go.Proofs.YthiimpleljaimaaGreatDoor

/- store.sizes, store.Price, store.Capacity. -/
namespace Go.Proofs.YthiimpleljaimaaGreatDoor
open Go Go.RowKit Flo

def sizeP (p : Pair) : Int := sizeB p.key p.value
theorem sizeP_le (p : Pair) : 0 ≤ sizeP p ∧ sizeP p ≤ 144 := by unfold sizeP sizeB; split <;> omega
def sizesL (l : List Pair) : List Int := l.map sizeP
theorem sizes_snoc (l : List Pair) (k : Nat) (h : k < l.length) : (sizesL (l.take (k + 1))).map i64 = (sizesL (l.take k)).map i64 ++ [i64 (sizeP (l.getD k default))] := by
  rw [List.take_succ_eq_append_getElem h, sizesL, List.map_append, List.map_append, List.getD_eq_getElem?_getD, List.getElem?_eq_getElem h]
  rfl

set_option maxHeartbeats 4000000 in
set_option maxRecDepth 100000 in
theorem sizes_any (A : Option Addr) (c1 : Nat) (l : List Pair) (w : World) (h1 : Pairs w (.slice A l.length c1) l) (hbig : l.length ≤ 1000000) :
    Calls Tryz.prog 132 #[.slice A l.length c1] w fun e w' => ∃ v, e = .returned v ∧ w'.ownsRow w.heap.size 3 1 v l.length ((sizesL l).map i64) ∧ Below w.heap.size w w' := by
  obtain ⟨i0, hi, hz0, hz1, hz2⟩ := info_parts info_intS
  go_enter Tryz.func132, Tryz.ntmps132
  go_wp2_with fail
  go_loopw [3, 8] (fun v i wr => ∃ k : Nat, k ≤ l.length ∧ i = .int .i64 k ∧ wr.ownsRow w.heap.size 3 1 v k ((sizesL (l.take k)).map i64) ∧ Below w.heap.size w wr) (fun _ i _ => l.length - (intOf i).toNat)
  case atStart => exact ⟨0, Nat.zero_le _, rfl, World.ownsRow_nil _ _ _ _, Below.refl _ _⟩
  case round =>
    obtain ⟨k, hk, rfl, hown, hb⟩ := hrel
    by_cases hlt : k < l.length
    · obtain ⟨a1, o1, rfl, b1, p1⟩ := Pairs.cell (Sl.below h1 hb) (by omega)
      obtain ⟨q0, q1, q2⟩ := p1 k hlt
      have hw1 : IntKind.i64.wrap ((k : Int) + 1) = (k : Int) + 1 := by rw [IntKind.wrap_i64]; omega
      have hk1 : (k : Int) < (l.length : Int) := by omega
      have hsn := sizes_snoc l k hlt
      have HSN := Lib.hid hsn
      clear hsn p1
      generalize hp : l.getD k default = pk at *
      have HP := Lib.hid hp
      clear hp
      obtain ⟨pk, vv, gg⟩ := pk
      simp only at q0 q1 q2
      have G := fun W => Lib.hid (ringSize_any pk vv W)
      have HO := Lib.hid hown
      clear hown
      go_wp2_with fail
      refine (G _).out.mono ?_; rintro e x1 ⟨rfl, rfl⟩
      have hb2 := Base.al hb (.cells #[.string pk, .string vv, .bool gg] 71)
      have hown2 := HO.out.alloc (.cells #[.string pk, .string vv, .bool gg] 71)
      go_wp2_with (at_builtin; go_must (refine wpList_append_own _ rfl _ _ 85 rfl w.heap.size 3 i0 (.int .i64 0) 1 8 Tryz.underlying85 hi hz0 hz1 hz2 rfl (by decide) _ _ _ rfl (hown2.alloc _) ⟨(wr.heap.size + 1), 0, none⟩ 1 1 [i64 (sizeB pk vv)] rfl rfl ?c1 ?c2 ?c3 ?c4 ?c5 ?_))
      case c1 => exact news_at (by simp) _ _
      case c2 => simp [Value.oneCell']
      case c3 => unfold maxLen; omega
      case c4 => omega
      case c5 => have := hb2.size; (try simp at this); (try simp); omega
      intro v' w2 hown3 hgrow _
      have hb3 := Base.gr (Base.al hb2 _) hgrow (fun g hg => (hown2.lt g hg).1)
      go_wp2_with fail
      refine ⟨⟨k + 1, by omega, by go_num, ?_, hb3⟩, by simp [intOf]; omega⟩
      rw [HSN.out]
      exact hown3
    · obtain rfl : k = l.length := by omega
      go_wp2_with fail
      go_ret
      exact ⟨_, rfl, by rw [List.take_length] at hown; exact hown, hb⟩

def sumI (l : List Int) : Int := l.foldl (· + ·) 0
theorem sumI_snoc (l : List Int) (k : Nat) (h : k < l.length) : sumI (l.take (k + 1)) = sumI (l.take k) + l.getD k 0 := by
  unfold sumI
  rw [List.take_succ_eq_append_getElem h, List.foldl_append, List.getD_eq_getElem?_getD, List.getElem?_eq_getElem h]
  rfl
theorem sizes_at (l : List Pair) (k : Nat) (h : k < l.length) : (sizesL l).getD k 0 = sizeP (l.getD k default) := by
  unfold sizesL
  rw [List.getD_eq_getElem?_getD, List.getElem?_map, List.getD_eq_getElem?_getD, List.getElem?_eq_getElem h]
  rfl
theorem sum_le (l : List Pair) : ∀ k, k ≤ l.length → 0 ≤ sumI ((sizesL l).take k) ∧ sumI ((sizesL l).take k) ≤ 144 * k
  | 0, _ => by simp [sumI]
  | k + 1, h => by
    rw [sumI_snoc _ _ (by unfold sizesL; rw [List.length_map]; omega), sizes_at l k (by omega)]
    have := sum_le l k (by omega)
    have := sizeP_le (l.getD k default)
    push_cast
    omega

def capP (s z : Int) : Int := if geoB s z then (s - 4) * (z - 152) else 0
end Go.Proofs.YthiimpleljaimaaGreatDoor

