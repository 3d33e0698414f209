/- scan.All: of all sectors of a device. -/
import Derived.Test.YtokpoogcoeodkaaGreatDoorMg12
import Derived.Test.YtokpoogcoeodkaaGreatDoorMg16
namespace Go.Proofs.YtokpoogcoeodkaaGreatDoor
open Go Go.RowKit Flo

theorem info_secE : (Tryz.prog.info? 52).map (fun i => (i.zero, i.size, i.bytes)) = some (some (.agg #[.int .i64 0, .int .i64 0, .bool false, .slice none 0 0]), 4, 48) := by kernel_rfl

set_option maxHeartbeats 4000000 in
set_option maxRecDepth 100000 in
theorem scanAll_nil (w : World) : Makes 12 #[nilD] w (.tuple #[.slice none 0 0, i64 7]) := by
  have G := fun W => Lib.hid (geom_nil W)
  go_enter Tryz.func12, Tryz.ntmps12
  go_wp2_with fail
  refine (G _).out.mono ?_; rintro e x1 ⟨rfl, hb1⟩
  have hb2 := Base.al hb1 (.cells #[i64 0, i64 0] 28)
  go_wp2_with fail
  go_loopw [5, 13] (fun v i wr => v = .slice none 0 0 ∧ i = .int .i64 0 ∧ Below w.heap.size w wr) (fun _ _ _ => 0)
  case atStart => exact ⟨rfl, rfl, hb2⟩
  case round =>
    obtain ⟨rfl, rfl, hb⟩ := hrel
    go_wp2_with fail
    go_ret2
    exact ⟨rfl, hb⟩

set_option maxHeartbeats 4000000 in
set_option maxRecDepth 100000 in
theorem scanAll_off {O : Nat → Prop} {w : World} {N : Nor} (hd : DevR O w N) (hoff : N.off = true) : Makes 12 #[ptrD N] w (.tuple #[.slice none 0 0, i64 7]) := by
  have hgeo := geoB_yes hd.geo
  have G := Lib.hid (geom_any hd)
  go_enter Tryz.func12, Tryz.ntmps12
  go_wp2_with fail
  refine G.out.mono ?_; rintro e x1 ⟨rfl, hb1⟩
  have hb2 := Base.al hb1 (.cells #[i64 N.S, i64 N.Z] 28)
  have B0 := Lib.hid (blk_new x1 (.cells #[i64 N.S, i64 N.Z] 28))
  have hd2 := hd.below hb2
  have HD2 := Lib.hid hd2
  have HB2 := Lib.hid hb2
  clear G hb1 hb2 hd2 hd
  go_wp2_with fail
  generalize x1.alloc _ = x2 at *
  generalize x1.heap.size = gb at *
  go_loopw [5, 13] (fun v i wr => v = .slice none 0 0 ∧ i = .int .i64 0 ∧ wr = x2) (fun _ _ _ => 0)
  case atStart => exact ⟨rfl, rfl, rfl⟩
  case round =>
    obtain ⟨rfl, rfl, rfl⟩ := hrel
    have hS : 0 < N.S := by omega
    have P0 : ∀ W, Hid (Gives 7 #[i64 0, i64 0] W (cx (near 0) (near 0))) := fun W => Lib.hid (of_in 0 0 W (by omega) (by omega) (by omega) (by omega))
    have HRd : ∀ W, Below wr.heap.size wr W → Hid (Calls Tryz.prog 33 #[ptrD N, cx (near 0) (near 0), i64 N.Z] W (ReadPost W [] 7)) := by
      intro W hW
      have := read_any (HD2.out.below hW) (near 0) (near 0) N.Z
      have hg : N.got (near 0) (near 0) N.Z = ([], 7) := by unfold Nor.got; rw [hoff]; rfl
      rw [hg] at this
      exact Lib.hid this
    have e1 : wr.cell? ⟨gb, 1, none⟩ = some (i64 N.Z) := cell_blk B0.out 1
    have zd : gb < wr.heap.size := (Array.getElem?_eq_some_iff.1 B0.out).1
    have q1 := fun q => on_cell (w := wr) zd e1 q
    have tS : decide ((0 : Int) < (N.S : Int)) = true := decide_eq_true (by omega)
    clear hoff hgeo
    go_wp2_with fail
    refine wp_region_po (fun w' => ∃ p : OnOf wr, w' = p.v) 11 [2, 5] (by kernel_rfl) (by kernel_rfl) ⟨⟨_, Base.dr (Below.refl _ _)⟩, rfl⟩ ?_
    simp only [List.take_succ_cons, List.take_zero, List.drop_succ_cons, List.drop_zero]
    have on0 := @on_rd0; have on1 := @on_rd1; have on2 := @on_rd2; have on3 := @on_new1; have on4 := @on_new2; have on5 := @gr_rd0
    repeat ((with_reducible refine seq_read ?_ ?_); (focus rfl); (intro K hK); (unfold readsAt); go_simp; first | ((with_reducible refine hK _ ?_); clear hK K) | (rw [if_neg (by intro h; cases h)]; (with_reducible refine hK _ ?_); clear hK K))
    refine seq_eff (by rfl) (by first | rfl | go_simp) ?_
    intro K hK
    unfold effAt2
    go_simp
    refine ⟨rfl, (P0 _).out.mono ?_⟩; rintro e x5 ⟨rfl, rfl⟩
    refine ⟨_, rfl, ⟨⟨_, Base.dr (Below.refl _ _)⟩, rfl⟩, hK _ _ ?_⟩
    clear hK K
    repeat ((with_reducible refine seq_read ?_ ?_); (focus rfl); (intro K hK); (unfold readsAt); go_simp; first | ((with_reducible refine hK _ ?_); clear hK K) | (rw [if_neg (by intro h; cases h)]; (with_reducible refine hK _ ?_); clear hK K))
    refine seq_eff (by rfl) (by first | rfl | go_simp) ?_
    intro K hK
    unfold effAt2
    go_simp
    refine ⟨rfl, (HRd _ (Base.dr (Below.refl _ _))).out.mono ?_⟩; rintro e x6 ⟨v, rfl, hown, hb6⟩
    obtain ⟨va, vc, rfl⟩ := own_val hown
    refine ⟨_, rfl, ⟨⟨_, Base.tr (Base.dr (Below.refl _ _)) hb6⟩, rfl⟩, hK _ _ ?_⟩
    clear hK K
    repeat ((with_reducible refine seq_read ?_ ?_); (focus rfl); (intro K hK); (unfold readsAt); go_simp; first | ((with_reducible refine hK _ ?_); clear hK K) | (rw [if_neg (by intro h; cases h)]; (with_reducible refine hK _ ?_); clear hK K))
    clear on0 on1 on2 on3 on4 on5
    with_reducible refine seq_nil ?_
    have B6 := Base.tr HB2.out (Base.tr (Base.dr (Below.refl wr.heap.size wr)) hb6)
    clear hown hb6
    go_wp2_with fail
    go_ret2
    exact ⟨rfl, B6⟩

set_option maxHeartbeats 8000000 in
set_option maxRecDepth 100000 in
theorem scanAll_any {O : Nat → Prop} {w : World} {N : Nor} (hd : DevR O w N) (hon : N.off = false) : Calls Tryz.prog 12 #[ptrD N] w (AllPost w N) := by
  have hgeo := geoB_yes hd.geo
  obtain ⟨i1, a0, a1, a2, a3⟩ := info_parts info_secE
  have G := Lib.hid (geom_any hd)
  have HD := Lib.hid hd
  clear hd
  go_enter Tryz.func12, Tryz.ntmps12
  go_wp2_with fail
  refine G.out.mono ?_; rintro e x1 ⟨rfl, hb1⟩
  have hb2 := Base.al hb1 (.cells #[i64 N.S, i64 N.Z] 28)
  have B0 := Lib.hid (blk_new x1 (.cells #[i64 N.S, i64 N.Z] 28))
  have hz1 := hb1.size
  have HB2 : Hid (SecSt w N x1.heap.size (x1.alloc (.cells #[i64 N.S, i64 N.Z] 28)) (.slice none 0 0) []) := Lib.hid ⟨⟨rfl, .inl ⟨rfl, rfl⟩⟩, (fun i x h => by cases h), hb2, hz1⟩
  clear G hb1 hb2
  go_wp2_with fail
  generalize x1.alloc _ = x2 at *
  generalize x1.heap.size = gb at *
  go_loopw [5, 13] (fun v i wr => ∃ (j : Nat) (xs : List (Scan × Value)), j ≤ N.S ∧ i = .int .i64 j ∧ Hid (xs.length = j) ∧ Hid (SecSt w N gb wr v xs) ∧ Hid (wr.heap[gb]? = some (Obj.cells #[i64 N.S, i64 N.Z] 28 (0, 0)))) (fun _ i _ => N.S - (intOf i).toNat)
  case atStart => exact ⟨0, [], Nat.zero_le _, rfl, Lib.hid rfl, HB2, B0⟩
  case round =>
    clear HB2 B0
    obtain ⟨j, xs, hj, rfl, hxl, st, bg⟩ := hrel
    by_cases hlt : j < N.S
    · have hdr := HD.out.below st.out.below
      have hjd : j < N.data.length := by rw [HD.out.dl]; exact hlt
      obtain ⟨l, hl⟩ : ∃ l, N.data[j]? = some l := ⟨_, List.getElem?_eq_getElem hjd⟩
      have hrow := HD.out.row l (List.mem_of_getElem? hl)
      have hll := hrow.1
      have P0 : ∀ W, Hid (Gives 7 #[i64 j, i64 0] W (cx (near j) (near 0))) := fun W => Lib.hid (of_in j 0 W (by omega) (by omega) (by omega) (by omega))
      have HRd : ∀ W, Below wr.heap.size wr W → Hid (Calls Tryz.prog 33 #[ptrD N, cx (near j) (near 0), i64 N.Z] W (ReadPost W l 0)) := by
        intro W hW
        have := read_any (hdr.below hW) (near j) (near 0) N.Z
        rw [got_row hon hl hlt (by omega) hll] at this
        exact Lib.hid this
      have hsec : secAt N j = scanB N.S N.Z j l := by unfold secAt; rw [List.getD_eq_getElem?_getD, hl]; rfl
      have HS : ∀ W A n c, Byt W (.slice A n c) l → Hid (Calls Tryz.prog 42 #[geo N.S N.Z, i64 j, .slice A n c] W (ScanPost W (secAt N j))) := fun W A n c hy => Lib.hid (by rw [hsec]; exact scanOf_any N.S N.Z j A n c l W hy hrow.2 (by omega) (by omega))
      have HL := Lib.hid (And.intro hll hl)
      have e0 : wr.cell? ⟨gb, 0, none⟩ = some (i64 N.S) := cell_blk bg.out 0
      have e1 : wr.cell? ⟨gb, 1, none⟩ = some (i64 N.Z) := cell_blk bg.out 1
      have zd : gb < wr.heap.size := (Array.getElem?_eq_some_iff.1 bg.out).1
      have q1 := fun q => on_cell (w := wr) zd e1 q
      clear hll hrow hsec hl hjd hdr
      go_wp2_with fail
      refine wp_region_po (fun w' => ∃ p : OnOf wr, w' = p.v) 11 [2, 5] (by kernel_rfl) (by kernel_rfl) ⟨⟨_, Base.dr (Below.refl _ _)⟩, rfl⟩ ?_
      simp only [List.take_succ_cons, List.take_zero, List.drop_succ_cons, List.drop_zero]
      have on0 := @on_rd0; have on1 := @on_rd1; have on2 := @on_rd2; have on3 := @on_new1; have on4 := @on_new2; have on5 := @gr_rd0
      repeat ((with_reducible refine seq_read ?_ ?_); (focus rfl); (intro K hK); (unfold readsAt); go_simp; first | ((with_reducible refine hK _ ?_); clear hK K) | (rw [if_neg (by intro h; cases h)]; (with_reducible refine hK _ ?_); clear hK K))
      refine seq_eff (by rfl) (by first | rfl | go_simp) ?_
      intro K hK
      unfold effAt2
      go_simp
      refine ⟨rfl, (P0 _).out.mono ?_⟩; rintro e x5 ⟨rfl, rfl⟩
      refine ⟨_, rfl, ⟨⟨_, Base.dr (Below.refl _ _)⟩, rfl⟩, hK _ _ ?_⟩
      clear hK K
      repeat ((with_reducible refine seq_read ?_ ?_); (focus rfl); (intro K hK); (unfold readsAt); go_simp; first | ((with_reducible refine hK _ ?_); clear hK K) | (rw [if_neg (by intro h; cases h)]; (with_reducible refine hK _ ?_); clear hK K))
      refine seq_eff (by rfl) (by first | rfl | go_simp) ?_
      intro K hK
      unfold effAt2
      go_simp
      refine ⟨rfl, (HRd _ (Base.dr (Below.refl _ _))).out.mono ?_⟩; rintro e x6 ⟨v, rfl, hown, hb6⟩
      obtain ⟨va, vc, rfl⟩ := own_val hown
      refine ⟨_, rfl, ⟨⟨_, Base.tr (Base.dr (Below.refl _ _)) hb6⟩, rfl⟩, hK _ _ ?_⟩
      clear hK K
      repeat ((with_reducible refine seq_read ?_ ?_); (focus rfl); (intro K hK); (unfold readsAt); go_simp; first | ((with_reducible refine hK _ ?_); clear hK K) | (rw [if_neg (by intro h; cases h)]; (with_reducible refine hK _ ?_); clear hK K))
      clear on0 on1 on2 on3 on4 on5
      with_reducible refine seq_nil ?_
      have B6 := Base.tr (Base.dr (Below.refl wr.heap.size wr)) hb6
      have st6 := Lib.hid (st.out.on B6)
      have bg6 := Lib.hid (blk_below bg.out B6)
      have hy6 := own_Byt hown
      have f0 : x6.cell? ⟨gb, 0, none⟩ = some (i64 N.S) := cell_blk bg6.out 0
      have f1 : x6.cell? ⟨gb, 1, none⟩ = some (i64 N.Z) := cell_blk bg6.out 1
      have HS6 := HS x6 va l.length vc hy6
      clear q1 e0 e1 P0 HRd HS st bg hown hb6 B6 hy6 zd
      go_wp2_with fail
      refine HS6.out.mono ?_; rintro e x7 ⟨v7, rfl, own7, hb7⟩
      have st7 := Lib.hid (st6.out.on hb7)
      have bg7 := Lib.hid (blk_below bg6.out hb7)
      have z6 := Nat.le_trans st6.out.below.size (Nat.le_refl _)
      have own7' : Hid (x7.ownsRow w.heap.size 98 11 v7 (secAt N j).found.length ((secAt N j).found.flatMap Found.row)) := Lib.hid (own_base own7 z6)
      obtain ⟨A7, n7, c7, rfl⟩ : ∃ A n c, v7 = .slice A n c := by
        rcases own7.2 with ⟨h1, _⟩ | ⟨g', c', _, h1, _⟩
        · exact ⟨_, _, _, h1⟩
        · exact ⟨_, _, _, h1⟩
      have own6 := st7.out.own
      have zgb := (Array.getElem?_eq_some_iff.1 bg7.out).1
      have hxn := hxl.out
      clear HS6 st6 bg6 hb7 own7 f0 f1 z6
      go_wp2_with (at_builtin; refine wpList_append_own _ rfl _ _ 46 rfl gb 52 i1 _ 4 48 Tryz.underlying46 a0 a1 a2 a3 rfl (by decide) _ _ _ rfl (own6.alloc _) ⟨x7.heap.size, 0, none⟩ 1 1 [i64 (secAt N j).cls, i64 (secAt N j).stop, .bool (secAt N j).full, .slice A7 n7 c7] rfl rfl ?c1 ?c2 ?c3 ?c4 ?c5 ?_)
      case c1 => exact news_of _ _ _
      case c2 => simp [Value.oneCell']
      case c3 => unfold maxLen; omega
      case c4 => omega
      case c5 => (try simp); omega
      intro v2 w2 own2 gr2 _
      have stA := st7.out.on (Base.al (Below.refl _ x7) (.cells #[i64 (secAt N j).cls, i64 (secAt N j).stop, .bool (secAt N j).full, .slice A7 n7 c7] 52))
      have hfA := own7'.out.alloc (.cells #[i64 (secAt N j).cls, i64 (secAt N j).stop, .bool (secAt N j).full, .slice A7 n7 c7] 52)
      have hst2 := Lib.hid (SecSt.step (x := (secAt N j, .slice A7 n7 c7)) stA gr2 (by rw [hxn]; exact own2) (by rw [hxn]) hfA)
      have bg2 := Lib.hid (keepN stA.own gr2 (blk_old (x := .cells #[i64 (secAt N j).cls, i64 (secAt N j).stop, .bool (secAt N j).full, .slice A7 n7 c7] 52) bg7.out) (by decide))
      clear stA hfA own2 gr2 own6 own7' st7 bg7
      go_wp2_with fail
      exact ⟨⟨j + 1, _, by omega, by go_num, Lib.hid (by rw [List.length_append, hxn]; rfl), hst2, bg2⟩, by simp [intOf]; omega⟩
    · obtain rfl : j = N.S := by omega
      rcases st.out.own.2 with ⟨h1, h2⟩ | ⟨g9, c9, cur9, rfl, -, -⟩
      · have := hxl.out; omega
      have hxn := hxl.out
      have tS : ((N.S : Int) == 0) = false := by rw [beq_eq_false_iff_ne]; omega
      have HXN := Lib.hid hxn
      have tS2 : ((xs.length : Int) == 0) = false := by rw [hxn]; exact tS
      clear hxn
      go_wp2_with fail
      go_ret2
      exact ⟨_, xs, rfl, ⟨own_base st.out.own st.out.hB, st.out.sec, st.out.below, Nat.le_refl _⟩, hxl.out⟩
end Go.Proofs.YtokpoogcoeodkaaGreatDoor

/- Each sector gets its head: the device and the document's, side by side. -/
namespace Go.Proofs.YtokpoogcoeodkaaGreatDoor
open Go Go.RowKit Flo

/-- '[]byte(s)': bytes of its own. -/
theorem row_at8 {x : List Nat} (hx : ∀ b ∈ x, b < 256) (c i : Nat) (h : i < x.length) : (bytesRow (toB x) c)[i]? = some (bv (x[i])) := by
  have h1 : i < ((toB x).data.map (fun b => Value.int .u8 b.toNat)).size := by rw [Array.size_map]; unfold toB; simpa using h
  unfold bytesRow
  rw [Array.getElem?_append_left h1, Array.getElem?_map]
  unfold toB
  simp only [List.getElem?_toArray, List.getElem?_map, List.getElem?_eq_getElem h, Option.map_some]
  have hb := hx x[i] (List.getElem_mem h)
  rw [show ((UInt8.ofNat x[i]).toNat : Nat) = x[i] by simp; omega]
set_option maxRecDepth 100000 in
theorem conv_bytes8 (x : List Nat) (hx : ∀ b ∈ x, b < 256) (hl : x.length ≤ 60000) (w : World) :
    ∃ c w', (convert 9 38 (.string (toB x))).run Tryz.prog w = .ok (.slice (some ⟨w.heap.size, 0, none⟩) x.length c) w' ∧ Byt w' (.slice (some ⟨w.heap.size, 0, none⟩) x.length c) x ∧ Below w.heap.size w w' := by
  have hr := run_bytes_of_string (P := Tryz.prog) w 9 38 5 (toB x) Tryz.underlying9 Tryz.underlying38 Tryz.underlying5
  rw [toB_size] at hr
  have hge := grownCap_ge w x.length 0 5
  have hle := grownCap_le_maxLen w x.length 0 5 (by unfold maxLen; omega)
  generalize grownCap w x.length 0 5 = c at *
  refine ⟨_, _, hr, ?_, Base.al (Base.dr (Below.refl _ w)) _⟩
  have hb := blk_new w.drew (.cells (bytesRow (toB x) c) 5 ((bytesRow (toB x) c).size, (bytesRow (toB x) c).size + 1))
  refine ⟨some ⟨w.heap.size, 0, none⟩, c, by rw [List.length_map], by rw [List.length_map]; exact hge, hle, fun h => (by cases h), fun _ => ⟨w.heap.size, 0, rfl, (Array.getElem?_eq_some_iff.1 hb).1, fun i y hi => ?_⟩⟩
  rw [List.getElem?_map] at hi
  cases hxi : x[i]? with
  | none => rw [hxi] at hi; cases hi
  | some z =>
    rw [hxi] at hi
    injection hi with hi
    subst hi
    refine ⟨rfl, fun j u hj => ?_⟩
    match j, hj with
    | 0, hj =>
      injection hj with hj
      subst hj
      obtain ⟨h1, h2⟩ := List.getElem?_eq_some_iff.1 hxi
      have := cell_blk hb (0 + i * 1 + 0)
      rw [show 0 + i * 1 + 0 = i by omega] at this ⊢
      rw [row_at8 hx c i h1, h2] at this
      exact this
    | j + 1, hj => cases hj

/-- The device is an act ahead of the document's. -/
structure DuoSt (w : World) (s z D0 gm : Nat) (W : World) (j : Nat) (N M : Nor) (R : RV) (O : Nat → Prop) : Prop where
  dev : DevR O W N
  ref : RefR (fun k => O k ∨ k = gm) W R M
  box : W.heap[gm]? = some (Obj.cells (R.cells M) 33 (0, 0))
  ng : ¬ O gm
  ge : ∀ k, O k → w.heap.size ≤ k
  gg : w.heap.size ≤ gm
  bdN : Bd N j
  bdM : Bd M j
  S : N.S = s
  Z : N.Z = z
  D : N.D = D0
  mask : R.mask < 256
  left : R.left ≤ 9223372036854775807
  below : Below w.heap.size w W
theorem DuoSt.on {w : World} {s z D0 gm : Nat} {W W' : World} {j : Nat} {N M : Nor} {R : RV} {O : Nat → Prop} (h : DuoSt w s z D0 gm W j N M R O) (hb : Below W.heap.size W W') : DuoSt w s z D0 gm W' j N M R O :=
  { h with dev := h.dev.below hb, ref := h.ref.below hb, box := blk_below h.box hb, below := Base.tr h.below hb }
abbrev opAt (k : Nat) : OpV := ⟨0, k, 0, none, 0, 0, 0, 0, 0⟩
theorem prog_doo (N : Nor) (k : Nat) (hk : k ≤ 2147483647) (lb : List Nat) (g : Nat) : N.doo (opAt k) lb g = (N.prog (near k) (near 0) lb).2 := by
  unfold Nor.doo
  rw [if_pos rfl]
  have h : ofPl (k : Int) 0 = (near k, near 0) := by
    have := ofPl_in (a := k) (b := 0) hk (by decide)
    simpa using this
  show (N.prog (ofPl (k : Int) 0).1 (ofPl (k : Int) 0).2 lb).2 = _
  rw [h]
theorem prog_Bd {N : Nor} {j : Nat} (h : Bd N j) (k : Nat) (hk : k ≤ 2147483647) (lb : List Nat) : Bd (N.prog (near k) (near 0) lb).2 (j + 1) := by
  rw [← prog_doo N k hk lb 0]
  exact doo_Bd h _ _ _ (show (0 : Int) ≤ 9223372036854775807 by decide)
theorem prog_S (N : Nor) (k : Nat) (hk : k ≤ 2147483647) (lb : List Nat) : (N.prog (near k) (near 0) lb).2.S = N.S ∧ (N.prog (near k) (near 0) lb).2.Z = N.Z ∧ (N.prog (near k) (near 0) lb).2.D = N.D := by
  rw [← prog_doo N k hk lb 0]
  exact doo_S N _ _ _
theorem dev_prog {w : World} {s z D0 gm : Nat} {W : World} {j : Nat} {N : Nor} {R : RV} {O : Nat → Prop} (h : PlaySt w s z D0 gm W j N R O) (hj : j < 900) (k : Nat) (hk : k ≤ 2147483647) {g nb cap : Nat} {lb : List Nat} (hg : W.heap.size ≤ g ∨ ¬ O g)
    (hy : Byt W (.slice (some ⟨g, 0, none⟩) nb cap) lb) (hl8 : ∀ x ∈ lb, x < 256) (hm : lb.length ≤ 100000) :
    Calls Tryz.prog 6 #[.pointer (some ⟨D0, 0, none⟩), cx (near k) (near 0), .slice (some ⟨g, 0, none⟩) nb cap] W fun e w' => e = .returned (i64 (N.prog (near k) (near 0) lb).1) ∧ DuoSt w s z D0 gm w' (j + 1) (N.prog (near k) (near 0) lb).2 N R O ∧ Out O W w' := by
  have hfar : Far O (.slice (some ⟨g, 0, none⟩) nb cap) := by
    intro b off n c he hO
    injection he with he
    injection he with he
    injection he with he
    subst he
    rcases hg with h1 | h1
    · have := h.dev.lim _ hO; omega
    · exact h1 hO
  have := prog_any h.dev (by have := h.bd.acts; omega) (by have := h.bd.offs; omega) h.bd.cut (near k) (near 0) (some ⟨g, 0, none⟩) nb cap lb hy hl8 hfar hm
  rw [show ptrD N = .pointer (some ⟨D0, 0, none⟩) by rw [← h.D]] at this
  refine this.mono ?_
  rintro e w' ⟨rfl, hd, hout⟩
  have hS := prog_S N k hk lb
  exact ⟨rfl, { dev := hd, ref := h.ref.out (hout.wide (fun k hk => .inl hk)), box := hout.blk h.box h.ng, ng := h.ng, ge := h.ge, gg := h.gg, bdN := prog_Bd h.bd k hk lb, bdM := h.bd.mono (Nat.le_succ j), S := by rw [hS.1]; exact h.S, Z := by rw [hS.2.1]; exact h.Z, D := by rw [hS.2.2]; exact h.D, mask := h.mask, left := h.left, below := h.below.trans (hout.base h.ge h.below.size) }, hout⟩
theorem ref_prog {w : World} {s z D0 gm : Nat} {W : World} {j : Nat} {N : Nor} {R : RV} {O : Nat → Prop} {k : Nat} {lb : List Nat} (h : DuoSt w s z D0 gm W j (N.prog (near k) (near 0) lb).2 N R O) (hj : j < 900) {A : Option Addr} {nb cap : Nat}
    (hy : Byt W (.slice A nb cap) lb) (hl8 : ∀ x ∈ lb, x < 256) :
    Calls Tryz.prog 9 #[.agg (R.cells N), cx (near k) (near 0), .slice A nb cap] W fun e w' => ∃ (R' : RV) (u : Nat), e = .returned (.tuple #[i64 u, .agg (R'.cells (N.prog (near k) (near 0) lb).2)]) ∧
      w'.heap[gm]? = some (Obj.cells (R.cells N) 33 (0, 0)) ∧ Below W.heap.size W w' ∧ PlaySt w s z D0 gm (sets w' gm 0 (R'.cells (N.prog (near k) (near 0) lb).2).toList) j (N.prog (near k) (near 0) lb).2 R' O := by
  have hgm : gm < W.heap.size := (Array.getElem?_eq_some_iff.1 h.box).1
  have := rprog_any h.ref (fun q hq => by rcases hq with h1 | h1; exact h.dev.lim q h1; omega) (by have := h.bdM.acts; omega) (by have := h.bdM.offs; omega) h.mask h.left (near k) (near 0) A nb cap lb hy hl8
  refine this.mono ?_
  rintro e w' ⟨R', rfl, hr, hb, hm, hl⟩
  have hbox := blk_below h.box hb
  refine ⟨R', _, rfl, hbox, hb, ?_⟩
  have so := sets_out (Q := fun k => k = gm) rfl (R'.cells (N.prog (near k) (near 0) lb).2).toList w' w' 0 (Out.refl _ _)
  have hd := h.dev.below hb
  exact { dev := hd.outQ so (fun q hq e => h.ng (by rw [← show q = gm from e]; exact hq)), ref := hr.out (so.wide (fun q hq => .inr hq)), box := by { have := sets_at hbox (R'.cells (N.prog (near k) (near 0) lb).2).toList rfl; simpa using this }, ng := h.ng, ge := h.ge, gg := h.gg, bd := h.bdN, S := h.S, Z := h.Z, D := h.D,
          mask := by rw [hm]; exact h.mask, left := Nat.le_trans hl h.left, below := (Base.tr h.below hb).trans (so.base (fun q hq => by rw [show q = gm from hq]; exact h.gg) (Base.tr h.below hb).size) }
end Go.Proofs.YtokpoogcoeodkaaGreatDoor

