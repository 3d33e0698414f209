/- An operation of the law, of any kind; how far a device's counts go. -/
import Derived.Test.YteieaelinkdahaaNorD06
import Derived.Test.YteieaelinkdahaaNorDD
import Derived.Test.YteieaelinkdahaaNorD27
import Derived.Test.YteieaelinkdahaaNorD89
namespace Go.Proofs.Yteieaelinkdahaa
open Go.RowKit Flo

theorem do_any {O E : Nat → Prop} {w : World} {N M : Nor} {R : RV} {o : OpV} {lb : List Nat} (h : DoFit O E w N M R o lb) : Calls Try.prog 37 #[ptrD N, R.val M, o.val] w (DoPost O E w N M o lb) := by
  by_cases h0 : o.kind = 0
  · exact do0_any h h0
  by_cases h1 : o.kind = 1
  · exact do1_any h h1
  by_cases h2 : o.kind = 2
  · cases hoff : M.off
    · cases hwi : withinB M.S M.Z (ofPl o.sector o.offset).1 (ofPl o.sector o.offset).2 o.n
      · exact do2_out h h2 hoff hwi
      · by_cases hA : ∀ (k : Nat) ad n c, part? (ofPl o.sector o.offset).1 = some k → R.rows[k]? = some (.slice ad n c) → part? (ofPl o.sector o.offset).2 = some c
        · exact do2_inA h h2 hoff hwi hA
        · refine do2_inB h h2 hoff hwi ?_
          intro k ad n c hk hr hc
          refine hA fun k' ad' n' c' hk' hr' => ?_
          rw [hk] at hk'
          injection hk' with e
          subst e
          rw [hr] at hr'
          injection hr' with e
          injection e with _ _ e
          subst e
          exact hc
    · exact do2_off h h2 hoff
  by_cases h3 : o.kind = 3
  · exact do3_any h h3
  by_cases h4 : o.kind = 4
  · exact do4_any h h4
  by_cases h5 : o.kind = 5
  · exact do5_any h h5
  · exact do6_any h h0 h1 h2 h3 h4 h5

theorem act_S (N : Nor) (s p n : Nat) (upd : Nat → Nat → Nat → Nat) : (N.act s p n upd).2.S = N.S ∧ (N.act s p n upd).2.Z = N.Z ∧ (N.act s p n upd).2.wear = N.wear ∧ (N.act s p n upd).2.bad = N.bad ∧ (N.act s p n upd).2.D = N.D := by
  unfold Nor.act
  split
  · exact ⟨rfl, rfl, rfl, rfl, rfl⟩
  · split <;> exact ⟨rfl, rfl, rfl, rfl, rfl⟩
theorem act_Bd {N : Nor} {j : Nat} (h : Bd N j) (s p n : Nat) (upd : Nat → Nat → Nat → Nat) : Bd (N.act s p n upd).2 (j + 1) := by
  have h1 := h.acts
  have h2 := h.offs
  have hw : ∀ n ∈ N.wear, n ≤ j + 1 := fun n hn => by have := h.wear n hn; omega
  unfold Nor.act
  split
  · rename_i hc
    exact ⟨by show N.acts + 1 ≤ _; omega, by show N.offs ≤ _; omega, hw, fun c hq => by rw [show _ = N.cut from rfl, hc] at hq; cases hq⟩
  · rename_i c b m hc
    have h3 := h.cut _ hc
    split
    · exact ⟨by show N.acts + 1 ≤ _; omega, by show N.offs ≤ _; omega, hw, fun c' hq => by injection hq with hq; subst hq; show c - 1 ≤ _; have : c ≤ 9223372036854775807 := h3; omega⟩
    · exact ⟨by show N.acts + 1 ≤ _; omega, by show N.offs + 1 ≤ _; omega, hw, fun c' hq => by cases hq⟩
theorem doo_S (N : Nor) (o : OpV) (lb : List Nat) (g : Nat) : (N.doo o lb g).S = N.S ∧ (N.doo o lb g).Z = N.Z ∧ (N.doo o lb g).D = N.D := by
  have ha := fun (N : Nor) s p n upd => act_S N s p n upd
  unfold Nor.doo
  split
  · unfold Nor.prog
    split
    · exact ⟨rfl, rfl, rfl⟩
    · split
      · exact ⟨rfl, rfl, rfl⟩
      · split
        · exact ⟨rfl, rfl, rfl⟩
        · split
          · exact ⟨rfl, rfl, rfl⟩
          · obtain ⟨h1, h2, _, _, h5⟩ := ha N ((part? (ofPl o.sector o.offset).1).getD 0) ((part? (ofPl o.sector o.offset).2).getD 0) lb.length (fun i m old => pUp (lb.getD i 0) m old)
            exact ⟨h1, h2, h5⟩
  · split
    · unfold Nor.erase
      split
      · exact ⟨rfl, rfl, rfl⟩
      · split
        · exact ⟨rfl, rfl, rfl⟩
        · split
          · exact ⟨rfl, rfl, rfl⟩
          · obtain ⟨h1, h2, _, _, h5⟩ := ha { N with wear := N.wear.set o.sector.toNat (N.wear.getD o.sector.toNat 0 + 1) } o.sector.toNat 0 N.Z (fun _ m old => eUp m old)
            exact ⟨h1, h2, h5⟩
    · split
      · exact ⟨rfl, rfl, rfl⟩
      · split
        · exact ⟨rfl, rfl, rfl⟩
        · split
          · unfold Nor.turn; split <;> exact ⟨rfl, rfl, rfl⟩
          · split <;> exact ⟨rfl, rfl, rfl⟩
theorem Bd.mono {N : Nor} {i j : Nat} (h : Bd N i) (hij : i ≤ j) : Bd N j := ⟨Nat.le_trans h.acts hij, Nat.le_trans h.offs hij, fun n hn => Nat.le_trans (h.wear n hn) hij, h.cut⟩
theorem doo_Bd {N : Nor} {j : Nat} (h : Bd N j) (o : OpV) (lb : List Nat) (g : Nat) (h64 : o.n ≤ 9223372036854775807) : Bd (N.doo o lb g) (j + 1) := by
  have hm := h.mono (Nat.le_succ j)
  unfold Nor.doo
  split
  · unfold Nor.prog
    split
    · exact hm
    · split
      · exact hm
      · split
        · exact hm
        · split
          · exact hm
          · exact act_Bd h _ _ _ _
  · split
    · unfold Nor.erase
      split
      · exact hm
      · split
        · exact hm
        · split
          · exact hm
          · have hx : N.wear.getD o.sector.toNat 0 ≤ j := by
              rw [List.getD_eq_getElem?_getD]
              cases hq : N.wear[o.sector.toNat]? with
              | none => exact Nat.zero_le _
              | some x => exact h.wear x (List.mem_of_getElem? hq)
            obtain ⟨q1, q2, q3, _, _⟩ := act_S { N with wear := N.wear.set o.sector.toNat (N.wear.getD o.sector.toNat 0 + 1) } o.sector.toNat 0 N.Z (fun _ m old => eUp m old)
            have hb0 : Bd { N with wear := [] } j := ⟨h.acts, h.offs, (fun n hn => by cases hn), h.cut⟩
            have hb1 := act_Bd hb0 o.sector.toNat 0 N.Z (fun _ m old => eUp m old)
            have hsame : ∀ (W : List Nat), (Nor.act { N with wear := W } o.sector.toNat 0 N.Z (fun _ m old => eUp m old)).2 = { (Nor.act { N with wear := [] } o.sector.toNat 0 N.Z (fun _ m old => eUp m old)).2 with wear := W } := by
              intro W
              unfold Nor.act
              cases hc : N.cut with
              | none => rfl
              | some c =>
                obtain ⟨c, b, m⟩ := c
                show (if 0 < c then _ else _ : Nat × Nor).2 = { (if 0 < c then _ else _ : Nat × Nor).2 with wear := W }
                split <;> rfl
            rw [hsame]
            refine ⟨hb1.acts, hb1.offs, fun n hn => ?_, hb1.cut⟩
            rcases List.mem_or_eq_of_mem_set hn with h1 | h1
            · have := h.wear n h1; omega
            · omega
    · split
      · exact hm
      · split
        · exact ⟨hm.acts, hm.offs, hm.wear, fun c hc => by injection hc with hc; subst hc; show o.n.toNat ≤ _; omega⟩
        · split
          · unfold Nor.turn
            split
            · exact hm
            · exact ⟨hm.acts, by have := h.offs; show N.offs + 1 ≤ _; omega, hm.wear, fun c hc => by cases hc⟩
          · split
            · exact ⟨hm.acts, hm.offs, hm.wear, hm.cut⟩
            · exact ⟨hm.acts, hm.offs, hm.wear, hm.cut⟩
end Go.Proofs.Yteieaelinkdahaa

/- Does a device show the document's? -/
namespace Go.Proofs.Yteieaelinkdahaa
open Go.RowKit Flo

theorem part_near {n : Nat} (h : n ≤ 2147483647) : part? (near n) = some n := part_some (nearest_Whole h)
theorem ofPl_in {a b : Nat} (ha : a ≤ 2147483647) (hb : b ≤ 2147483647) : ofPl a b = (near a, near b) := by unfold ofPl; rw [if_neg (by omega)]
theorem got_row {N : Nor} {s : Nat} {l : List Nat} (hoff : N.off = false) (hl : N.data[s]? = some l) (hs : s < N.S) (hS : N.S ≤ 64) (hll : l.length = N.Z) : N.got (near s) (near 0) N.Z = (l, 0) := by
  unfold Nor.got
  have h0 : part? (near 0) = some 0 := part_near (n := 0) (by decide)
  have h1 := part_near (n := s) (by omega)
  rw [if_neg (by rw [hoff]; decide), within_yes h1 h0, if_pos (by simp; omega), h1, h0]
  have : N.data.getD s [] = l := by rw [List.getD_eq_getElem?_getD, hl]; rfl
  show (((N.data.getD s []).drop 0).take ((N.Z : Int)).toNat, 0) = _
  rw [this, List.drop_zero, Int.toNat_natCast, ← hll, List.take_length]

set_option maxHeartbeats 4000000 in
set_option maxRecDepth 100000 in
theorem same_any {O : Nat → Prop} {w : World} {N : Nor} {R : RV} (hd : DevR O w N) (hr : RefR O w R N) : Calls Try.prog 40 #[ptrD N, R.val N] w fun e w' => e = .returned (.bool true) ∧ Out O w w' := by
  have lim := hd.lim
  have hgeo := geoB_yes hd.geo
  have lb0 : Hid (Below w.heap.size w (w.alloc (.cells #[i64 N.S, i64 N.Z, .slice R.dA N.S R.dc, .slice R.wA N.S R.wc, .slice R.bA N.S R.bc, .bool N.off, i64 N.offs, i64 N.acts, .bool N.cut.isSome, i64 R.left, i64 R.whole, .int .u8 R.mask] 71))) := Lib.hid (Base.al (Below.refl _ _) _)
  have bb0 : Hid ((w.alloc (.cells #[i64 N.S, i64 N.Z, .slice R.dA N.S R.dc, .slice R.wA N.S R.wc, .slice R.bA N.S R.bc, .bool N.off, i64 N.offs, i64 N.acts, .bool N.cut.isSome, i64 R.left, i64 R.whole, .int .u8 R.mask] 71)).heap[w.heap.size]? = some (Obj.cells #[i64 N.S, i64 N.Z, .slice R.dA N.S R.dc, .slice R.wA N.S R.wc, .slice R.bA N.S R.bc, .bool N.off, i64 N.offs, i64 N.acts, .bool N.cut.isSome, i64 R.left, i64 R.whole, .int .u8 R.mask] 71 (0, 0))) := Lib.hid (blk_new _ _)
  show Calls Try.prog 40 #[ptrD N, .agg #[i64 N.S, i64 N.Z, .slice R.dA N.S R.dc, .slice R.wA N.S R.wc, .slice R.bA N.S R.bc, .bool N.off, i64 N.offs, i64 N.acts, .bool N.cut.isSome, i64 R.left, i64 R.whole, .int .u8 R.mask]] w _
  go_enter Try.func40, Try.ntmps40
  go_wp2_with fail
  generalize w.alloc _ = x2 at *
  have hd2 := hd.below lb0.out
  have hw1 : N.wearAt (-1) = 0 := by unfold Nor.wearAt; rw [if_neg (by omega)]
  have hw2 : N.wearAt N.S = 0 := by unfold Nor.wearAt; rw [if_neg (by omega)]
  have C1 := fun q : OnOf x2 => Lib.hid (isOn_any (hd2.below q.h))
  have C2 := fun q : OnOf x2 => Lib.hid (offs_any (hd2.below q.h))
  have C3 := fun q : OnOf x2 => Lib.hid (acts_any (hd2.below q.h))
  have C4 := fun q : OnOf x2 => Lib.hid (geom_any (hd2.below q.h))
  have C5 : ∀ q : OnOf x2, Hid (Gives 18 #[ptrD N, i64 (-1)] q.v (i64 0)) := fun q => Lib.hid (by have := wear_any (hd2.below q.h) (-1); rw [hw1] at this; exact this)
  have C6 : ∀ q : OnOf x2, Hid (Gives 18 #[ptrD N, i64 N.S] q.v (i64 0)) := fun q => Lib.hid (by have := wear_any (hd2.below q.h) N.S; rw [hw2] at this; exact this)
  have fd := cell_blk bb0.out
  have f0 : x2.cell? ⟨w.heap.size, 0, none⟩ = some (i64 N.S) := fd 0
  have f1 : x2.cell? ⟨w.heap.size, 1, none⟩ = some (i64 N.Z) := fd 1
  have f2 : x2.cell? ⟨w.heap.size, 2, none⟩ = some (.slice R.dA N.S R.dc) := fd 2
  have f3 : x2.cell? ⟨w.heap.size, 3, none⟩ = some (.slice R.wA N.S R.wc) := fd 3
  have f4 : x2.cell? ⟨w.heap.size, 4, none⟩ = some (.slice R.bA N.S R.bc) := fd 4
  have f5 : x2.cell? ⟨w.heap.size, 5, none⟩ = some (.bool N.off) := fd 5
  have f6 : x2.cell? ⟨w.heap.size, 6, none⟩ = some (i64 N.offs) := fd 6
  have f7 : x2.cell? ⟨w.heap.size, 7, none⟩ = some (i64 N.acts) := fd 7
  have f8 : x2.cell? ⟨w.heap.size, 8, none⟩ = some (.bool N.cut.isSome) := fd 8
  have f9 : x2.cell? ⟨w.heap.size, 9, none⟩ = some (i64 R.left) := fd 9
  have f10 : x2.cell? ⟨w.heap.size, 10, none⟩ = some (i64 R.whole) := fd 10
  have f11 : x2.cell? ⟨w.heap.size, 11, none⟩ = some (.int .u8 R.mask) := fd 11
  have zd : w.heap.size < x2.heap.size := (Array.getElem?_eq_some_iff.1 bb0.out).1
  clear fd
  have q0 := fun q => on_cell (w := x2) zd f0 q
  have q1 := fun q => on_cell (w := x2) zd f1 q
  have q2 := fun q => on_cell (w := x2) zd f2 q
  have q3 := fun q => on_cell (w := x2) zd f3 q
  have q4 := fun q => on_cell (w := x2) zd f4 q
  have q5 := fun q => on_cell (w := x2) zd f5 q
  have q6 := fun q => on_cell (w := x2) zd f6 q
  have q7 := fun q => on_cell (w := x2) zd f7 q
  have q8 := fun q => on_cell (w := x2) zd f8 q
  have q9 := fun q => on_cell (w := x2) zd f9 q
  have q10 := fun q => on_cell (w := x2) zd f10 q
  have q11 := fun q => on_cell (w := x2) zd f11 q
  clear hw1 hw2
  have on0 := @on_rd0; have on1 := @on_rd1; have on2 := @on_rd2; have on3 := @on_new1; have on4 := @on_new2
  refine wp_region_quiet_on (by kernel_rfl) (by kernel_rfl) ?_
  repeat ((with_reducible refine wpQuiet_step (fun K hK => ?_)); go_simp; first | ((with_reducible refine hK _ ?_); clear hK K) | (rw [if_neg (by intro h; cases h)]; (with_reducible refine hK _ ?_); clear hK K) | (apply Exists.intro; refine ⟨fun _ => ?_, hK _ ?_⟩; (first | (with_reducible exact on_of_same (C1 _).out) | (with_reducible exact on_of_same (C2 _).out) | (with_reducible exact on_of_same (C3 _).out) | (with_reducible exact on_of (C4 _).out) | (with_reducible exact on_of_same (C5 _).out) | (with_reducible exact on_of_same (C6 _).out)); clear hK K))
  clear on0 on1 on2 on3 on4
  with_reducible refine wpQuiet_nil ?_
  intro _ hw'
  obtain ⟨pq, hw''⟩ := hw'
  subst hw''
  have hd3 := hd2.below pq.h
  have B3 := Lib.hid (Base.tr lb0.out pq.h)
  have bb3 := Lib.hid (blk_below bb0.out pq.h)
  clear C1 C2 C3 C4 C5 C6 q0 q1 q2 q3 q4 q5 q6 q7 q8 q9 q10 q11 f0 f1 f2 f3 f4 f5 f6 f7 f8 f9 f10 f11 zd bb0 lb0
  generalize pq.v = x3 at *
  have fd := cell_blk bb3.out
  have f0 : x3.cell? ⟨w.heap.size, 0, none⟩ = some (i64 N.S) := fd 0
  have f1 : x3.cell? ⟨w.heap.size, 1, none⟩ = some (i64 N.Z) := fd 1
  have f2 : x3.cell? ⟨w.heap.size, 2, none⟩ = some (.slice R.dA N.S R.dc) := fd 2
  have f3 : x3.cell? ⟨w.heap.size, 3, none⟩ = some (.slice R.wA N.S R.wc) := fd 3
  have f4 : x3.cell? ⟨w.heap.size, 4, none⟩ = some (.slice R.bA N.S R.bc) := fd 4
  have f5 : x3.cell? ⟨w.heap.size, 5, none⟩ = some (.bool N.off) := fd 5
  have f6 : x3.cell? ⟨w.heap.size, 6, none⟩ = some (i64 N.offs) := fd 6
  have f7 : x3.cell? ⟨w.heap.size, 7, none⟩ = some (i64 N.acts) := fd 7
  have f8 : x3.cell? ⟨w.heap.size, 8, none⟩ = some (.bool N.cut.isSome) := fd 8
  have f9 : x3.cell? ⟨w.heap.size, 9, none⟩ = some (i64 R.left) := fd 9
  have f10 : x3.cell? ⟨w.heap.size, 10, none⟩ = some (i64 R.whole) := fd 10
  have f11 : x3.cell? ⟨w.heap.size, 11, none⟩ = some (.int .u8 R.mask) := fd 11
  have zd : w.heap.size < x3.heap.size := (Array.getElem?_eq_some_iff.1 bb3.out).1
  clear fd
  have CO := Lib.hid (on_any hd3)
  go_wp2_with fail
  refine CO.out.mono ?_; rintro e x4 ⟨rfl, hx4⟩
  have hd4 := hd3.on
  rw [← hx4] at hd4
  have ho4 : Out O x3 x4 := by rw [hx4]; exact (Out.refl O x3).set hd3.ownD _ _
  have bb4 := Lib.hid (ho4.blk bb3.out (fun hq => Nat.lt_irrefl _ (lim _ hq)))
  have hr4 := hr.out ((Out.of_below B3.out).trans ho4)
  have O4 : Hid (Out O w x4) := Lib.hid ((Out.of_below B3.out).trans ho4)
  clear hx4 CO ho4 B3 bb3 hd3 f0 f1 f2 f3 f4 f5 f6 f7 f8 f9 f10 f11 zd hd2
  have fd := cell_blk bb4.out
  have f0 : x4.cell? ⟨w.heap.size, 0, none⟩ = some (i64 N.S) := fd 0
  have f1 : x4.cell? ⟨w.heap.size, 1, none⟩ = some (i64 N.Z) := fd 1
  have f2 : x4.cell? ⟨w.heap.size, 2, none⟩ = some (.slice R.dA N.S R.dc) := fd 2
  have f3 : x4.cell? ⟨w.heap.size, 3, none⟩ = some (.slice R.wA N.S R.wc) := fd 3
  have f4 : x4.cell? ⟨w.heap.size, 4, none⟩ = some (.slice R.bA N.S R.bc) := fd 4
  have f5 : x4.cell? ⟨w.heap.size, 5, none⟩ = some (.bool N.off) := fd 5
  have f6 : x4.cell? ⟨w.heap.size, 6, none⟩ = some (i64 N.offs) := fd 6
  have f7 : x4.cell? ⟨w.heap.size, 7, none⟩ = some (i64 N.acts) := fd 7
  have f8 : x4.cell? ⟨w.heap.size, 8, none⟩ = some (.bool N.cut.isSome) := fd 8
  have f9 : x4.cell? ⟨w.heap.size, 9, none⟩ = some (i64 R.left) := fd 9
  have f10 : x4.cell? ⟨w.heap.size, 10, none⟩ = some (i64 R.whole) := fd 10
  have f11 : x4.cell? ⟨w.heap.size, 11, none⟩ = some (.int .u8 R.mask) := fd 11
  have zd : w.heap.size < x4.heap.size := (Array.getElem?_eq_some_iff.1 bb4.out).1
  clear fd
  go_wp2_with fail
  clear f0 f1 f2 f3 f4 f5 f6 f7 f8 f9 f10 f11 zd
  go_loopw [52] (fun i wr => ∃ j : Nat, j ≤ N.S ∧ i = .int .i64 j ∧ Below x4.heap.size x4 wr) (fun i _ => N.S - (intOf i).toNat)
  case atStart => exact ⟨0, Nat.zero_le _, rfl, Below.refl _ _⟩
  case round =>
    obtain ⟨j, hj, rfl, hb⟩ := hrel
    by_cases hlt : j < N.S
    · have hdr := hd4.below hb
      have bbr := blk_below bb4.out hb
      have hrr := hr4.below hb
      have hjd : j < N.data.length := by rw [hr.dl]; exact hlt
      obtain ⟨l, hl⟩ : ∃ l, N.data[j]? = some l := ⟨_, List.getElem?_eq_getElem hjd⟩
      have hll := (hr.all l (List.mem_of_getElem? hl)).1
      have P0 : ∀ W, Hid (Gives 10 #[i64 j, i64 0] W (cx (near j) (near 0))) := fun W => Lib.hid (of_in j 0 W (by omega) (by omega) (by omega) (by omega))
      have HRd : ∀ W, Below wr.heap.size wr W → Hid (Calls Try.prog 15 #[ptrD N, cx (near j) (near 0), i64 N.Z] W (ReadPost W l 0)) := by
        intro W hW
        have := read_any (hdr.below hW) (near j) (near 0) N.Z
        have hg : Nor.got { N with off := false } (near j) (near 0) N.Z = (l, 0) := got_row (N := { N with off := false }) rfl hl hlt (by show N.S ≤ 64; omega) hll
        rw [hg] at this
        exact Lib.hid this
      have fd := cell_blk bbr
      have f0 : wr.cell? ⟨w.heap.size, 0, none⟩ = some (i64 N.S) := fd 0
      have f1 : wr.cell? ⟨w.heap.size, 1, none⟩ = some (i64 N.Z) := fd 1
      have f2 : wr.cell? ⟨w.heap.size, 2, none⟩ = some (.slice R.dA N.S R.dc) := fd 2
      have f3 : wr.cell? ⟨w.heap.size, 3, none⟩ = some (.slice R.wA N.S R.wc) := fd 3
      have f4 : wr.cell? ⟨w.heap.size, 4, none⟩ = some (.slice R.bA N.S R.bc) := fd 4
      have f5 : wr.cell? ⟨w.heap.size, 5, none⟩ = some (.bool N.off) := fd 5
      have f6 : wr.cell? ⟨w.heap.size, 6, none⟩ = some (i64 N.offs) := fd 6
      have f7 : wr.cell? ⟨w.heap.size, 7, none⟩ = some (i64 N.acts) := fd 7
      have f8 : wr.cell? ⟨w.heap.size, 8, none⟩ = some (.bool N.cut.isSome) := fd 8
      have f9 : wr.cell? ⟨w.heap.size, 9, none⟩ = some (i64 R.left) := fd 9
      have f10 : wr.cell? ⟨w.heap.size, 10, none⟩ = some (i64 R.whole) := fd 10
      have f11 : wr.cell? ⟨w.heap.size, 11, none⟩ = some (.int .u8 R.mask) := fd 11
      have zd : w.heap.size < wr.heap.size := (Array.getElem?_eq_some_iff.1 bbr).1
      clear fd
      have q1 := fun q => on_cell (w := wr) zd f1 q
      have B0 := Lib.hid hb
      clear hb
      go_wp2_with fail
      refine wp_region_po (fun w' => ∃ p : OnOf wr, w' = p.v) 12 [2, 6] (by kernel_rfl) (by kernel_rfl) ⟨⟨_, Base.dr (Below.refl _ _)⟩, rfl⟩ ?_
      simp only [List.take_succ_cons, List.take_zero, List.drop_succ_cons, List.drop_zero]
      have on0 := @on_rd0; have on1 := @on_rd1; have on2 := @on_rd2; have on3 := @on_new1; have on4 := @on_new2; have on5 := @gr_rd0
      repeat ((with_reducible refine seq_read ?_ ?_); (focus rfl); (intro K hK); (unfold readsAt); go_simp; first | ((with_reducible refine hK _ ?_); clear hK K) | (rw [if_neg (by intro h; cases h)]; (with_reducible refine hK _ ?_); clear hK K))
      refine seq_eff (by rfl) (by first | rfl | go_simp) ?_
      intro K hK
      unfold effAt2
      go_simp
      refine ⟨rfl, (P0 _).out.mono ?_⟩; rintro e x5 ⟨rfl, rfl⟩
      refine ⟨_, rfl, ⟨⟨_, Base.dr (Below.refl _ _)⟩, rfl⟩, hK _ _ ?_⟩
      clear hK K
      repeat ((with_reducible refine seq_read ?_ ?_); (focus rfl); (intro K hK); (unfold readsAt); go_simp; first | ((with_reducible refine hK _ ?_); clear hK K) | (rw [if_neg (by intro h; cases h)]; (with_reducible refine hK _ ?_); clear hK K))
      refine seq_eff (by rfl) (by first | rfl | go_simp) ?_
      intro K hK
      unfold effAt2
      go_simp
      refine ⟨rfl, (HRd _ (Base.dr (Below.refl _ _))).out.mono ?_⟩; rintro e x6 ⟨v, rfl, hown, hb6⟩
      obtain ⟨va, vc, rfl⟩ := own_val hown
      refine ⟨_, rfl, ⟨⟨_, Base.tr (Base.dr (Below.refl _ _)) hb6⟩, rfl⟩, hK _ _ ?_⟩
      clear hK K
      repeat ((with_reducible refine seq_read ?_ ?_); (focus rfl); (intro K hK); (unfold readsAt); go_simp; first | ((with_reducible refine hK _ ?_); clear hK K) | (rw [if_neg (by intro h; cases h)]; (with_reducible refine hK _ ?_); clear hK K))
      clear on0 on1 on2 on3 on4 on5
      with_reducible refine seq_nil ?_
      have B6 := Lib.hid (Base.tr (Base.dr (Below.refl wr.heap.size wr)) hb6)
      have hvb : Byt x6 (.slice va l.length vc) l := by
        have := own_Sl (xs := l.map bv) (by rw [List.length_map]; exact hown)
        rw [List.map_map] at this
        exact this
      have hr6 := hrr.below B6.out
      have hd6 := hdr.below B6.out
      have bb6 := blk_below bbr B6.out
      have hjr : j < R.rows.length := by rw [hr.len]; exact hlt
      obtain ⟨r, hrj⟩ : ∃ r, R.rows[j]? = some r := ⟨_, List.getElem?_eq_getElem hjr⟩
      obtain ⟨hby, _, ad, rn, rc, rfl⟩ := hr6.row j r l hrj hl
      obtain ⟨db, doff, hdA, hdb, hdx⟩ := hr6.data.at (by omega)
      have hcr : x6.cell? ⟨db, doff + j, none⟩ = some (.slice (some ad) rn rc) := by
        have := (hdx j [.slice (some ad) rn rc] (by rw [List.getElem?_map, hrj]; rfl)).2 0 _ rfl
        simpa using this
      have hwl : (N.wear.map fun n : Nat => (n : Int)).length = N.S := by rw [List.length_map]; exact hr.wl
      obtain ⟨wb, woff, hwA, hwb, hwx⟩ := Ints.cell hr6.wear (k := j) (by omega)
      have hjw : j < N.wear.length := by rw [hr.wl]; exact hlt
      have hcw : x6.cell? ⟨wb, woff + j, none⟩ = some (i64 (N.wear.getD j 0 : Nat)) := by
        rw [hwx j (by omega)]
        simp [hjw]
      have hwv : Nor.wearAt { N with off := false } j = N.wear.getD j 0 := by
        unfold Nor.wearAt
        rw [if_pos ⟨by omega, by show (j : Int) < (N.S : Int); omega⟩]
        rfl
      have C7 : ∀ q : OnOf x6, Hid (Gives 18 #[ptrD N, i64 j] q.v (i64 (N.wear.getD j 0 : Nat))) := fun q => Lib.hid (by have := wear_any (hd6.below q.h) (j : Int); rw [hwv] at this; exact this)
      obtain ⟨wv, hwvx⟩ : ∃ wv, N.wear.getD j 0 = wv := ⟨_, rfl⟩
      rw [hwvx] at hcw C7
      clear hwv hwvx hwx hdx HRd P0 q1 f0 f1 f2 f3 f4 f5 f6 f7 f8 f9 f10 f11 zd hown hb6
      have fd := cell_blk bb6
      have f0 : x6.cell? ⟨w.heap.size, 0, none⟩ = some (i64 N.S) := fd 0
      have f1 : x6.cell? ⟨w.heap.size, 1, none⟩ = some (i64 N.Z) := fd 1
      have f2 : x6.cell? ⟨w.heap.size, 2, none⟩ = some (.slice R.dA N.S R.dc) := fd 2
      have f3 : x6.cell? ⟨w.heap.size, 3, none⟩ = some (.slice R.wA N.S R.wc) := fd 3
      have f4 : x6.cell? ⟨w.heap.size, 4, none⟩ = some (.slice R.bA N.S R.bc) := fd 4
      have f5 : x6.cell? ⟨w.heap.size, 5, none⟩ = some (.bool N.off) := fd 5
      have f6 : x6.cell? ⟨w.heap.size, 6, none⟩ = some (i64 N.offs) := fd 6
      have f7 : x6.cell? ⟨w.heap.size, 7, none⟩ = some (i64 N.acts) := fd 7
      have f8 : x6.cell? ⟨w.heap.size, 8, none⟩ = some (.bool N.cut.isSome) := fd 8
      have f9 : x6.cell? ⟨w.heap.size, 9, none⟩ = some (i64 R.left) := fd 9
      have f10 : x6.cell? ⟨w.heap.size, 10, none⟩ = some (i64 R.whole) := fd 10
      have f11 : x6.cell? ⟨w.heap.size, 11, none⟩ = some (.int .u8 R.mask) := fd 11
      have zd : w.heap.size < x6.heap.size := (Array.getElem?_eq_some_iff.1 bb6).1
      clear fd
      rw [hdA] at f2
      rw [hwA] at f3
      have q2 := fun q => on_cell (w := x6) zd f2 q
      have q3 := fun q => on_cell (w := x6) zd f3 q
      have qr := fun q => on_cell (w := x6) hdb hcr q
      have qw := fun q => on_cell (w := x6) hwb hcw q
      rw [hll] at hvb
      have kv := fun q : OnOf x6 => conv_any (Sl.below hvb q.h)
      have kr := fun q : OnOf x6 => conv_any (Sl.below hby q.h)
      clear hdA hwA hrr hdr hr6 hd6 hvb hby hrj f0 f1 f2 f3 f4 f5 f6 f7 f8 f9 f10 f11 zd hwl
      go_wp2_with fail
      have on0 := @on_rd0; have on1 := @on_rd1; have on2 := @on_rd2; have on3 := @on_new1; have on4 := @on_new2
      refine wp_region_quiet_on (by kernel_rfl) (by kernel_rfl) ?_
      repeat ((with_reducible refine wpQuiet_step (fun K hK => ?_)); go_simp; first | ((with_reducible refine hK _ ?_); clear hK K) | (rw [if_neg (by intro h; cases h)]; (with_reducible refine hK _ ?_); clear hK K) | (apply Exists.intro; refine ⟨fun _ => ?_, hK _ ?_⟩; (with_reducible exact on_of_same (C7 _).out); clear hK K))
      clear on0 on1 on2 on3 on4
      with_reducible refine wpQuiet_nil ?_
      intro _ hw'
      obtain ⟨pq, hw''⟩ := hw'
      subst hw''
      have B9 := Base.tr (Base.tr B0.out B6.out) pq.h
      clear q2 q3 qr qw kv kr C7 hcr hcw
      go_wp2_with fail
      exact ⟨⟨j + 1, by omega, by go_num, B9⟩, by simp [intOf]; omega⟩
    · obtain rfl : j = N.S := by omega
      go_wp2_with fail
      go_ret
      exact ⟨rfl, O4.out.then hb⟩
end Go.Proofs.Yteieaelinkdahaa

/- A row of operations under way: the device and the document's stand side by side. -/
namespace Go.Proofs.Yteieaelinkdahaa
open Go.RowKit Flo

theorem mul_in {s z : Int} (hg : geoB s z = true) : 0 ≤ s * z ∧ s * z ≤ 64 * 4096 := by
  obtain ⟨q1, q2, q3, q4⟩ := geoB_yes hg
  exact ⟨Int.mul_nonneg (by omega) (by omega), Int.mul_le_mul q2 q4 (by omega) (by omega)⟩
def smallB (s z : Int) : Bool := geoB s z && decide (s * z ≤ 20000)
set_option maxHeartbeats 2000000 in
set_option maxRecDepth 100000 in
theorem small_any (s z : Int) (w : World) : Makes 33 #[geo s z] w (.bool (smallB s z)) := by
  have g0 := fun W => Lib.hid (rMay_any s z W)
  unfold smallB
  cases hg : geoB s z
  · rw [hg] at g0
    go_enter Try.func33, Try.ntmps33
    go_wp2_with fail
    refine (g0 _).out.mono ?_; rintro e x1 ⟨rfl, hb1⟩
    go_wp2_with fail
    go_ret
    exact ⟨rfl, Base.tr (Base.al (Below.refl _ _) _) hb1⟩
  · obtain ⟨h1, h2⟩ := mul_in hg
    rw [hg] at g0
    clear hg
    go_enter Try.func33, Try.ntmps33
    go_wp2_with fail
    refine (g0 _).out.mono ?_; rintro e x1 ⟨rfl, hb1⟩
    have hB := blk_below (blk_new w (.cells #[i64 s, i64 z] 41)) hb1
    have z0 : w.heap.size < x1.heap.size := (Array.getElem?_eq_some_iff.1 hB).1
    have e0 : x1.cell? ⟨w.heap.size, 0, none⟩ = some (i64 s) := cell_blk hB 0
    have e1 : x1.cell? ⟨w.heap.size, 1, none⟩ = some (i64 z) := cell_blk hB 1
    have hw2 : wrap64 (s * z) = s * z := by unfold wrap64; omega
    have hw3 : IntKind.i64.wrap (s * z) = s * z := by rw [IntKind.wrap_i64]; omega
    clear h1 h2
    go_wp2_with fail
    go_ret
    exact ⟨retB (by simp), Base.tr (Base.al (Below.refl _ _) _) hb1⟩

/-- An operation that came in. -/
structure OpIn (w : World) (o : OpV) (lb : List Nat) : Prop where
  bytes : Byt w (.slice o.A o.bn o.bc) lb
  lt : ∀ x ∈ lb, x < 256
  mask : o.mask < 256
  n64 : -9223372036854775808 ≤ o.n ∧ o.n ≤ 9223372036854775807
  k64 : -9223372036854775808 ≤ o.k ∧ o.k ≤ 9223372036854775807
theorem OpIn.len {w : World} {o : OpV} {lb : List Nat} (h : OpIn w o lb) : o.bn = lb.length := by have := h.bytes.len; rwa [List.length_map] at this
theorem OpIn.fit {w W : World} {o : OpV} {lb : List Nat} {O : Nat → Prop} (h : OpIn w o lb) (hb : Below w.heap.size w W) (hO : ∀ k, O k → w.heap.size ≤ k) (hs : lb.length ≤ 6000) : OpFit O W o lb where
  bytes := Sl.below h.bytes hb
  lt := h.lt
  far h0 := by
    intro b off n c he hq
    obtain ⟨b', off', hA, hlt, _⟩ := Byt.cell (n := o.bn) (cap := o.bc) (A := o.A) h.bytes h0
    injection he with he
    rw [hA] at he
    injection he with he
    injection he with he
    have := hO b hq
    omega
  small := hs
  n64 := h.n64
  k64 := h.k64
  mask := h.mask

/-- j operations are done. -/
structure PlaySt (w : World) (s z D0 gm : Nat) (W : World) (j : Nat) (N : Nor) (R : RV) (O : Nat → Prop) : Prop where
  dev : DevR O W N
  ref : RefR (fun k => O k ∨ k = gm) W R N
  box : W.heap[gm]? = some (Obj.cells (R.cells N) 71 (0, 0))
  ng : ¬ O gm
  ge : ∀ k, O k → w.heap.size ≤ k
  gg : w.heap.size ≤ gm
  bd : Bd N j
  S : N.S = s
  Z : N.Z = z
  D : N.D = D0
  mask : R.mask < 256
  left : R.left ≤ 9223372036854775807
  below : Below w.heap.size w W
theorem PlaySt.lt {w : World} {s z D0 gm : Nat} {W : World} {j : Nat} {N : Nor} {R : RV} {O : Nat → Prop} (h : PlaySt w s z D0 gm W j N R O) : gm < W.heap.size := (Array.getElem?_eq_some_iff.1 h.box).1
theorem RefR.cb {O : Nat → Prop} {w : World} {R : RV} {N : Nor} {o : OpV} {lb : List Nat} {g : Nat} (h : RefR O w R (N.doo o lb g)) : RefR O w R (N.doo o lb g) := h
theorem do_next {w : World} {s z D0 gm : Nat} {W : World} {j : Nat} {N : Nor} {R : RV} {O : Nat → Prop} (h : PlaySt w s z D0 gm W j N R O) (hj : j < 900) {o : OpV} {lb : List Nat} (ho : OpIn w o lb) (hs : lb.length ≤ 6000) :
    Calls Try.prog 37 #[.pointer (some ⟨D0, 0, none⟩), .agg (R.cells N), o.val] (W.alloc (.cells #[i64 o.kind, i64 o.sector, i64 o.offset, .slice o.A o.bn o.bc, i64 o.n, i64 o.k, bv o.mask] 24)) fun e w' => ∃ (R' : RV) (N' : Nor) (O' : Nat → Prop), e = .returned (.tuple #[.bool true, .agg (R'.cells N')]) ∧
      w'.heap[gm]? = some (Obj.cells (R.cells N) 71 (0, 0)) ∧ PlaySt w s z D0 gm (sets w' gm 0 (R'.cells N').toList) (j + 1) N' R' O' := by
  have hb1 : Below W.heap.size W (W.alloc (.cells #[i64 o.kind, i64 o.sector, i64 o.offset, .slice o.A o.bn o.bc, i64 o.n, i64 o.k, bv o.mask] 24)) := Base.al (Below.refl _ _) _
  have hgm := h.lt
  have fit : DoFit O (fun k => k = gm) (W.alloc (.cells #[i64 o.kind, i64 o.sector, i64 o.offset, .slice o.A o.bn o.bc, i64 o.n, i64 o.k, bv o.mask] 24)) N N R o lb :=
    ⟨h.dev.below hb1, h.ref.below hb1, fun k hk => by subst hk; exact Nat.lt_of_lt_of_le hgm hb1.size, rfl, rfl, h.bd.mono (by omega), h.bd.mono (by omega), h.mask, h.left, ho.fit (Base.tr h.below hb1) h.ge hs⟩
  have hD := h.D
  have := do_any fit
  rw [show ptrD N = .pointer (some ⟨D0, 0, none⟩) by rw [← hD]] at this
  refine this.mono ?_
  rintro e w' ⟨bb, R', O', g, rfl, hbb, hd, hr, hout, hO', hm, hl⟩
  have hS := doo_S N o lb g
  have ng' : ¬ O' gm := fun hq => by
    rcases hO' gm hq with h1 | h1
    · exact h.ng h1
    · have := hb1.size; omega
  have hbox : w'.heap[gm]? = some (Obj.cells (R.cells N) 71 (0, 0)) := hout.blk (blk_below h.box hb1) h.ng
  refine ⟨R', N.doo o lb g, O', by rw [hbb rfl], hbox, ?_⟩
  have so := sets_out (Q := fun k => k = gm) rfl (R'.cells (N.doo o lb g)).toList w' w' 0 (Out.refl _ _)
  exact { dev := hd.outQ so (fun k hk e => ng' (by rw [← show k = gm from e]; exact hk)), ref := hr.out (so.wide (fun k hk => .inr hk)), box := by have := sets_at hbox (R'.cells (N.doo o lb g)).toList rfl; simpa using this, ng := ng',
          ge := fun k hk => by { rcases hO' k hk with h1 | h1; exact h.ge k h1; have := hb1.size; have := h.below.size; omega }, gg := h.gg, bd := doo_Bd h.bd o lb g ho.n64.2, S := by rw [hS.1]; exact h.S, Z := by rw [hS.2.1]; exact h.Z, D := by rw [hS.2.2]; exact h.D, mask := hm, left := hl,
          below := (Base.tr h.below hb1).trans ((hout.base h.ge (Base.tr h.below hb1).size).trans (so.base (fun k hk => by rw [show k = gm from hk]; exact h.gg) (Nat.le_trans (Base.tr h.below hb1).size hout.size))) }
end Go.Proofs.Yteieaelinkdahaa

/- Bits fall between erases: the plain law of NorFalls. -/
namespace Go.Proofs.Yteieaelinkdahaa
open Go.RowKit Flo

/-- Bits have fallen, and nothing else has changed but at n places from p on. -/
def FallsAt (l' l : List Nat) (p n : Nat) : Prop := ∀ (i x x' : Nat), l[i]? = some x → l'[i]? = some x' → (∃ y, x' = x &&& y) ∧ (x' = x ∨ p ≤ i ∧ i < p + n)
theorem FallsAt.refl (l : List Nat) (p n : Nat) (h8 : ∀ x ∈ l, x < 256) : FallsAt l l p n := by
  intro i x x' h1 h2
  rw [h1] at h2
  injection h2 with h2
  subst h2
  exact ⟨⟨255, (and255 (h8 x (List.mem_of_getElem? h1))).symm⟩, .inl rfl⟩
theorem FallsAt.set {l' l : List Nat} {p n j y : Nat} (h : FallsAt l' l p n) (hj : j < n) (hl : l'.length = l.length) : FallsAt (l'.set (p + j) ((l'.getD (p + j) 0) &&& y)) l p n := by
  intro i x x' h1 h2
  rw [List.getElem?_set] at h2
  by_cases he : p + j = i
  · subst he
    have hil := (List.getElem?_eq_some_iff.1 h1).1
    rw [if_pos rfl, if_pos (by omega)] at h2
    injection h2 with h2
    obtain ⟨x1, hx1⟩ : ∃ x1, l'[p + j]? = some x1 := ⟨_, List.getElem?_eq_getElem (by omega)⟩
    obtain ⟨⟨y1, hy1⟩, _⟩ := h _ _ _ h1 hx1
    rw [List.getD_eq_getElem?_getD, hx1] at h2
    refine ⟨⟨y1 &&& y, ?_⟩, .inr ⟨by omega, by omega⟩⟩
    rw [← h2]
    show x1 &&& y = _
    rw [hy1, Nat.and_assoc]
  · rw [if_neg he] at h2
    exact h i x x' h1 h2
theorem stepRow_falls (lb : List Nat) (p n : Nat) (l : List Nat) (h8 : ∀ x ∈ l, x < 256) : ∀ j, j ≤ n → FallsAt (stepRow (fun i m old => pUp (lb.getD i 0) m old) p l j) l p n
  | 0, _ => FallsAt.refl l p n h8
  | j + 1, hj => by
    unfold stepRow
    exact (stepRow_falls lb p n l h8 j (by omega)).set (by omega) (stepRow_len _ _ _ _)
theorem cutRow_falls (lb : List Nat) (p n : Nat) (l : List Nat) (h8 : ∀ x ∈ l, x < 256) (b m : Nat) : FallsAt (cutRow (fun i m old => pUp (lb.getD i 0) m old) p l n b m) l p n := by
  unfold cutRow
  split
  · exact (stepRow_falls lb p n l h8 b (by omega)).set (by omega) (stepRow_len _ _ _ _)
  · exact stepRow_falls lb p n l h8 n (Nat.le_refl _)
theorem act_row (N : Nor) (s p n : Nat) (upd : Nat → Nat → Nat → Nat) : ∃ row, (N.act s p n upd).2.data = N.data.set s row ∧ (row = stepRow upd p (N.data.getD s []) n ∨ ∃ b m, row = cutRow upd p (N.data.getD s []) n b m) := by
  unfold Nor.act
  split
  · exact ⟨_, rfl, .inl rfl⟩
  · split
    · exact ⟨_, rfl, .inl rfl⟩
    · exact ⟨_, rfl, .inr ⟨_, _, rfl⟩⟩
/-- What an operation may have changed. -/
def Falls (N N' : Nor) (o : OpV) (n k p : Nat) : Prop :=
  ∀ (s : Nat) (l l' : List Nat), N.data[s]? = some l → N'.data[s]? = some l' → ((s : Int) = o.sector ∧ N.wearAt o.sector < N'.wearAt o.sector) ∨
    (∀ (i x x' : Nat), l[i]? = some x → l'[i]? = some x' → (∃ y, x' = x &&& y) ∧ (x' = x ∨ o.kind = 0 ∧ s = k ∧ p ≤ i ∧ i < p + n))
theorem Falls.same {N N' : Nor} (o : OpV) (n k p : Nat) (h : N'.data = N.data) (h8 : ∀ l ∈ N.data, ∀ x ∈ l, x < 256) : Falls N N' o n k p := by
  intro s l l' h1 h2
  rw [h, h1] at h2
  injection h2 with h2
  subst h2
  refine .inr fun i x x' h3 h4 => ?_
  obtain ⟨h5, h6⟩ := FallsAt.refl l 0 0 (h8 l (List.mem_of_getElem? h1)) i x x' h3 h4
  exact ⟨h5, .inl (by rw [h3] at h4; injection h4 with h4; exact h4.symm)⟩
theorem doo_falls {O : Nat → Prop} {w : World} {N : Nor} (hd : DevR O w N) (o : OpV) (lb : List Nat) (g k p : Nat) (hk : part? (ofPl o.sector o.offset).1 = some k) (hp : part? (ofPl o.sector o.offset).2 = some p) : Falls N (N.doo o lb g) o lb.length k p := by
  have h8 : ∀ l ∈ N.data, ∀ x ∈ l, x < 256 := fun l hl => (hd.row l hl).2
  unfold Nor.doo
  split
  · rename_i h0
    unfold Nor.prog
    split
    · exact Falls.same _ _ _ _ rfl h8
    · split
      · exact Falls.same _ _ _ _ rfl h8
      · split
        · exact Falls.same _ _ _ _ rfl h8
        · split
          · exact Falls.same _ _ _ _ rfl h8
          · rw [hk, hp]
            simp only [Option.getD_some]
            obtain ⟨row, hrow, halt⟩ := act_row N k p lb.length (fun i m old => pUp (lb.getD i 0) m old)
            intro s l l' h1 h2
            rw [hrow, List.getElem?_set] at h2
            refine .inr ?_
            by_cases he : k = s
            · subst he
              have hkl := (List.getElem?_eq_some_iff.1 h1).1
              rw [if_pos rfl, if_pos hkl] at h2
              injection h2 with h2
              have hgd : N.data.getD k [] = l := by rw [List.getD_eq_getElem?_getD, h1]; rfl
              rw [hgd] at halt
              have hl8 := h8 l (List.mem_of_getElem? h1)
              have hf : FallsAt l' l p lb.length := by
                rw [← h2]
                rcases halt with h | ⟨b, m, h⟩
                · rw [h]; exact stepRow_falls lb p lb.length l hl8 _ (Nat.le_refl _)
                · rw [h]; exact cutRow_falls lb p lb.length l hl8 b m
              intro i x x' h3 h4
              obtain ⟨h5, h6⟩ := hf i x x' h3 h4
              exact ⟨h5, h6.imp id (fun h => ⟨h0, rfl, h⟩)⟩
            · rw [if_neg he, h1] at h2
              injection h2 with h2
              subst h2
              intro i x x' h3 h4
              obtain ⟨h5, _⟩ := FallsAt.refl l 0 0 (h8 l (List.mem_of_getElem? h1)) i x x' h3 h4
              exact ⟨h5, .inl (by rw [h3] at h4; injection h4 with h4; exact h4.symm)⟩
  · split
    · unfold Nor.erase
      split
      · exact Falls.same _ _ _ _ rfl h8
      · split
        · exact Falls.same _ _ _ _ rfl h8
        · rename_i hin
          split
          · exact Falls.same _ _ _ _ rfl h8
          · obtain ⟨row, hrow, _⟩ := act_row { N with wear := N.wear.set o.sector.toNat (N.wear.getD o.sector.toNat 0 + 1) } o.sector.toNat 0 N.Z (fun _ m old => eUp m old)
            obtain ⟨hS, _, hW, _, _⟩ := act_S { N with wear := N.wear.set o.sector.toNat (N.wear.getD o.sector.toNat 0 + 1) } o.sector.toNat 0 N.Z (fun _ m old => eUp m old)
            intro s l l' h1 h2
            rw [hrow, List.getElem?_set] at h2
            by_cases he : o.sector.toNat = s
            · refine .inl ⟨by omega, ?_⟩
              have hx : 0 ≤ o.sector ∧ o.sector < N.S := by omega
              have hwl : o.sector.toNat < N.wear.length := by rw [hd.wl]; omega
              unfold Nor.wearAt
              rw [if_pos hx, if_pos (by rw [hS]; exact hx), hW]
              simp only [List.getD_eq_getElem?_getD, List.getElem?_set_self hwl, Option.getD_some]
              omega
            · rw [if_neg he, h1] at h2
              injection h2 with h2
              subst h2
              refine .inr fun i x x' h3 h4 => ?_
              obtain ⟨h5, _⟩ := FallsAt.refl l 0 0 (h8 l (List.mem_of_getElem? h1)) i x x' h3 h4
              exact ⟨h5, .inl (by rw [h3] at h4; injection h4 with h4; exact h4.symm)⟩
    · split
      · exact Falls.same _ _ _ _ rfl h8
      · split
        · exact Falls.same _ _ _ _ rfl h8
        · split
          · refine Falls.same _ _ _ _ ?_ h8
            unfold Nor.turn
            split <;> rfl
          · split
            · exact Falls.same _ _ _ _ rfl h8
            · exact Falls.same _ _ _ _ rfl h8
end Go.Proofs.Yteieaelinkdahaa

/- All bytes of a device, read into memory. -/
namespace Go.Proofs.Yteieaelinkdahaa
open Go.RowKit Flo

/-- Rows of bytes that lie in none of the blocks O. -/
structure AllR (O : Nat → Prop) (w : World) (v : Value) (data : List (List Nat)) : Prop where
  ex : ∃ (b cap : Nat) (rows : List Value), v = .slice (some ⟨b, 0, none⟩) data.length cap ∧ ¬ O b ∧ b < w.heap.size ∧ rows.length = data.length ∧ (∀ (i : Nat) (r : Value), rows[i]? = some r → w.cell? ⟨b, i, none⟩ = some r) ∧
    ∀ (i : Nat) (r : Value) (l : List Nat), rows[i]? = some r → data[i]? = some l → ∃ (g c : Nat), r = .slice (some ⟨g, 0, none⟩) l.length c ∧ ¬ O g ∧ g < w.heap.size ∧ ∀ (k x : Nat), l[k]? = some x → w.cell? ⟨g, k, none⟩ = some (bv x)
theorem AllR.out {O O' : Nat → Prop} {w w' : World} {v : Value} {data : List (List Nat)} (h : AllR O w v data) (hb : Out O w w') (hO : ∀ k, O' k → O k ∨ w.heap.size ≤ k) : AllR O' w' v data := by
  obtain ⟨b, cap, rows, hv, h1, h2, h3, h4, h5⟩ := h.ex
  have nn : ∀ k, ¬ O k → k < w.heap.size → ¬ O' k := fun k a b c => by rcases hO k c with q | q; exact a q; omega
  refine ⟨b, cap, rows, hv, nn b h1 h2, Nat.lt_of_lt_of_le h2 hb.size, h3, fun i r hr => ?_, fun i r l hr hl => ?_⟩
  · rw [← h4 i r hr]
    exact cell_heap (hb.block b h2 h1)
  · obtain ⟨g, c, q1, q2, q3, q4⟩ := h5 i r l hr hl
    refine ⟨g, c, q1, nn g q2 q3, Nat.lt_of_lt_of_le q3 hb.size, fun k x hx => ?_⟩
    rw [← q4 k x hx]
    exact cell_heap (hb.block g q3 q2)
/-- A row, and a byte of it. -/
theorem AllR.row {O : Nat → Prop} {w : World} {v : Value} {data : List (List Nat)} (h : AllR O w v data) {s : Nat} {l : List Nat} (hl : data[s]? = some l) :
    ∃ (b cap g c : Nat), v = .slice (some ⟨b, 0, none⟩) data.length cap ∧ b < w.heap.size ∧ w.cell? ⟨b, s, none⟩ = some (.slice (some ⟨g, 0, none⟩) l.length c) ∧ g < w.heap.size ∧ ∀ (k x : Nat), l[k]? = some x → w.cell? ⟨g, k, none⟩ = some (bv x) := by
  obtain ⟨b, cap, rows, hv, h1, h2, h3, h4, h5⟩ := h.ex
  have hsl := (List.getElem?_eq_some_iff.1 hl).1
  have hr : rows[s]? = some rows[s] := List.getElem?_eq_getElem (by omega)
  obtain ⟨g, c, q1, q2, q3, q4⟩ := h5 s _ l hr hl
  exact ⟨b, cap, g, c, hv, h2, by rw [h4 s _ hr, q1], q3, q4⟩

set_option maxHeartbeats 4000000 in
set_option maxRecDepth 100000 in
theorem all_any {O : Nat → Prop} {w : World} {N : Nor} (hd : DevR O w N) (hon : N.off = false) : Calls Try.prog 35 #[ptrD N, geo N.S N.Z] w fun e w' => ∃ v, e = .returned v ∧ AllR O w' v N.data ∧ Below w.heap.size w w' := by
  have lim := hd.lim
  have hgeo := geoB_yes hd.geo
  have B0 := Lib.hid (blk_new w (.cells #[i64 N.S, i64 N.Z] 41))
  have b0 : Below w.heap.size w (w.alloc (.cells #[i64 N.S, i64 N.Z] 41)) := Base.al (Below.refl _ _) _
  have e0 := cell_blk B0.out 0
  have zz := (Array.getElem?_eq_some_iff.1 B0.out).1
  obtain ⟨i1, a0, a1, a2, a3⟩ := info_parts info_bytesE
  go_enter Try.func35, Try.ntmps35
  go_wp2_with fail
  clear e0
  go_loopw [5, 11] (fun v i wr => ∃ (j : Nat) (rows : List Value), j ≤ N.S ∧ i = .int .i64 j ∧ rows.length = j ∧ Hid (wr.ownsRow w.heap.size 22 1 v j rows) ∧ Hid (∀ (i : Nat) (r : Value) (l : List Nat), rows[i]? = some r → N.data[i]? = some l → wr.ownsRow w.heap.size 5 1 r l.length (l.map bv)) ∧
    Hid (wr.heap[w.heap.size]? = some (Obj.cells #[i64 N.S, i64 N.Z] 41 (0, 0))) ∧ Below w.heap.size w wr) (fun _ i _ => N.S - (intOf i).toNat)
  case atStart => exact ⟨0, [], Nat.zero_le _, rfl, rfl, Lib.hid ⟨rfl, .inl ⟨rfl, rfl⟩⟩, Lib.hid (fun i r l h => by cases h), B0, b0⟩
  case round =>
    obtain ⟨j, rows, hj, rfl, hrl, own, hrow, bg, hb⟩ := hrel
    by_cases hlt : j < N.S
    · have hdr := hd.below hb
      have hjd : j < N.data.length := by rw [hd.dl]; exact hlt
      obtain ⟨l, hl⟩ : ∃ l, N.data[j]? = some l := ⟨_, List.getElem?_eq_getElem hjd⟩
      have hll := (hd.row l (List.mem_of_getElem? hl)).1
      have P0 : ∀ W, Hid (Gives 10 #[i64 j, i64 0] W (cx (near j) (near 0))) := fun W => Lib.hid (of_in j 0 W (by omega) (by omega) (by omega) (by omega))
      have HRd : ∀ W, Below wr.heap.size wr W → Hid (Calls Try.prog 15 #[ptrD N, cx (near j) (near 0), i64 N.Z] W (ReadPost W l 0)) := by
        intro W hW
        have := read_any (hdr.below hW) (near j) (near 0) N.Z
        rw [got_row hon hl hlt (by omega) hll] at this
        exact Lib.hid this
      clear hll
      have e1 : wr.cell? ⟨w.heap.size, 1, none⟩ = some (i64 N.Z) := cell_blk bg.out 1
      have zd : w.heap.size < wr.heap.size := (Array.getElem?_eq_some_iff.1 bg.out).1
      have q1 := fun q => on_cell (w := wr) zd e1 q
      go_wp2_with fail
      refine wp_region_po (fun w' => ∃ p : OnOf wr, w' = p.v) 11 [2, 5] (by kernel_rfl) (by kernel_rfl) ⟨⟨_, Base.dr (Below.refl _ _)⟩, rfl⟩ ?_
      simp only [List.take_succ_cons, List.take_zero, List.drop_succ_cons, List.drop_zero]
      have on0 := @on_rd0; have on1 := @on_rd1; have on2 := @on_rd2; have on3 := @on_new1; have on4 := @on_new2; have on5 := @gr_rd0
      repeat ((with_reducible refine seq_read ?_ ?_); (focus rfl); (intro K hK); (unfold readsAt); go_simp; first | ((with_reducible refine hK _ ?_); clear hK K) | (rw [if_neg (by intro h; cases h)]; (with_reducible refine hK _ ?_); clear hK K))
      refine seq_eff (by rfl) (by first | rfl | go_simp) ?_
      intro K hK
      unfold effAt2
      go_simp
      refine ⟨rfl, (P0 _).out.mono ?_⟩; rintro e x5 ⟨rfl, rfl⟩
      refine ⟨_, rfl, ⟨⟨_, Base.dr (Below.refl _ _)⟩, rfl⟩, hK _ _ ?_⟩
      clear hK K
      repeat ((with_reducible refine seq_read ?_ ?_); (focus rfl); (intro K hK); (unfold readsAt); go_simp; first | ((with_reducible refine hK _ ?_); clear hK K) | (rw [if_neg (by intro h; cases h)]; (with_reducible refine hK _ ?_); clear hK K))
      refine seq_eff (by rfl) (by first | rfl | go_simp) ?_
      intro K hK
      unfold effAt2
      go_simp
      refine ⟨rfl, (HRd _ (Base.dr (Below.refl _ _))).out.mono ?_⟩; rintro e x6 ⟨v, rfl, hown, hb6⟩
      obtain ⟨va, vc, rfl⟩ := own_val hown
      refine ⟨_, rfl, ⟨⟨_, Base.tr (Base.dr (Below.refl _ _)) hb6⟩, rfl⟩, hK _ _ ?_⟩
      clear hK K
      repeat ((with_reducible refine seq_read ?_ ?_); (focus rfl); (intro K hK); (unfold readsAt); go_simp; first | ((with_reducible refine hK _ ?_); clear hK K) | (rw [if_neg (by intro h; cases h)]; (with_reducible refine hK _ ?_); clear hK K))
      clear on0 on1 on2 on3 on4 on5
      with_reducible refine seq_nil ?_
      have B6 := Lib.hid (Base.tr (Base.dr (Below.refl wr.heap.size wr)) hb6)
      have b6 := Base.tr hb B6.out
      have own6 := own_below own.out B6.out
      have hown6 : x6.ownsRow w.heap.size 5 1 (.slice va l.length vc) l.length (l.map bv) := own_base hown (Nat.le_trans hb.size (Below.size (Base.dr (Below.refl wr.heap.size wr))))
      have hrow6 := fun i r l h1 h2 => own_below (hrow.out i r l h1 h2) B6.out
      have bg6 := blk_below bg.out B6.out
      have B6s := B6.out.size
      clear q1 e1 P0 HRd own hrow bg hown hb6 B6 hdr hd
      go_wp2_with (at_builtin; refine wpList_append_own _ rfl _ _ 64 rfl w.heap.size 22 i1 _ 1 24 Try.underlying64 a0 a1 a2 a3 rfl (by decide) _ _ _ rfl (own6.alloc _) ⟨x6.heap.size, 0, none⟩ 1 1 [.slice va l.length vc] rfl rfl ?c1 ?c2 ?c3 ?c4 ?c5 ?_)
      case c1 => exact news_of _ _ _
      case c2 => simp [Value.oneCell']
      case c3 => unfold maxLen; omega
      case c4 => omega
      case c5 => (try simp); omega
      intro v2 w2 own2 gr2 _
      have oa := own6.alloc (.cells #[.slice va l.length vc] 22)
      have hb2 := below_grown (Base.al b6 (.cells #[.slice va l.length vc] 22)) oa gr2 (Nat.le_refl _)
      have bg2 := keepT oa gr2 (blk_old (x := .cells #[.slice va l.length vc] 22) bg6) (by decide)
      have kr : ∀ {r : Value} {n : Nat} {xs : List Value}, x6.ownsRow w.heap.size 5 1 r n xs → w2.ownsRow w.heap.size 5 1 r n xs := fun hx =>
        own_keep (hx.alloc (.cells #[.slice va l.length vc] 22)) (fun g c hg => keepT oa gr2 hg (by decide))
      have hrow2 : ∀ (i : Nat) (r : Value) (l' : List Nat), (rows ++ [.slice va l.length vc])[i]? = some r → N.data[i]? = some l' → w2.ownsRow w.heap.size 5 1 r l'.length (l'.map bv) := by
        intro i r l' h1 h2
        by_cases hi : i < rows.length
        · rw [List.getElem?_append_left hi] at h1
          exact kr (hrow6 i r l' h1 h2)
        · have hi2 := (List.getElem?_eq_some_iff.1 h1).1
          rw [List.length_append, List.length_singleton] at hi2
          obtain rfl : i = rows.length := by omega
          rw [List.getElem?_append_right (Nat.le_refl _), Nat.sub_self] at h1
          have h1' : Value.slice va l.length vc = r := by simpa using h1
          subst h1'
          rw [hrl, hl] at h2
          injection h2 with h2
          subst h2
          exact kr hown6
      have OW := Lib.hid own2
      have HR2 := Lib.hid hrow2
      have BG := Lib.hid bg2
      clear oa bg2 kr hrow2 own2 gr2 hrow6 bg6 own6 hown6 hb
      go_wp2_with fail
      exact ⟨⟨j + 1, _, by omega, by go_num, by rw [List.length_append, hrl]; rfl, OW, HR2, BG, hb2⟩, by simp [intOf]; omega⟩
    · obtain rfl : j = N.S := by omega
      go_wp2_with fail
      go_ret
      refine ⟨_, rfl, ⟨?_⟩, hb⟩
      rcases own.out.2 with ⟨_, h0⟩ | ⟨g, cap, cur, rfl, hbg, hgg, hnc, hcm, hcs, htake⟩
      · omega
      · have no : ∀ k, w.heap.size ≤ k → ¬ O k := fun k hk hq => by have := lim k hq; omega
        refine ⟨g, cap, rows, by rw [hd.dl]; rfl, no g hbg, (Array.getElem?_eq_some_iff.1 hgg).1, by rw [hrl, hd.dl], fun i r hr => ?_, fun i r l hr hl => ?_⟩
        · have hil := (List.getElem?_eq_some_iff.1 hr).1
          rw [cell_blk hgg, ← Array.getElem?_toList]
          rw [← htake, List.getElem?_take_of_lt (by omega)] at hr
          exact hr
        · have ho := hrow.out i r l hr hl
          have hl2 := (hd.row l (List.mem_of_getElem? hl)).1
          rcases ho.2 with ⟨_, h0⟩ | ⟨g2, cap2, cur2, rfl, hbg2, hgg2, hnc2, hcm2, hcs2, htake2⟩
          · omega
          · refine ⟨g2, cap2, rfl, no g2 hbg2, (Array.getElem?_eq_some_iff.1 hgg2).1, fun k x hx => ?_⟩
            have hkl := (List.getElem?_eq_some_iff.1 hx).1
            rw [cell_blk hgg2, ← Array.getElem?_toList]
            have : (l.map bv)[k]? = some (bv x) := by rw [List.getElem?_map, hx]; rfl
            rw [← htake2, List.getElem?_take_of_lt (by omega)] at this
            exact this
end Go.Proofs.Yteieaelinkdahaa

/- The walk of NorPlays. -/
namespace Go.Proofs.Yteieaelinkdahaa
open Go.RowKit Flo

theorem PlaySt.on {w : World} {s z D0 gm : Nat} {W W' : World} {j : Nat} {N : Nor} {R : RV} {O : Nat → Prop} (h : PlaySt w s z D0 gm W j N R O) (hb : Below W.heap.size W W') : PlaySt w s z D0 gm W' j N R O :=
  { h with dev := h.dev.below hb, ref := h.ref.below hb, box := blk_below h.box hb, below := Base.tr h.below hb }
theorem bd_fresh {N : Nor} {s z : Nat} (hf : Fresh N s z) : Bd N 0 := ⟨by rw [hf.acts]; exact Nat.le_refl _, by rw [hf.offs]; exact Nat.le_refl _, fun n hn => by rw [hf.wear] at hn; rw [(List.mem_replicate.1 hn).2]; exact Nat.le_refl _, fun c hc => by rw [hf.cut] at hc; cases hc⟩

set_option maxHeartbeats 4000000 in
set_option maxRecDepth 100000 in
theorem norPlays_no (s z : Int) (A : Option Addr) (n cap : Nat) (w : World) (hg : smallB s z = false) : Makes 7 #[geo s z, .slice A n cap] w (.bool true) := by
  have G0 := fun W => Lib.hid (fixed4_any W)
  have G1 := fun W => Lib.hid (rMay_any s z W)
  have G2 := fun W => Lib.hid (small_any s z W)
  rw [hg] at G2
  have B0 := blk_new w (.cells #[i64 s, i64 z] 41)
  have b0 : Below w.heap.size w (w.alloc (.cells #[i64 s, i64 z] 41)) := Base.al (Below.refl _ _) _
  have e0 := cell_blk B0 0
  have e1 := cell_blk B0 1
  have z0 := (Array.getElem?_eq_some_iff.1 B0).1
  cases hm : geoB s z
  · have G3 := fun W => Lib.hid (new_no s z W hm)
    rw [hm] at G1
    clear hm hg
    go_enter Try.func7, Try.ntmps7
    go_wp2_with fail
    refine (G1 _).out.mono ?_; rintro e x1 ⟨rfl, hb1⟩
    have B1 := blk_below B0 hb1
    have b1 := Base.tr b0 hb1
    clear e0 e1 z0
    have e0 : x1.cell? ⟨w.heap.size, 0, none⟩ = some (i64 s) := cell_blk B1 0
    have e1 : x1.cell? ⟨w.heap.size, 1, none⟩ = some (i64 z) := cell_blk B1 1
    have z0 : w.heap.size < x1.heap.size := (Array.getElem?_eq_some_iff.1 B1).1
    go_wp2_with fail
    refine (G3 _).out.mono ?_; rintro e x2 ⟨rfl, hb2⟩
    have B2 := blk_below B1 hb2
    have b2 := Base.tr b1 hb2
    clear e0 e1 z0
    have e0 : x2.cell? ⟨w.heap.size, 0, none⟩ = some (i64 s) := cell_blk B2 0
    have e1 : x2.cell? ⟨w.heap.size, 1, none⟩ = some (i64 z) := cell_blk B2 1
    have z0 : w.heap.size < x2.heap.size := (Array.getElem?_eq_some_iff.1 B2).1
    go_wp2_with fail
    refine (G1 _).out.mono ?_; rintro e x3 ⟨rfl, hb3⟩
    have B3 := blk_below B2 hb3
    have b3 := Base.tr b2 hb3
    clear e0 e1 z0
    have e0 : x3.cell? ⟨w.heap.size, 0, none⟩ = some (i64 s) := cell_blk B3 0
    have e1 : x3.cell? ⟨w.heap.size, 1, none⟩ = some (i64 z) := cell_blk B3 1
    have z0 : w.heap.size < x3.heap.size := (Array.getElem?_eq_some_iff.1 B3).1
    go_wp2_with fail
    refine (G0 _).out.mono ?_; rintro e x4 ⟨rfl, hb4⟩
    have B4 := blk_below B3 hb4
    have b4 := Base.tr b3 hb4
    clear e0 e1 z0
    have e0 : x4.cell? ⟨w.heap.size, 0, none⟩ = some (i64 s) := cell_blk B4 0
    have e1 : x4.cell? ⟨w.heap.size, 1, none⟩ = some (i64 z) := cell_blk B4 1
    have z0 : w.heap.size < x4.heap.size := (Array.getElem?_eq_some_iff.1 B4).1
    go_wp2_with fail
    go_ret
    exact ⟨rfl, b4⟩
  · rw [hm] at G1
    clear hm hg
    go_enter Try.func7, Try.ntmps7
    go_wp2_with fail
    refine (G1 _).out.mono ?_; rintro e x1 ⟨rfl, hb1⟩
    have B1 := blk_below B0 hb1
    have b1 := Base.tr b0 hb1
    clear e0 e1 z0
    have e0 : x1.cell? ⟨w.heap.size, 0, none⟩ = some (i64 s) := cell_blk B1 0
    have e1 : x1.cell? ⟨w.heap.size, 1, none⟩ = some (i64 z) := cell_blk B1 1
    have z0 : w.heap.size < x1.heap.size := (Array.getElem?_eq_some_iff.1 B1).1
    go_wp2_with fail
    refine (G2 _).out.mono ?_; rintro e x2 ⟨rfl, hb2⟩
    have B2 := blk_below B1 hb2
    have b2 := Base.tr b1 hb2
    clear e0 e1 z0
    have e0 : x2.cell? ⟨w.heap.size, 0, none⟩ = some (i64 s) := cell_blk B2 0
    have e1 : x2.cell? ⟨w.heap.size, 1, none⟩ = some (i64 z) := cell_blk B2 1
    have z0 : w.heap.size < x2.heap.size := (Array.getElem?_eq_some_iff.1 B2).1
    go_wp2_with fail
    refine (G0 _).out.mono ?_; rintro e x3 ⟨rfl, hb3⟩
    have B3 := blk_below B2 hb3
    have b3 := Base.tr b2 hb3
    clear e0 e1 z0
    have e0 : x3.cell? ⟨w.heap.size, 0, none⟩ = some (i64 s) := cell_blk B3 0
    have e1 : x3.cell? ⟨w.heap.size, 1, none⟩ = some (i64 z) := cell_blk B3 1
    have z0 : w.heap.size < x3.heap.size := (Array.getElem?_eq_some_iff.1 B3).1
    go_wp2_with fail
    go_ret
    exact ⟨rfl, b3⟩

set_option maxHeartbeats 4000000 in
set_option maxRecDepth 100000 in
theorem norPlays_yes (s z : Nat) (A : Option Addr) (n cap : Nat) (l : List (OpV × List Nat)) (w : World) (hsm : smallB s z = true) (h : Ops w (.slice A n cap) (l.map Prod.fst)) (hop : ∀ x ∈ l, OpIn w x.1 x.2) : Makes 7 #[geo s z, .slice A n cap] w (.bool true) := by
  have hg : geoB s z = true := by unfold smallB at hsm; rw [Bool.and_eq_true] at hsm; exact hsm.1
  have G0 := fun W => Lib.hid (fixed4_any W)
  have G1 := fun W => Lib.hid (rMay_any s z W)
  have G2 := fun W => Lib.hid (small_any s z W)
  have G3 : ∀ W, Hid (Calls Try.prog 34 #[geo s z] W fun e w' => ∃ (N : Nor) (O : Nat → Prop), e = .returned (.tuple #[.pointer (some ⟨N.D, 0, none⟩), i64 0]) ∧ DevR O w' N ∧ (∀ k, O k → W.heap.size ≤ k) ∧ Fresh N s z ∧ Below W.heap.size W w') := fun W => Lib.hid (new_any s z W hg)
  have G4 := fun W => Lib.hid (rnew_any s z W hg)
  rw [hsm] at G2
  rw [hg] at G1
  have HG := Lib.hid hg
  obtain ⟨q1, q2, q3, q4⟩ := geoB_yes hg
  have B0 := blk_new w (.cells #[i64 s, i64 z] 41)
  have b0 : Below w.heap.size w (w.alloc (.cells #[i64 s, i64 z] 41)) := Base.al (Below.refl _ _) _
  have e0 := cell_blk B0 0
  have e1 := cell_blk B0 1
  have z0 := (Array.getElem?_eq_some_iff.1 B0).1
  clear hg hsm
  go_enter Try.func7, Try.ntmps7
  go_wp2_with fail
  refine (G1 _).out.mono ?_; rintro e x1 ⟨rfl, hb1⟩
  have B1 := blk_below B0 hb1
  have b1 := Base.tr b0 hb1
  clear e0 e1 z0
  have e0 : x1.cell? ⟨w.heap.size, 0, none⟩ = some (i64 s) := cell_blk B1 0
  have e1 : x1.cell? ⟨w.heap.size, 1, none⟩ = some (i64 z) := cell_blk B1 1
  have z0 : w.heap.size < x1.heap.size := (Array.getElem?_eq_some_iff.1 B1).1
  go_wp2_with fail
  refine (G2 _).out.mono ?_; rintro e x2 ⟨rfl, hb2⟩
  have B2 := blk_below B1 hb2
  have b2 := Base.tr b1 hb2
  clear e0 e1 z0
  have e0 : x2.cell? ⟨w.heap.size, 0, none⟩ = some (i64 s) := cell_blk B2 0
  have e1 : x2.cell? ⟨w.heap.size, 1, none⟩ = some (i64 z) := cell_blk B2 1
  have z0 : w.heap.size < x2.heap.size := (Array.getElem?_eq_some_iff.1 B2).1
  go_wp2_with fail
  refine (G3 _).out.mono ?_; rintro e x3 ⟨N, O, rfl, hd3, hO3, hf, hb3⟩
  have B3 := blk_below B2 hb3
  have b3 := Base.tr b2 hb3
  clear e0 e1 z0
  have e0 : x3.cell? ⟨w.heap.size, 0, none⟩ = some (i64 s) := cell_blk B3 0
  have e1 : x3.cell? ⟨w.heap.size, 1, none⟩ = some (i64 z) := cell_blk B3 1
  have z0 : w.heap.size < x3.heap.size := (Array.getElem?_eq_some_iff.1 B3).1
  go_wp2_with fail
  refine (G1 _).out.mono ?_; rintro e x4 ⟨rfl, hb4⟩
  have B4 := blk_below B3 hb4
  have b4 := Base.tr b3 hb4
  clear e0 e1 z0
  have e0 : x4.cell? ⟨w.heap.size, 0, none⟩ = some (i64 s) := cell_blk B4 0
  have e1 : x4.cell? ⟨w.heap.size, 1, none⟩ = some (i64 z) := cell_blk B4 1
  have z0 : w.heap.size < x4.heap.size := (Array.getElem?_eq_some_iff.1 B4).1
  go_wp2_with fail
  refine (G0 _).out.mono ?_; rintro e x5 ⟨rfl, hb5⟩
  have B5 := blk_below B4 hb5
  have b5 := Base.tr b4 hb5
  clear e0 e1 z0
  have e0 : x5.cell? ⟨w.heap.size, 0, none⟩ = some (i64 s) := cell_blk B5 0
  have e1 : x5.cell? ⟨w.heap.size, 1, none⟩ = some (i64 z) := cell_blk B5 1
  have z0 : w.heap.size < x5.heap.size := (Array.getElem?_eq_some_iff.1 B5).1
  go_wp2_with fail
  have hd5 := (hd3.below hb4).below hb5
  have HF := Lib.hid hf
  have hge : ∀ k, O k → w.heap.size ≤ k := fun k hk => Nat.le_trans b2.size (hO3 k hk)
  refine (G4 _).out.mono ?_; rintro e x6 ⟨vd, vw, vb, rows, Zc, rfl, hn6⟩
  obtain ⟨R, hRv, hr6, hRm, hRl⟩ := hn6.ref HG.out hd5.lim hf
  injection hRv with hRv
  have HRV := Lib.hid hRv
  obtain ⟨A1, k1, rfl⟩ := own_val hn6.o1
  obtain ⟨A2, k2, rfl⟩ := own_val hn6.o2
  obtain ⟨A3, k3, rfl⟩ := own_val hn6.o3
  have b6 := Base.tr b5 hn6.below
  have hd6 := hd5.below hn6.below
  have st0 : Hid (PlaySt w s z N.D x6.heap.size (x6.alloc (.cells #[i64 s, i64 z, .slice A1 s k1, .slice A2 s k2, .slice A3 s k3, .bool false, i64 0, i64 0, .bool false, i64 0, i64 0, .int .u8 0] 71)) 0 N R O) := by
    refine Lib.hid ⟨hd6.al _, (hr6.wider (by rintro k (hk | rfl); exact .inl hk; exact .inr (Nat.le_refl _))).below (Base.al (Below.refl _ _) _), ?_, fun hq => Nat.lt_irrefl _ (hd6.lim _ hq), hge, b6.size, bd_fresh hf, hf.S, hf.Z, rfl, by rw [hRm]; decide, by rw [hRl]; decide, Base.al b6 _⟩
    rw [← hRv]
    exact blk_new _ _
  clear hRv hr6 hn6 hd6 hd5 hd3 hRm hRl b6 b5 b4 b3 b2 b1 b0 B5 B4 B3 B2 B1 B0 hb5 hb4 hb3 hb2 hb1 e0 e1 z0 hf hO3 hge
  go_wp2_with fail
  generalize x6.alloc _ = x7 at *
  generalize x6.heap.size = gm at *
  generalize N.D = D0 at *
  have G5 := Lib.hid (cut_law A n cap (l.map Prod.fst) x7 (Sl.below h st0.out.below) (by
    intro o ho
    obtain ⟨x, hx, rfl⟩ := List.mem_map.1 ho
    have h1 := (hop x hx).bytes.max
    have h2 := (hop x hx).len
    rw [List.length_map] at h1
    unfold maxLen at h1
    omega))
  refine G5.out.mono ?_; rintro e x8 ⟨rfl, hb8⟩
  have st8 := Lib.hid (st0.out.on hb8)
  have hsm := fun j hj => Lib.hid (cutGo_small ((l.map Prod.fst).map OpV.bn) 0 0 j hj)
  have h60 := cutGo_60 ((l.map Prod.fst).map OpV.bn) 0 0 (Nat.zero_le _)
  have hle := cutGo_le ((l.map Prod.fst).map OpV.bn) 0 0
  rw [List.length_map, List.length_map, Nat.zero_add] at hle
  obtain ⟨cn, hcn⟩ : ∃ cn, cutGo 0 0 ((l.map Prod.fst).map OpV.bn) = cn := ⟨_, rfl⟩
  rw [hcn] at hsm h60 hle ⊢
  clear hcn G5 hb8 st0 G0 G1 G2 G3 G4
  go_wp2_with fail
  go_loopw [51] (fun i wr => ∃ (j : Nat) (N : Nor) (R : RV) (O : Nat → Prop), j ≤ cn ∧ i = .int .i64 j ∧ Hid (PlaySt w s z D0 gm wr j N R O)) (fun i _ => cn - (intOf i).toNat)
  case atStart => exact ⟨0, _, _, _, Nat.zero_le _, rfl, st8⟩
  case round =>
    clear st8
    obtain ⟨j, N, R, O, hj, rfl, st⟩ := hrel
    have hbx := st.out.box
    unfold RV.cells at hbx
    have zg := st.out.lt
    have fd := cell_blk hbx
    have f0 : wr.cell? ⟨gm, 0, none⟩ = some (i64 N.S) := fd 0
    have f1 : wr.cell? ⟨gm, 1, none⟩ = some (i64 N.Z) := fd 1
    have f2 : wr.cell? ⟨gm, 2, none⟩ = some (.slice R.dA N.S R.dc) := fd 2
    have f3 : wr.cell? ⟨gm, 3, none⟩ = some (.slice R.wA N.S R.wc) := fd 3
    have f4 : wr.cell? ⟨gm, 4, none⟩ = some (.slice R.bA N.S R.bc) := fd 4
    have f5 : wr.cell? ⟨gm, 5, none⟩ = some (.bool N.off) := fd 5
    have f6 : wr.cell? ⟨gm, 6, none⟩ = some (i64 N.offs) := fd 6
    have f7 : wr.cell? ⟨gm, 7, none⟩ = some (i64 N.acts) := fd 7
    have f8 : wr.cell? ⟨gm, 8, none⟩ = some (.bool N.cut.isSome) := fd 8
    have f9 : wr.cell? ⟨gm, 9, none⟩ = some (i64 R.left) := fd 9
    have f10 : wr.cell? ⟨gm, 10, none⟩ = some (i64 R.whole) := fd 10
    have f11 : wr.cell? ⟨gm, 11, none⟩ = some (.int .u8 R.mask) := fd 11
    clear fd
    by_cases hlt : j < cn
    · have hjl : j < l.length := by omega
      obtain ⟨x, hx⟩ : ∃ x, l[j]? = some x := ⟨_, List.getElem?_eq_getElem hjl⟩
      obtain ⟨o, lb⟩ := x
      have hoi := hop _ (List.mem_of_getElem? hx)
      simp only [] at hoi
      obtain ⟨x0, hx0, hx6⟩ := (hsm j (by omega)).out
      rw [List.getElem?_map, List.getElem?_map, hx] at hx0
      have hx0' : o.bn = x0 := by injection hx0
      have hln := hoi.len
      obtain ⟨b, off, rfl, hbs, hc⟩ := Ops.at (Sl.below h st.out.below) (by rw [List.length_map]; omega)
      have hlo : (l.map Prod.fst)[j]? = some o := by rw [List.getElem?_map, hx]; rfl
      have c0 := hc j o hlo 0 _ rfl
      have c1 := hc j o hlo 1 _ rfl
      have c2 := hc j o hlo 2 _ rfl
      have c3 := hc j o hlo 3 _ rfl
      have c4 := hc j o hlo 4 _ rfl
      have c5 := hc j o hlo 5 _ rfl
      have c6 := hc j o hlo 6 _ rfl
      rw [Nat.add_zero] at c0
      have HD := do_next st.out (by omega) hoi (by omega)
      unfold RV.cells at HD
      have HD := Lib.hid HD
      clear hbx hc hx hlo hsm hx0 hx0' hln hoi st
      go_wp2_with fail
      with_reducible refine HD.out.mono ?_
      rintro e x9 ⟨R', N', O', rfl, hbx9, hst9⟩
      have HST := Lib.hid hst9
      have zy := fun i => frozen_blk hbx9 i
      have zg9 : gm < x9.heap.size := (Array.getElem?_eq_some_iff.1 hbx9).1
      clear hst9 HD f0 f1 f2 f3 f4 f5 f6 f7 f8 f9 f10 f11 c0 c1 c2 c3 c4 c5 c6 zg
      have fd := cell_blk hbx9
      have y0 : x9.cell? ⟨gm, 0, none⟩ = some (i64 N.S) := fd 0
      have y1 : x9.cell? ⟨gm, 1, none⟩ = some (i64 N.Z) := fd 1
      have y2 : x9.cell? ⟨gm, 2, none⟩ = some (.slice R.dA N.S R.dc) := fd 2
      have y3 : x9.cell? ⟨gm, 3, none⟩ = some (.slice R.wA N.S R.wc) := fd 3
      have y4 : x9.cell? ⟨gm, 4, none⟩ = some (.slice R.bA N.S R.bc) := fd 4
      have y5 : x9.cell? ⟨gm, 5, none⟩ = some (.bool N.off) := fd 5
      have y6 : x9.cell? ⟨gm, 6, none⟩ = some (i64 N.offs) := fd 6
      have y7 : x9.cell? ⟨gm, 7, none⟩ = some (i64 N.acts) := fd 7
      have y8 : x9.cell? ⟨gm, 8, none⟩ = some (.bool N.cut.isSome) := fd 8
      have y9 : x9.cell? ⟨gm, 9, none⟩ = some (i64 R.left) := fd 9
      have y10 : x9.cell? ⟨gm, 10, none⟩ = some (i64 R.whole) := fd 10
      have y11 : x9.cell? ⟨gm, 11, none⟩ = some (.int .u8 R.mask) := fd 11
      clear fd
      clear hbx9
      go_wp2_with fail
      exact ⟨⟨j + 1, N', R', O', by omega, by go_num, HST⟩, by simp [intOf]; omega⟩
    · obtain rfl : j = cn := by omega
      have hD := st.out.D
      have HS := same_any st.out.dev (st.out.ref.sub (Q := O) (fun k hk => .inl hk))
      rw [show ptrD N = .pointer (some ⟨D0, 0, none⟩) by rw [← hD]] at HS
      simp only [RV.val, RV.cells] at HS
      have HS := Lib.hid HS
      clear hbx hD
      go_wp2_with fail
      with_reducible refine HS.out.mono ?_
      rintro e x9 ⟨rfl, ho9⟩
      go_wp2_with fail
      go_ret
      exact ⟨rfl, st.out.below.trans (ho9.base st.out.ge st.out.below.size)⟩
theorem norPlays_makes (s z : Int) (A : Option Addr) (n cap : Nat) (l : List (OpV × List Nat)) (w : World) (h : Ops w (.slice A n cap) (l.map Prod.fst)) (hop : ∀ x ∈ l, OpIn w x.1 x.2) : Makes 7 #[geo s z, .slice A n cap] w (.bool true) := by
  cases hs : smallB s z
  · exact norPlays_no s z A n cap w hs
  · have hg : geoB s z = true := by unfold smallB at hs; rw [Bool.and_eq_true] at hs; exact hs.1
    obtain ⟨q1, q2, q3, q4⟩ := geoB_yes hg
    obtain ⟨s', rfl⟩ : ∃ s' : Nat, s = s' := ⟨s.toNat, by omega⟩
    obtain ⟨z', rfl⟩ : ∃ z' : Nat, z = z' := ⟨z.toNat, by omega⟩
    exact norPlays_yes s' z' A n cap l w hs h hop
end Go.Proofs.Yteieaelinkdahaa

/- The walk of NorFalls. -/
namespace Go.Proofs.Yteieaelinkdahaa
open Go.RowKit Flo

theorem and_gone {x y : Nat} (hx : x < 256) : (x &&& y) &&& (255 - x) = 0 := by
  apply Nat.eq_of_testBit_eq
  intro i
  rw [Nat.testBit_and, Nat.testBit_and, show 255 - x = 2 ^ 8 - (x + 1) by omega, Nat.testBit_two_pow_sub_succ (show x < 2 ^ 8 from hx), Nat.zero_testBit]
  cases x.testBit i <;> simp
theorem andNot_gone {x y : Nat} (hx : x < 256) : bits .andNot .u8 ((x &&& y : Nat) : Int) (x : Int) = 0 := by
  rw [u8_andNot_nat _ _ (Nat.lt_of_le_of_lt Nat.and_le_left hx) hx, and_gone hx]
  rfl
structure FallSt (w : World) (s z D0 : Nat) (W : World) (j : Nat) (N : Nor) (O : Nat → Prop) (v : Value) : Prop where
  dev : DevR O W N
  on : N.off = false
  was : AllR O W v N.data
  ge : ∀ k, O k → w.heap.size < k
  bd : Bd N j
  S : N.S = s
  Z : N.Z = z
  D : N.D = D0
  geo : W.heap[w.heap.size]? = some (Obj.cells #[i64 s, i64 z] 41 (0, 0))
  below : Below w.heap.size w W
theorem AllR.below {O : Nat → Prop} {w w' : World} {v : Value} {data : List (List Nat)} (h : AllR O w v data) (hb : Below w.heap.size w w') : AllR O w' v data := h.out (Out.of_below hb) (fun _ hk => .inl hk)
theorem FallSt.on' {w : World} {s z D0 : Nat} {W W' : World} {j : Nat} {N : Nor} {O : Nat → Prop} {v : Value} (h : FallSt w s z D0 W j N O v) (hb : Below W.heap.size W W') : FallSt w s z D0 W' j N O v :=
  { h with dev := h.dev.below hb, was := h.was.below hb, geo := blk_below h.geo hb, below := Base.tr h.below hb }
def nor0 (s z : Nat) : Nor := ⟨0, 0, 0, 0, 0, [], 0, s, z, List.replicate s (List.replicate z 255), List.replicate s 0, [], false, 0, 0, none⟩
theorem fresh0 (s z : Nat) : Fresh (nor0 s z) s z := ⟨rfl, rfl, rfl, rfl, rfl, rfl, rfl, rfl, rfl⟩
theorem ofPl_parts (a b : Int) : ∃ k p, part? (ofPl a b).1 = some k ∧ part? (ofPl a b).2 = some p ∧ p ≤ 2147483647 := by
  unfold ofPl
  split
  · exact ⟨0, 0, part0, part0, by decide⟩
  · obtain ⟨a', rfl⟩ : ∃ n : Nat, a = n := ⟨a.toNat, by omega⟩
    obtain ⟨b', rfl⟩ : ∃ n : Nat, b = n := ⟨b.toNat, by omega⟩
    exact ⟨a', b', part_near (by omega), part_near (by omega), by omega⟩

set_option maxHeartbeats 4000000 in
set_option maxRecDepth 100000 in
theorem norFalls_no (s z : Int) (A : Option Addr) (n cap : Nat) (w : World) (hg : smallB s z = false) : Makes 6 #[geo s z, .slice A n cap] w (.bool true) := by
  have G0 := fun W => Lib.hid (fixed4_any W)
  have G2 := fun W => Lib.hid (small_any s z W)
  rw [hg] at G2
  have B0 := blk_new w (.cells #[i64 s, i64 z] 41)
  have b0 : Below w.heap.size w (w.alloc (.cells #[i64 s, i64 z] 41)) := Base.al (Below.refl _ _) _
  have e0 := cell_blk B0 0
  have e1 := cell_blk B0 1
  have z0 := (Array.getElem?_eq_some_iff.1 B0).1
  go_enter Try.func6, Try.ntmps6
  go_wp2_with fail
  refine (G2 _).out.mono ?_; rintro e x1 ⟨rfl, hb1⟩
  have B1 := blk_below B0 hb1
  have b1 := Base.tr b0 hb1
  clear e0 e1 z0
  have e0 : x1.cell? ⟨w.heap.size, 0, none⟩ = some (i64 s) := cell_blk B1 0
  have e1 : x1.cell? ⟨w.heap.size, 1, none⟩ = some (i64 z) := cell_blk B1 1
  have z0 : w.heap.size < x1.heap.size := (Array.getElem?_eq_some_iff.1 B1).1
  go_wp2_with fail
  refine (G0 _).out.mono ?_; rintro e x2 ⟨rfl, hb2⟩
  have B2 := blk_below B1 hb2
  have b2 := Base.tr b1 hb2
  clear e0 e1 z0
  have e0 : x2.cell? ⟨w.heap.size, 0, none⟩ = some (i64 s) := cell_blk B2 0
  have e1 : x2.cell? ⟨w.heap.size, 1, none⟩ = some (i64 z) := cell_blk B2 1
  have z0 : w.heap.size < x2.heap.size := (Array.getElem?_eq_some_iff.1 B2).1
  go_wp2_with fail
  go_ret
  exact ⟨rfl, b2⟩

set_option maxHeartbeats 4000000 in
set_option maxRecDepth 100000 in
theorem norFalls_yes (s z : Nat) (A : Option Addr) (n cap : Nat) (l : List (OpV × List Nat)) (w : World) (hsm : smallB s z = true) (h : Ops w (.slice A n cap) (l.map Prod.fst)) (hop : ∀ x ∈ l, OpIn w x.1 x.2) : Makes 6 #[geo s z, .slice A n cap] w (.bool true) := by
  have hg : geoB s z = true := by unfold smallB at hsm; rw [Bool.and_eq_true] at hsm; exact hsm.1
  have G0 := fun W => Lib.hid (fixed4_any W)
  have G2 := fun W => Lib.hid (small_any s z W)
  have G3 : ∀ W, Hid (Calls Try.prog 34 #[geo s z] W fun e w' => ∃ (N : Nor) (O : Nat → Prop), e = .returned (.tuple #[.pointer (some ⟨N.D, 0, none⟩), i64 0]) ∧ DevR O w' N ∧ (∀ k, O k → W.heap.size ≤ k) ∧ Fresh N s z ∧ Below W.heap.size W w') := fun W => Lib.hid (new_any s z W hg)
  have G4 := fun W => Lib.hid (rnew_any s z W hg)
  rw [hsm] at G2
  have HG := Lib.hid hg
  obtain ⟨q1, q2, q3, q4⟩ := geoB_yes hg
  have B0 := blk_new w (.cells #[i64 s, i64 z] 41)
  have b0 : Below w.heap.size w (w.alloc (.cells #[i64 s, i64 z] 41)) := Base.al (Below.refl _ _) _
  have e0 := cell_blk B0 0
  have e1 := cell_blk B0 1
  have z0 := (Array.getElem?_eq_some_iff.1 B0).1
  clear hg hsm
  go_enter Try.func6, Try.ntmps6
  go_wp2_with fail
  refine (G2 _).out.mono ?_; rintro e x1 ⟨rfl, hb1⟩
  have B1 := blk_below B0 hb1
  have b1 := Base.tr b0 hb1
  clear e0 e1 z0
  have e0 : x1.cell? ⟨w.heap.size, 0, none⟩ = some (i64 s) := cell_blk B1 0
  have e1 : x1.cell? ⟨w.heap.size, 1, none⟩ = some (i64 z) := cell_blk B1 1
  have z0 : w.heap.size < x1.heap.size := (Array.getElem?_eq_some_iff.1 B1).1
  go_wp2_with fail
  refine (G3 _).out.mono ?_; rintro e x2 ⟨N, O, rfl, hd2, hO2, hf, hb2⟩
  have B2 := blk_below B1 hb2
  have b2 := Base.tr b1 hb2
  have hge : ∀ k, O k → w.heap.size < k := fun k hk => Nat.lt_of_lt_of_le z0 (hO2 k hk)
  clear e0 e1 z0
  have e0 : x2.cell? ⟨w.heap.size, 0, none⟩ = some (i64 s) := cell_blk B2 0
  have e1 : x2.cell? ⟨w.heap.size, 1, none⟩ = some (i64 z) := cell_blk B2 1
  have z0 : w.heap.size < x2.heap.size := (Array.getElem?_eq_some_iff.1 B2).1
  have GA := all_any hd2 hf.off
  rw [hf.S, hf.Z, show ptrD N = .pointer (some ⟨N.D, 0, none⟩) from rfl] at GA
  have GA := Lib.hid GA
  go_wp2_with fail
  refine GA.out.mono ?_; rintro e x3 ⟨v, rfl, hall, hb3⟩
  have st0 : Hid (FallSt w s z N.D x3 0 N O v) := Lib.hid ⟨hd2.below hb3, hf.off, hall, hge, bd_fresh hf, hf.S, hf.Z, rfl, blk_below B2 hb3, Base.tr b2 hb3⟩
  clear GA hall hb3 hf hge hd2 hO2 B2 B1 B0 b2 b1 b0 e0 e1 z0 hb2 hb1 G3
  generalize N.D = D0 at *
  have G5 := Lib.hid (cut_law A n cap (l.map Prod.fst) x3 (Sl.below h st0.out.below) (by
    intro o ho
    obtain ⟨x, hx, rfl⟩ := List.mem_map.1 ho
    have h1 := (hop x hx).bytes.max
    have h2 := (hop x hx).len
    rw [List.length_map] at h1
    unfold maxLen at h1
    omega))
  go_wp2_with fail
  refine G5.out.mono ?_; rintro e x8 ⟨rfl, hb8⟩
  have st8 := Lib.hid (st0.out.on' hb8)
  have hsm := fun j hj => Lib.hid (cutGo_small ((l.map Prod.fst).map OpV.bn) 0 0 j hj)
  have h60 := cutGo_60 ((l.map Prod.fst).map OpV.bn) 0 0 (Nat.zero_le _)
  have hle := cutGo_le ((l.map Prod.fst).map OpV.bn) 0 0
  rw [List.length_map, List.length_map, Nat.zero_add] at hle
  obtain ⟨cn, hcn⟩ : ∃ cn, cutGo 0 0 ((l.map Prod.fst).map OpV.bn) = cn := ⟨_, rfl⟩
  rw [hcn] at hsm h60 hle ⊢
  clear hcn G5 hb8 st0 G2
  go_wp2_with fail
  go_loopw [7, 40] (fun v i wr => ∃ (j : Nat) (N : Nor) (O : Nat → Prop), j ≤ cn ∧ i = .int .i64 j ∧ Hid (FallSt w s z D0 wr j N O v)) (fun _ i _ => cn - (intOf i).toNat)
  case atStart => exact ⟨0, _, _, Nat.zero_le _, rfl, st8⟩
  case round =>
    clear st8
    obtain ⟨j, N, O, hj, rfl, st⟩ := hrel
    by_cases hlt : j < cn
    · have hjl : j < l.length := by omega
      obtain ⟨x, hx⟩ : ∃ x, l[j]? = some x := ⟨_, List.getElem?_eq_getElem hjl⟩
      obtain ⟨o, lb⟩ := x
      have hoi := hop _ (List.mem_of_getElem? hx)
      simp only [] at hoi
      obtain ⟨x0, hx0, hx6⟩ := (hsm j (by omega)).out
      rw [List.getElem?_map, List.getElem?_map, hx] at hx0
      have hx0' : o.bn = x0 := by injection hx0
      have hln := hoi.len
      have hlb : lb.length ≤ 6000 := by omega
      obtain ⟨b, off, rfl, hbs, hc⟩ := Ops.at (Sl.below h st.out.below) (by rw [List.length_map]; omega)
      have hlo : (l.map Prod.fst)[j]? = some o := by rw [List.getElem?_map, hx]; rfl
      have c0 := hc j o hlo 0 _ rfl
      have c1 := hc j o hlo 1 _ rfl
      have c2 := hc j o hlo 2 _ rfl
      have c3 := hc j o hlo 3 _ rfl
      have c4 := hc j o hlo 4 _ rfl
      have c5 := hc j o hlo 5 _ rfl
      have c6 := hc j o hlo 6 _ rfl
      rw [Nat.add_zero] at c0
      have st1 : Hid (FallSt w s z D0 (wr.alloc (.cells #[i64 o.kind, i64 o.sector, i64 o.offset, .slice o.A o.bn o.bc, i64 o.n, i64 o.k, bv o.mask] 24)) j N O _) := Lib.hid (st.out.on' (Base.al (Below.refl _ _) _))
      have bo1 : Hid ((wr.alloc (.cells #[i64 o.kind, i64 o.sector, i64 o.offset, .slice o.A o.bn o.bc, i64 o.n, i64 o.k, bv o.mask] 24)).heap[wr.heap.size]? = some (Obj.cells #[i64 o.kind, i64 o.sector, i64 o.offset, .slice o.A o.bn o.bc, i64 o.n, i64 o.k, bv o.mask] 24 (0, 0))) := Lib.hid (blk_new _ _)
      have CW := wear_any st1.out.dev o.sector
      rw [show ptrD N = .pointer (some ⟨N.D, 0, none⟩) from rfl, st.out.D] at CW
      have CW := Lib.hid CW
      have nog : ¬ O wr.heap.size := fun hq => Nat.lt_irrefl _ (st.out.dev.lim _ hq)
      have LN := Lib.hid hln
      clear hc hx hlo hsm hx0 hx0' st hln
      go_wp2_with fail
      with_reducible refine CW.out.mono ?_
      rintro e x1 ⟨rfl, rfl⟩
      clear c0 c1 c2 c3 c4 c5 c6 CW
      generalize wr.heap.size = gq at *
      generalize wr.alloc _ = x1 at *
      have fo := cell_blk bo1.out
      have c0 : x1.cell? ⟨gq, 0, none⟩ = some (i64 o.kind) := fo 0
      have c1 : x1.cell? ⟨gq, 1, none⟩ = some (i64 o.sector) := fo 1
      have c2 : x1.cell? ⟨gq, 2, none⟩ = some (i64 o.offset) := fo 2
      have c3 : x1.cell? ⟨gq, 3, none⟩ = some (.slice o.A o.bn o.bc) := fo 3
      have c4 : x1.cell? ⟨gq, 4, none⟩ = some (i64 o.n) := fo 4
      have c5 : x1.cell? ⟨gq, 5, none⟩ = some (i64 o.k) := fo 5
      have c6 : x1.cell? ⟨gq, 6, none⟩ = some (bv o.mask) := fo 6
      have zo : gq < x1.heap.size := (Array.getElem?_eq_some_iff.1 bo1.out).1
      clear fo
      have e0 : x1.cell? ⟨w.heap.size, 0, none⟩ = some (i64 s) := cell_blk st1.out.geo 0
      have e1 : x1.cell? ⟨w.heap.size, 1, none⟩ = some (i64 z) := cell_blk st1.out.geo 1
      have z0 : w.heap.size < x1.heap.size := (Array.getElem?_eq_some_iff.1 st1.out.geo).1
      obtain ⟨pa, pb, hpl⟩ : ∃ pa pb, ofPl o.sector o.offset = (pa, pb) := ⟨_, _, rfl⟩
      obtain ⟨kk, pp, hkk, hpp, hpl2⟩ := ofPl_parts o.sector o.offset
      have HFALL := fun g => Lib.hid (doo_falls st1.out.dev o lb g kk pp hkk hpp)
      rw [hpl] at hkk hpp
      simp only [] at hkk hpp
      have P0 : ∀ W, Hid (Gives 10 #[i64 o.sector, i64 o.offset] W (cx pa pb)) := fun W => Lib.hid (by have := of_any o.sector o.offset W; rw [hpl] at this; exact this)
      have P1 := fun W => Lib.hid (parts_yes W hkk hpp)
      clear hkk hpp hpl
      go_wp2_with fail
      refine (P0 _).out.mono ?_; rintro e x2 ⟨rfl, rfl⟩
      go_wp2_with fail
      refine (P1 _).out.mono ?_; rintro e x2 ⟨rfl, rfl⟩
      go_wp2_with fail
      have ngw : ¬ O w.heap.size := fun hq => Nat.lt_irrefl _ (st1.out.ge _ hq)
      have q0 := fun q : OutOf O x2 => out_rd z0 ngw e0 q
      have q1' := fun q : OutOf O x2 => out_rd z0 ngw e1 q
      have r0 := fun q : OutOf O x2 => out_rd zo nog c0 q
      have r1 := fun q : OutOf O x2 => out_rd zo nog c1 q
      have r2 := fun q : OutOf O x2 => out_rd zo nog c2 q
      have r3 := fun q : OutOf O x2 => out_rd zo nog c3 q
      have r4 := fun q : OutOf O x2 => out_rd zo nog c4 q
      have r5 := fun q : OutOf O x2 => out_rd zo nog c5 q
      have r6 := fun q : OutOf O x2 => out_rd zo nog c6 q
      refine wp_region_po (fun w' => ∃ p : OutOf O x2, w' = p.v) 5 [2, 4] (by kernel_rfl) (by kernel_rfl) ⟨⟨_, Out.of_below (Base.dr (Below.refl _ _))⟩, rfl⟩ ?_
      simp only [List.take_succ_cons, List.take_zero, List.drop_succ_cons, List.drop_zero]
      have on0 := @on_rd0; have on1 := @on_rd1; have on2 := @on_rd2; have on3 := @on_new1; have on4 := @on_new2; have on5 := @gr_rd0
      repeat ((with_reducible refine seq_read ?_ ?_); (focus rfl); (intro K hK); (unfold readsAt); go_simp; first | ((with_reducible refine hK _ ?_); clear hK K) | (rw [if_neg (by intro h; cases h)]; (with_reducible refine hK _ ?_); clear hK K))
      refine seq_eff (by rfl) (by first | rfl | go_simp) ?_
      intro K hK
      unfold effAt2
      go_simp
      refine ⟨rfl, (G4 _).out.mono ?_⟩; rintro e x3 ⟨vd, vw, vb, rows, Zc, rfl, hn⟩
      have bel3 : Below x2.heap.size x2 x3 := Base.tr (Base.dr (Below.refl _ _)) hn.below
      refine ⟨_, rfl, ⟨⟨_, Out.of_below bel3⟩, rfl⟩, hK _ _ ?_⟩
      clear hK K
      obtain ⟨R, hRv, hr3, hRm, hRl⟩ := hn.ref HG.out st1.out.dev.lim (fresh0 s z)
      have st3 := Lib.hid (st1.out.on' bel3)
      have fit : DoFit O (fun _ => False) x3 N (nor0 s z) R o lb :=
        ⟨st3.out.dev, hr3.wider (by rintro k (hk | hk); exact .inl hk; exact hk.elim), fun k hk => hk.elim, st3.out.S.symm, st3.out.Z.symm, st3.out.bd.mono (by omega), (bd_fresh (fresh0 s z)).mono (by omega), by rw [hRm]; decide, by rw [hRl]; decide, hoi.fit st3.out.below (fun k hk => Nat.le_of_lt (st3.out.ge k hk)) hlb⟩
      have HD := do_any fit
      rw [← hRv, show ptrD N = .pointer (some ⟨N.D, 0, none⟩) from rfl, st1.out.D] at HD
      have HD := Lib.hid HD
      clear fit hr3 hRv hRm hRl hn
      repeat ((with_reducible refine seq_read ?_ ?_); (focus rfl); (intro K hK); (unfold readsAt); go_simp; first | ((with_reducible refine hK _ ?_); clear hK K) | (rw [if_neg (by intro h; cases h)]; (with_reducible refine hK _ ?_); clear hK K))
      refine seq_eff (by rfl) (by first | rfl | go_simp) ?_
      intro K hK
      unfold effAt2
      go_simp
      refine ⟨rfl, HD.out.mono ?_⟩; rintro e x4 ⟨bb, R', O', g, rfl, -, hd4, -, ho4, hO4, -, -⟩
      have ho24 := (Out.of_below (O := O) bel3).trans ho4
      refine ⟨_, rfl, ⟨⟨_, ho24⟩, rfl⟩, hK _ _ ?_⟩
      clear hK K
      repeat ((with_reducible refine seq_read ?_ ?_); (focus rfl); (intro K hK); (unfold readsAt); go_simp; first | ((with_reducible refine hK _ ?_); clear hK K) | (rw [if_neg (by intro h; cases h)]; (with_reducible refine hK _ ?_); clear hK K))
      clear on0 on1 on2 on3 on4 on5
      with_reducible refine seq_nil ?_
      clear HD q0 q1' r0 r1 r2 r3 r4 r5 r6 c0 c1 c2 c3 c4 c5 c6 zo e0 e1 z0 P0 P1 st3
      have h23 := bel3.size
      have hO24 : ∀ k, O' k → O k ∨ x2.heap.size ≤ k := fun k hk => by rcases hO4 k hk with h1 | h1; exact .inl h1; exact .inr (by omega)
      obtain ⟨N3, hN3⟩ : ∃ N3, N.doo o lb g = N3 := ⟨_, rfl⟩
      have HF := HFALL g
      have hS3 := doo_S N o lb g
      have hB3 := doo_Bd st1.out.bd o lb g hoi.n64.2
      rw [hN3] at HF hS3 hB3 hd4
      obtain ⟨hS3, hZ3, hD3⟩ := hS3
      rw [st1.out.S] at hS3
      rw [st1.out.Z] at hZ3
      rw [st1.out.D] at hD3
      have bo4 := Lib.hid (ho24.blk bo1.out nog)
      have ge4 := Lib.hid (ho24.blk st1.out.geo ngw)
      have was4 := st1.out.was.out ho24 hO24
      have gw := (Array.getElem?_eq_some_iff.1 st1.out.geo).1
      have gg := (Array.getElem?_eq_some_iff.1 bo1.out).1
      have nog4 : ¬ O' gq := fun hq => by rcases hO24 gq hq with h1 | h1; exact nog h1; omega
      have ngw4 : ¬ O' w.heap.size := fun hq => by rcases hO24 _ hq with h1 | h1; exact ngw h1; omega
      have hge4 : ∀ k, O' k → w.heap.size < k := fun k hk => by rcases hO24 k hk with h1 | h1; exact st1.out.ge k h1; omega
      have bel4 : Below w.heap.size w x4 := st1.out.below.trans (ho24.base (fun k hk => Nat.le_of_lt (st1.out.ge k hk)) st1.out.below.size)
      have hdl : N.data.length = s := by rw [st1.out.dev.dl, st1.out.S]
      have hrw : ∀ l ∈ N.data, l.length = z ∧ ∀ x ∈ l, x < 256 := fun l hl => by have := st1.out.dev.row l hl; rw [st1.out.Z] at this; exact this
      have hdl3 : N3.data.length = s := by rw [hd4.dl, hS3]
      have hrw3 : ∀ l ∈ N3.data, l.length = z ∧ ∀ x ∈ l, x < 256 := fun l hl => by have := hd4.row l hl; rw [hZ3] at this; exact this
      obtain ⟨er, her⟩ : ∃ er : Bool, decide (N.wearAt o.sector < N3.wearAt o.sector) = er := ⟨_, rfl⟩
      have HFA : Hid (∀ (k : Nat) (l l' : List Nat), N.data[k]? = some l → N3.data[k]? = some l' → ((k : Int) = o.sector ∧ er = true) ∨
          (∀ (i x x' : Nat), l[i]? = some x → l'[i]? = some x' → (∃ y, x' = x &&& y) ∧ (x' = x ∨ o.kind = 0 ∧ k = kk ∧ pp ≤ i ∧ i < pp + lb.length))) := Lib.hid (by
        intro k l l' h1 h2
        refine (HF.out k l l' h1 h2).imp (fun h => ⟨h.1, ?_⟩) id
        rw [← her]
        exact decide_eq_true h.2)
      have CW := wear_any hd4 o.sector
      rw [show ptrD N3 = .pointer (some ⟨N3.D, 0, none⟩) from rfl, hD3] at CW
      have CW := Lib.hid CW
      have CO := on_any hd4
      rw [show ptrD N3 = .pointer (some ⟨N3.D, 0, none⟩) from rfl, hD3] at CO
      have CO := Lib.hid CO
      clear HF HFALL hN3 ho24 ho4 hO24 hO4 st1 bo1 nog ngw bel3 h23
      have fo := cell_blk bo4.out
      have c0 : x4.cell? ⟨gq, 0, none⟩ = some (i64 o.kind) := fo 0
      have c1 : x4.cell? ⟨gq, 1, none⟩ = some (i64 o.sector) := fo 1
      have c2 : x4.cell? ⟨gq, 2, none⟩ = some (i64 o.offset) := fo 2
      have c3 : x4.cell? ⟨gq, 3, none⟩ = some (.slice o.A o.bn o.bc) := fo 3
      have c4 : x4.cell? ⟨gq, 4, none⟩ = some (i64 o.n) := fo 4
      have c5 : x4.cell? ⟨gq, 5, none⟩ = some (i64 o.k) := fo 5
      have c6 : x4.cell? ⟨gq, 6, none⟩ = some (bv o.mask) := fo 6
      have zo : gq < x4.heap.size := (Array.getElem?_eq_some_iff.1 bo4.out).1
      clear fo
      go_wp2_with fail
      with_reducible refine CW.out.mono ?_
      rintro e x5 ⟨rfl, rfl⟩
      go_wp2_with fail
      with_reducible refine CO.out.mono ?_
      rintro e x6 ⟨rfl, hx6'⟩
      have hd6 : DevR O' x6 { N3 with off := false } := by rw [hx6', ← hD3]; exact hd4.on
      have ho6 : Out O' x5 x6 := by rw [hx6', ← hD3]; exact (Out.refl O' x5).set hd4.ownD _ _
      have bo6 := Lib.hid (ho6.blk bo4.out nog4)
      have ge6 := Lib.hid (ho6.blk ge4.out ngw4)
      have was6 := was4.out ho6 (fun _ hk => .inl hk)
      have bel6 : Below w.heap.size w x6 := bel4.trans (ho6.base (fun k hk => Nat.le_of_lt (hge4 k hk)) bel4.size)
      have GA := all_any hd6 rfl
      rw [show ptrD { N3 with off := false } = .pointer (some ⟨N3.D, 0, none⟩) from rfl, hD3] at GA
      have GA : Calls Try.prog 35 #[.pointer (some ⟨D0, 0, none⟩), geo s z] x6 fun e w' => ∃ v, e = .returned v ∧ AllR O' w' v N3.data ∧ Below x6.heap.size x6 w' := by
        have hs : (({ N3 with off := false } : Nor).S : Int) = s := by show (N3.S : Int) = s; rw [hS3]
        have hz : (({ N3 with off := false } : Nor).Z : Int) = z := by show (N3.Z : Int) = z; rw [hZ3]
        rw [hs, hz] at GA
        exact GA
      have GA := Lib.hid GA
      clear CW CO hx6' ho6 bo4 ge4 was4 bel4 c0 c1 c2 c3 c4 c5 c6 zo
      have e0 : x6.cell? ⟨w.heap.size, 0, none⟩ = some (i64 s) := cell_blk ge6.out 0
      have e1 : x6.cell? ⟨w.heap.size, 1, none⟩ = some (i64 z) := cell_blk ge6.out 1
      have z0 : w.heap.size < x6.heap.size := (Array.getElem?_eq_some_iff.1 ge6.out).1
      go_wp2_with fail
      refine GA.out.mono ?_; rintro e x7 ⟨v7, rfl, now7, hb7⟩
      have hd7 := hd6.below hb7
      have HST : ∀ W, Below x7.heap.size x7 W → Hid (FallSt w s z D0 W (j + 1) { N3 with off := false } O' v7) := fun W hW =>
        Lib.hid ⟨hd7.below hW, rfl, now7.below hW, hge4, ⟨hB3.acts, hB3.offs, hB3.wear, hB3.cut⟩, hS3, hZ3, hD3, blk_below (blk_below ge6.out hb7) hW, Base.tr (Base.tr bel6 hb7) hW⟩
      have was7 := was6.below hb7
      have bo7 := blk_below bo6.out hb7
      have ge7 := blk_below ge6.out hb7
      clear e0 e1 z0 GA hd7 hd6 hd4 was6 bo6 ge6 bel6 hb7 hB3 nog4 ngw4 hge4
      obtain ⟨b1, cp1, rows1, rfl, -, b1l, r1l, hc1, hr1⟩ := was7.ex
      obtain ⟨b2, cp2, rows2, rfl, -, b2l, r2l, hc2, hr2⟩ := now7.ex
      rw [hdl] at r1l ⊢
      rw [hdl3] at r2l HST ⊢
      clear was7 now7
      have e0 : x7.cell? ⟨w.heap.size, 0, none⟩ = some (i64 s) := cell_blk ge7 0
      have e1 : x7.cell? ⟨w.heap.size, 1, none⟩ = some (i64 z) := cell_blk ge7 1
      have z0 : w.heap.size < x7.heap.size := (Array.getElem?_eq_some_iff.1 ge7).1
      go_wp2_with fail
      clear e0 e1 z0
      go_loopw [76] (fun i wr => ∃ k : Nat, k ≤ s ∧ i = .int .i64 k ∧ Below x7.heap.size x7 wr) (fun i _ => s - (intOf i).toNat)
      case atStart => exact ⟨0, Nat.zero_le _, rfl, Below.refl _ _⟩
      case round =>
        obtain ⟨k, hk, rfl, hb⟩ := hrel
        by_cases hks : k < s
        · obtain ⟨l, hl⟩ : ∃ l, N.data[k]? = some l := ⟨_, List.getElem?_eq_getElem (by omega)⟩
          obtain ⟨l', hl'⟩ : ∃ l, N3.data[k]? = some l := ⟨_, List.getElem?_eq_getElem (by omega)⟩
          obtain ⟨r1, hr1k⟩ : ∃ r, rows1[k]? = some r := ⟨_, List.getElem?_eq_getElem (by omega)⟩
          obtain ⟨r2, hr2k⟩ : ∃ r, rows2[k]? = some r := ⟨_, List.getElem?_eq_getElem (by omega)⟩
          obtain ⟨g1, k1, rfl, -, g1l, hx1⟩ := hr1 k r1 l hr1k hl
          obtain ⟨g2, k2, rfl, -, g2l, hx2⟩ := hr2 k r2 l' hr2k hl'
          obtain ⟨hll, hl8⟩ := hrw l (List.mem_of_getElem? hl)
          obtain ⟨hll', hl8'⟩ := hrw3 l' (List.mem_of_getElem? hl')
          rw [hll] at hr1k
          rw [hll'] at hr2k
          have d1 := hc1 k _ hr1k
          have d2 := hc2 k _ hr2k
          have HFK := fun i x x' => Lib.hid (HFA.out k l l' hl hl' |>.imp id (fun h => h i x x'))
          have f1 : wr.cell? ⟨b1, k, none⟩ = some (.slice (some ⟨g1, 0, none⟩) z k1) := by rw [hb.cell b1l]; exact d1
          have f2 : wr.cell? ⟨b2, k, none⟩ = some (.slice (some ⟨g2, 0, none⟩) z k2) := by rw [hb.cell b2l]; exact d2
          have z1 : b1 < wr.heap.size := Nat.lt_of_lt_of_le b1l hb.size
          have z2 : b2 < wr.heap.size := Nat.lt_of_lt_of_le b2l hb.size
          have geb := blk_below ge7 hb
          have e0 : wr.cell? ⟨w.heap.size, 0, none⟩ = some (i64 s) := cell_blk geb 0
          have e1 : wr.cell? ⟨w.heap.size, 1, none⟩ = some (i64 z) := cell_blk geb 1
          have z0 : w.heap.size < wr.heap.size := (Array.getElem?_eq_some_iff.1 geb).1
          have q1 := fun q => on_cell (w := wr) z1 f1 q
          have q2 := fun q => on_cell (w := wr) z2 f2 q
          have q3 := fun q => on_cell (w := wr) z0 e1 q
          clear hl hl' hr1k hr2k
          go_wp2_with fail
          have on0 := @on_rd0; have on1 := @on_rd1; have on2 := @on_rd2; have on3 := @on_new1; have on4 := @on_new2
          refine wp_region_quiet_on (by kernel_rfl) (by kernel_rfl) ?_
          repeat ((with_reducible refine wpQuiet_step (fun K hK => ?_)); go_simp; first | ((with_reducible refine hK _ ?_); clear hK K) | (rw [if_neg (by intro h; cases h)]; (with_reducible refine hK _ ?_); clear hK K) | (apply Exists.intro; refine ⟨fun _ => ?_, hK _ ?_⟩; (fail); clear hK K))
          clear on0 on1 on2 on3 on4
          with_reducible refine wpQuiet_nil ?_
          intro _ hw'
          obtain ⟨pq, hw''⟩ := hw'
          subst hw''
          have B7 := Lib.hid (Base.tr hb pq.h)
          clear q1 q2 q3 f1 f2 z1 z2 e0 e1 z0 geb hb
          generalize pq.v = wo at *
          have f2 : wo.cell? ⟨b2, k, none⟩ = some (.slice (some ⟨g2, 0, none⟩) z k2) := by rw [B7.out.cell b2l]; exact d2
          go_wp2_with fail
          clear f2
          go_loopw [102] (fun i wr => ∃ i' : Nat, i' ≤ z ∧ i = .int .i64 i' ∧ Below wo.heap.size wo wr) (fun i _ => z - (intOf i).toNat)
          case atStart => exact ⟨0, Nat.zero_le _, rfl, Below.refl _ _⟩
          case round =>
            obtain ⟨i, hi, rfl, hbi⟩ := hrel
            by_cases hiz : i < z
            · obtain ⟨x, hx⟩ : ∃ x, l[i]? = some x := ⟨_, List.getElem?_eq_getElem (by omega)⟩
              obtain ⟨x', hx'⟩ : ∃ x, l'[i]? = some x := ⟨_, List.getElem?_eq_getElem (by omega)⟩
              have B8 := Base.tr B7.out hbi
              have hx8 := hl8 x (List.mem_of_getElem? hx)
              have f1 : wr.cell? ⟨b1, k, none⟩ = some (.slice (some ⟨g1, 0, none⟩) z k1) := by rw [B8.cell b1l]; exact d1
              have u1 : wr.cell? ⟨g1, i, none⟩ = some (bv x) := by rw [B8.cell g1l]; exact hx1 i x hx
              have u2 : wr.cell? ⟨g2, i, none⟩ = some (bv x') := by rw [B8.cell g2l]; exact hx2 i x' hx'
              have bo8 := blk_below bo7 B8
              have fo := cell_blk bo8
              have c0 : wr.cell? ⟨gq, 0, none⟩ = some (i64 o.kind) := fo 0
              have c1 : wr.cell? ⟨gq, 1, none⟩ = some (i64 o.sector) := fo 1
              have c2 : wr.cell? ⟨gq, 2, none⟩ = some (i64 o.offset) := fo 2
              have c3 : wr.cell? ⟨gq, 3, none⟩ = some (.slice o.A o.bn o.bc) := fo 3
              have c4 : wr.cell? ⟨gq, 4, none⟩ = some (i64 o.n) := fo 4
              have c5 : wr.cell? ⟨gq, 5, none⟩ = some (i64 o.k) := fo 5
              have c6 : wr.cell? ⟨gq, 6, none⟩ = some (bv o.mask) := fo 6
              have zo : gq < wr.heap.size := (Array.getElem?_eq_some_iff.1 bo8).1
              clear fo
              have HX := (HFK i x x').out
              clear bo8 B8 hx1 hx2 hll hll' hl8 hl8' d1 d2
              by_cases hsec : (k : Int) = o.sector
              · have hs1 : ((k : Int) == o.sector) = true := by rw [beq_iff_eq]; exact hsec
                have hs2 : decide ((k : Int) = o.sector) = true := decide_eq_true hsec
                have HSEC := Lib.hid hsec
                clear hsec
                cases er
                · rcases HX with hA | hB
                  · exact absurd hA.2 (by decide)
                  · obtain ⟨⟨y, hy⟩, hch⟩ := hB hx hx'
                    have hand : bits .andNot .u8 (x' : Int) (x : Int) = 0 := by rw [hy]; exact andNot_gone hx8
                    clear hy hx hx' hB
                    by_cases hxx : x' = x
                    · subst hxx
                      clear hch
                      go_wp2_with fail
                      exact ⟨⟨i + 1, by omega, by go_num, hbi⟩, by simp [intOf]; omega⟩
                    · obtain ⟨hk0, hkk, hlo, hhi⟩ := hch.resolve_left hxx
                      have hlo' : decide (i < pp) = false := decide_eq_false (by omega)
                      have hhi1 : ¬ ((pp : Int) + (o.bn : Int) ≤ (i : Int)) := by have := LN.out; omega
                      have hhi2 : ¬ (pp + o.bn ≤ i) := by have := LN.out; omega
                      have kw : IntKind.i64.wrap ((pp : Int) + (o.bn : Int)) = (pp : Int) + (o.bn : Int) := by have := LN.out; rw [IntKind.wrap_i64]; omega
                      have hx1 : (x' == x) = false := by rw [beq_eq_false_iff_ne]; exact hxx
                      have hx2 : ((x' : Int) == (x : Int)) = false := by rw [beq_eq_false_iff_ne]; omega
                      subst hkk
                      clear hlo hhi hch
                      go_wp2_with fail
                      exact ⟨⟨_, _, _, _, ⟨i + 1, by omega, by go_num⟩, rfl, rfl, rfl, rfl⟩, by simp [intOf]; omega⟩
                · clear HX hx hx'
                  go_wp2_with fail
                  exact ⟨⟨i + 1, by omega, by go_num, hbi⟩, by simp [intOf]; omega⟩
              · have hs1 : ((k : Int) == o.sector) = false := by rw [beq_eq_false_iff_ne]; exact hsec
                have hs2 : decide ((k : Int) = o.sector) = false := decide_eq_false hsec
                rcases HX with hA | hB
                · exact absurd hA.1 hsec
                · have HSEC := Lib.hid hsec
                  clear hsec
                  obtain ⟨⟨y, hy⟩, hch⟩ := hB hx hx'
                  have hand : bits .andNot .u8 (x' : Int) (x : Int) = 0 := by rw [hy]; exact andNot_gone hx8
                  clear hy hx hx' hB
                  by_cases hxx : x' = x
                  · subst hxx
                    clear hch
                    go_wp2_with fail
                    exact ⟨⟨i + 1, by omega, by go_num, hbi⟩, by simp [intOf]; omega⟩
                  · obtain ⟨hk0, hkk, hlo, hhi⟩ := hch.resolve_left hxx
                    have hlo' : decide (i < pp) = false := decide_eq_false (by omega)
                    have hhi1 : ¬ ((pp : Int) + (o.bn : Int) ≤ (i : Int)) := by have := LN.out; omega
                    have hhi2 : ¬ (pp + o.bn ≤ i) := by have := LN.out; omega
                    have kw : IntKind.i64.wrap ((pp : Int) + (o.bn : Int)) = (pp : Int) + (o.bn : Int) := by have := LN.out; rw [IntKind.wrap_i64]; omega
                    have hx1 : (x' == x) = false := by rw [beq_eq_false_iff_ne]; exact hxx
                    have hx2 : ((x' : Int) == (x : Int)) = false := by rw [beq_eq_false_iff_ne]; omega
                    subst hkk
                    clear hlo hhi hch
                    go_wp2_with fail
                    exact ⟨⟨_, _, _, _, ⟨i + 1, by omega, by go_num⟩, rfl, rfl, rfl, rfl⟩, by simp [intOf]; omega⟩
            · obtain rfl : i = z := by omega
              have B9 := Base.tr B7.out hbi
              go_wp2_with fail
              exact ⟨⟨k + 1, by omega, by go_num, B9⟩, by simp [intOf]; omega⟩
        · obtain rfl : k = s := by omega
          have HS := HST wr hb
          clear HST
          go_wp2_with fail
          exact ⟨⟨j + 1, _, O', by omega, by go_num, HS⟩, by simp [intOf]; omega⟩
    · obtain rfl : j = cn := by omega
      go_wp2_with fail
      refine (G0 _).out.mono ?_; rintro e x9 ⟨rfl, hb9⟩
      go_wp2_with fail
      go_ret
      exact ⟨rfl, Base.tr st.out.below hb9⟩
end Go.Proofs.Yteieaelinkdahaa

