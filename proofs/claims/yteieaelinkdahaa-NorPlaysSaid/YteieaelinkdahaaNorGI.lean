/- An operation of the law, of any kind; how far a device's counts go. -/
import Derived.Test.YteieaelinkdahaaNorD06
import Derived.Test.YteieaelinkdahaaNorDD
import Derived.Test.YteieaelinkdahaaNorD27
import Derived.Test.YteieaelinkdahaaNorD89
namespace Go.Proofs.Yteieaelinkdahaa
open Go.RowKit Flo

theorem do_any {O E : Nat → Prop} {w : World} {N M : Nor} {R : RV} {o : OpV} {lb : List Nat} (h : DoFit O E w N M R o lb) : Calls Try.prog 37 #[ptrD N, R.val M, o.val] w (DoPost O E w N M o lb) := by
  by_cases h0 : o.kind = 0
  · exact do0_any h h0
  by_cases h1 : o.kind = 1
  · exact do1_any h h1
  by_cases h2 : o.kind = 2
  · cases hoff : M.off
    · cases hwi : withinB M.S M.Z (ofPl o.sector o.offset).1 (ofPl o.sector o.offset).2 o.n
      · exact do2_out h h2 hoff hwi
      · by_cases hA : ∀ (k : Nat) ad n c, part? (ofPl o.sector o.offset).1 = some k → R.rows[k]? = some (.slice ad n c) → part? (ofPl o.sector o.offset).2 = some c
        · exact do2_inA h h2 hoff hwi hA
        · refine do2_inB h h2 hoff hwi ?_
          intro k ad n c hk hr hc
          refine hA fun k' ad' n' c' hk' hr' => ?_
          rw [hk] at hk'
          injection hk' with e
          subst e
          rw [hr] at hr'
          injection hr' with e
          injection e with _ _ e
          subst e
          exact hc
    · exact do2_off h h2 hoff
  by_cases h3 : o.kind = 3
  · exact do3_any h h3
  by_cases h4 : o.kind = 4
  · exact do4_any h h4
  by_cases h5 : o.kind = 5
  · exact do5_any h h5
  · exact do6_any h h0 h1 h2 h3 h4 h5

theorem act_S (N : Nor) (s p n : Nat) (upd : Nat → Nat → Nat → Nat) : (N.act s p n upd).2.S = N.S ∧ (N.act s p n upd).2.Z = N.Z ∧ (N.act s p n upd).2.wear = N.wear ∧ (N.act s p n upd).2.bad = N.bad ∧ (N.act s p n upd).2.D = N.D := by
  unfold Nor.act
  split
  · exact ⟨rfl, rfl, rfl, rfl, rfl⟩
  · split <;> exact ⟨rfl, rfl, rfl, rfl, rfl⟩
theorem act_Bd {N : Nor} {j : Nat} (h : Bd N j) (s p n : Nat) (upd : Nat → Nat → Nat → Nat) : Bd (N.act s p n upd).2 (j + 1) := by
  have h1 := h.acts
  have h2 := h.offs
  have hw : ∀ n ∈ N.wear, n ≤ j + 1 := fun n hn => by have := h.wear n hn; omega
  unfold Nor.act
  split
  · rename_i hc
    exact ⟨by show N.acts + 1 ≤ _; omega, by show N.offs ≤ _; omega, hw, fun c hq => by rw [show _ = N.cut from rfl, hc] at hq; cases hq⟩
  · rename_i c b m hc
    have h3 := h.cut _ hc
    split
    · exact ⟨by show N.acts + 1 ≤ _; omega, by show N.offs ≤ _; omega, hw, fun c' hq => by injection hq with hq; subst hq; show c - 1 ≤ _; have : c ≤ 9223372036854775807 := h3; omega⟩
    · exact ⟨by show N.acts + 1 ≤ _; omega, by show N.offs + 1 ≤ _; omega, hw, fun c' hq => by cases hq⟩
theorem doo_S (N : Nor) (o : OpV) (lb : List Nat) (g : Nat) : (N.doo o lb g).S = N.S ∧ (N.doo o lb g).Z = N.Z ∧ (N.doo o lb g).D = N.D := by
  have ha := fun (N : Nor) s p n upd => act_S N s p n upd
  unfold Nor.doo
  split
  · unfold Nor.prog
    split
    · exact ⟨rfl, rfl, rfl⟩
    · split
      · exact ⟨rfl, rfl, rfl⟩
      · split
        · exact ⟨rfl, rfl, rfl⟩
        · split
          · exact ⟨rfl, rfl, rfl⟩
          · obtain ⟨h1, h2, _, _, h5⟩ := ha N ((part? (ofPl o.sector o.offset).1).getD 0) ((part? (ofPl o.sector o.offset).2).getD 0) lb.length (fun i m old => pUp (lb.getD i 0) m old)
            exact ⟨h1, h2, h5⟩
  · split
    · unfold Nor.erase
      split
      · exact ⟨rfl, rfl, rfl⟩
      · split
        · exact ⟨rfl, rfl, rfl⟩
        · split
          · exact ⟨rfl, rfl, rfl⟩
          · obtain ⟨h1, h2, _, _, h5⟩ := ha { N with wear := N.wear.set o.sector.toNat (N.wear.getD o.sector.toNat 0 + 1) } o.sector.toNat 0 N.Z (fun _ m old => eUp m old)
            exact ⟨h1, h2, h5⟩
    · split
      · exact ⟨rfl, rfl, rfl⟩
      · split
        · exact ⟨rfl, rfl, rfl⟩
        · split
          · unfold Nor.turn; split <;> exact ⟨rfl, rfl, rfl⟩
          · split <;> exact ⟨rfl, rfl, rfl⟩
theorem Bd.mono {N : Nor} {i j : Nat} (h : Bd N i) (hij : i ≤ j) : Bd N j := ⟨Nat.le_trans h.acts hij, Nat.le_trans h.offs hij, fun n hn => Nat.le_trans (h.wear n hn) hij, h.cut⟩
theorem doo_Bd {N : Nor} {j : Nat} (h : Bd N j) (o : OpV) (lb : List Nat) (g : Nat) (h64 : o.n ≤ 9223372036854775807) : Bd (N.doo o lb g) (j + 1) := by
  have hm := h.mono (Nat.le_succ j)
  unfold Nor.doo
  split
  · unfold Nor.prog
    split
    · exact hm
    · split
      · exact hm
      · split
        · exact hm
        · split
          · exact hm
          · exact act_Bd h _ _ _ _
  · split
    · unfold Nor.erase
      split
      · exact hm
      · split
        · exact hm
        · split
          · exact hm
          · have hx : N.wear.getD o.sector.toNat 0 ≤ j := by
              rw [List.getD_eq_getElem?_getD]
              cases hq : N.wear[o.sector.toNat]? with
              | none => exact Nat.zero_le _
              | some x => exact h.wear x (List.mem_of_getElem? hq)
            obtain ⟨q1, q2, q3, _, _⟩ := act_S { N with wear := N.wear.set o.sector.toNat (N.wear.getD o.sector.toNat 0 + 1) } o.sector.toNat 0 N.Z (fun _ m old => eUp m old)
            have hb0 : Bd { N with wear := [] } j := ⟨h.acts, h.offs, (fun n hn => by cases hn), h.cut⟩
            have hb1 := act_Bd hb0 o.sector.toNat 0 N.Z (fun _ m old => eUp m old)
            have hsame : ∀ (W : List Nat), (Nor.act { N with wear := W } o.sector.toNat 0 N.Z (fun _ m old => eUp m old)).2 = { (Nor.act { N with wear := [] } o.sector.toNat 0 N.Z (fun _ m old => eUp m old)).2 with wear := W } := by
              intro W
              unfold Nor.act
              cases hc : N.cut with
              | none => rfl
              | some c =>
                obtain ⟨c, b, m⟩ := c
                show (if 0 < c then _ else _ : Nat × Nor).2 = { (if 0 < c then _ else _ : Nat × Nor).2 with wear := W }
                split <;> rfl
            rw [hsame]
            refine ⟨hb1.acts, hb1.offs, fun n hn => ?_, hb1.cut⟩
            rcases List.mem_or_eq_of_mem_set hn with h1 | h1
            · have := h.wear n h1; omega
            · omega
    · split
      · exact hm
      · split
        · exact ⟨hm.acts, hm.offs, hm.wear, fun c hc => by injection hc with hc; subst hc; show o.n.toNat ≤ _; omega⟩
        · split
          · unfold Nor.turn
            split
            · exact hm
            · exact ⟨hm.acts, by have := h.offs; show N.offs + 1 ≤ _; omega, hm.wear, fun c hc => by cases hc⟩
          · split
            · exact ⟨hm.acts, hm.offs, hm.wear, hm.cut⟩
            · exact ⟨hm.acts, hm.offs, hm.wear, hm.cut⟩
end Go.Proofs.Yteieaelinkdahaa

/- Does a device show the document's? -/
namespace Go.Proofs.Yteieaelinkdahaa
open Go.RowKit Flo

theorem part_near {n : Nat} (h : n ≤ 2147483647) : part? (near n) = some n := part_some (nearest_Whole h)
theorem ofPl_in {a b : Nat} (ha : a ≤ 2147483647) (hb : b ≤ 2147483647) : ofPl a b = (near a, near b) := by unfold ofPl; rw [if_neg (by omega)]
theorem got_row {N : Nor} {s : Nat} {l : List Nat} (hoff : N.off = false) (hl : N.data[s]? = some l) (hs : s < N.S) (hS : N.S ≤ 64) (hll : l.length = N.Z) : N.got (near s) (near 0) N.Z = (l, 0) := by
  unfold Nor.got
  have h0 : part? (near 0) = some 0 := part_near (n := 0) (by decide)
  have h1 := part_near (n := s) (by omega)
  rw [if_neg (by rw [hoff]; decide), within_yes h1 h0, if_pos (by simp; omega), h1, h0]
  have : N.data.getD s [] = l := by rw [List.getD_eq_getElem?_getD, hl]; rfl
  show (((N.data.getD s []).drop 0).take ((N.Z : Int)).toNat, 0) = _
  rw [this, List.drop_zero, Int.toNat_natCast, ← hll, List.take_length]

set_option maxHeartbeats 4000000 in
set_option maxRecDepth 100000 in
theorem same_any {O : Nat → Prop} {w : World} {N : Nor} {R : RV} (hd : DevR O w N) (hr : RefR O w R N) : Calls Try.prog 40 #[ptrD N, R.val N] w fun e w' => e = .returned (.bool true) ∧ Out O w w' := by
  have lim := hd.lim
  have hgeo := geoB_yes hd.geo
  have lb0 : Hid (Below w.heap.size w (w.alloc (.cells #[i64 N.S, i64 N.Z, .slice R.dA N.S R.dc, .slice R.wA N.S R.wc, .slice R.bA N.S R.bc, .bool N.off, i64 N.offs, i64 N.acts, .bool N.cut.isSome, i64 R.left, i64 R.whole, .int .u8 R.mask] 71))) := Lib.hid (Base.al (Below.refl _ _) _)
  have bb0 : Hid ((w.alloc (.cells #[i64 N.S, i64 N.Z, .slice R.dA N.S R.dc, .slice R.wA N.S R.wc, .slice R.bA N.S R.bc, .bool N.off, i64 N.offs, i64 N.acts, .bool N.cut.isSome, i64 R.left, i64 R.whole, .int .u8 R.mask] 71)).heap[w.heap.size]? = some (Obj.cells #[i64 N.S, i64 N.Z, .slice R.dA N.S R.dc, .slice R.wA N.S R.wc, .slice R.bA N.S R.bc, .bool N.off, i64 N.offs, i64 N.acts, .bool N.cut.isSome, i64 R.left, i64 R.whole, .int .u8 R.mask] 71 (0, 0))) := Lib.hid (blk_new _ _)
  show Calls Try.prog 40 #[ptrD N, .agg #[i64 N.S, i64 N.Z, .slice R.dA N.S R.dc, .slice R.wA N.S R.wc, .slice R.bA N.S R.bc, .bool N.off, i64 N.offs, i64 N.acts, .bool N.cut.isSome, i64 R.left, i64 R.whole, .int .u8 R.mask]] w _
  go_enter Try.func40, Try.ntmps40
  go_wp2_with fail
  generalize w.alloc _ = x2 at *
  have hd2 := hd.below lb0.out
  have hw1 : N.wearAt (-1) = 0 := by unfold Nor.wearAt; rw [if_neg (by omega)]
  have hw2 : N.wearAt N.S = 0 := by unfold Nor.wearAt; rw [if_neg (by omega)]
  have C1 := fun q : OnOf x2 => Lib.hid (isOn_any (hd2.below q.h))
  have C2 := fun q : OnOf x2 => Lib.hid (offs_any (hd2.below q.h))
  have C3 := fun q : OnOf x2 => Lib.hid (acts_any (hd2.below q.h))
  have C4 := fun q : OnOf x2 => Lib.hid (geom_any (hd2.below q.h))
  have C5 : ∀ q : OnOf x2, Hid (Gives 18 #[ptrD N, i64 (-1)] q.v (i64 0)) := fun q => Lib.hid (by have := wear_any (hd2.below q.h) (-1); rw [hw1] at this; exact this)
  have C6 : ∀ q : OnOf x2, Hid (Gives 18 #[ptrD N, i64 N.S] q.v (i64 0)) := fun q => Lib.hid (by have := wear_any (hd2.below q.h) N.S; rw [hw2] at this; exact this)
  have fd := cell_blk bb0.out
  have f0 : x2.cell? ⟨w.heap.size, 0, none⟩ = some (i64 N.S) := fd 0
  have f1 : x2.cell? ⟨w.heap.size, 1, none⟩ = some (i64 N.Z) := fd 1
  have f2 : x2.cell? ⟨w.heap.size, 2, none⟩ = some (.slice R.dA N.S R.dc) := fd 2
  have f3 : x2.cell? ⟨w.heap.size, 3, none⟩ = some (.slice R.wA N.S R.wc) := fd 3
  have f4 : x2.cell? ⟨w.heap.size, 4, none⟩ = some (.slice R.bA N.S R.bc) := fd 4
  have f5 : x2.cell? ⟨w.heap.size, 5, none⟩ = some (.bool N.off) := fd 5
  have f6 : x2.cell? ⟨w.heap.size, 6, none⟩ = some (i64 N.offs) := fd 6
  have f7 : x2.cell? ⟨w.heap.size, 7, none⟩ = some (i64 N.acts) := fd 7
  have f8 : x2.cell? ⟨w.heap.size, 8, none⟩ = some (.bool N.cut.isSome) := fd 8
  have f9 : x2.cell? ⟨w.heap.size, 9, none⟩ = some (i64 R.left) := fd 9
  have f10 : x2.cell? ⟨w.heap.size, 10, none⟩ = some (i64 R.whole) := fd 10
  have f11 : x2.cell? ⟨w.heap.size, 11, none⟩ = some (.int .u8 R.mask) := fd 11
  have zd : w.heap.size < x2.heap.size := (Array.getElem?_eq_some_iff.1 bb0.out).1
  clear fd
  have q0 := fun q => on_cell (w := x2) zd f0 q
  have q1 := fun q => on_cell (w := x2) zd f1 q
  have q2 := fun q => on_cell (w := x2) zd f2 q
  have q3 := fun q => on_cell (w := x2) zd f3 q
  have q4 := fun q => on_cell (w := x2) zd f4 q
  have q5 := fun q => on_cell (w := x2) zd f5 q
  have q6 := fun q => on_cell (w := x2) zd f6 q
  have q7 := fun q => on_cell (w := x2) zd f7 q
  have q8 := fun q => on_cell (w := x2) zd f8 q
  have q9 := fun q => on_cell (w := x2) zd f9 q
  have q10 := fun q => on_cell (w := x2) zd f10 q
  have q11 := fun q => on_cell (w := x2) zd f11 q
  clear hw1 hw2
  have on0 := @on_rd0; have on1 := @on_rd1; have on2 := @on_rd2; have on3 := @on_new1; have on4 := @on_new2
  refine wp_region_quiet_on (by kernel_rfl) (by kernel_rfl) ?_
  repeat ((with_reducible refine wpQuiet_step (fun K hK => ?_)); go_simp; first | ((with_reducible refine hK _ ?_); clear hK K) | (rw [if_neg (by intro h; cases h)]; (with_reducible refine hK _ ?_); clear hK K) | (apply Exists.intro; refine ⟨fun _ => ?_, hK _ ?_⟩; (first | (with_reducible exact on_of_same (C1 _).out) | (with_reducible exact on_of_same (C2 _).out) | (with_reducible exact on_of_same (C3 _).out) | (with_reducible exact on_of (C4 _).out) | (with_reducible exact on_of_same (C5 _).out) | (with_reducible exact on_of_same (C6 _).out)); clear hK K))
  clear on0 on1 on2 on3 on4
  with_reducible refine wpQuiet_nil ?_
  intro _ hw'
  obtain ⟨pq, hw''⟩ := hw'
  subst hw''
  have hd3 := hd2.below pq.h
  have B3 := Lib.hid (Base.tr lb0.out pq.h)
  have bb3 := Lib.hid (blk_below bb0.out pq.h)
  clear C1 C2 C3 C4 C5 C6 q0 q1 q2 q3 q4 q5 q6 q7 q8 q9 q10 q11 f0 f1 f2 f3 f4 f5 f6 f7 f8 f9 f10 f11 zd bb0 lb0
  generalize pq.v = x3 at *
  have fd := cell_blk bb3.out
  have f0 : x3.cell? ⟨w.heap.size, 0, none⟩ = some (i64 N.S) := fd 0
  have f1 : x3.cell? ⟨w.heap.size, 1, none⟩ = some (i64 N.Z) := fd 1
  have f2 : x3.cell? ⟨w.heap.size, 2, none⟩ = some (.slice R.dA N.S R.dc) := fd 2
  have f3 : x3.cell? ⟨w.heap.size, 3, none⟩ = some (.slice R.wA N.S R.wc) := fd 3
  have f4 : x3.cell? ⟨w.heap.size, 4, none⟩ = some (.slice R.bA N.S R.bc) := fd 4
  have f5 : x3.cell? ⟨w.heap.size, 5, none⟩ = some (.bool N.off) := fd 5
  have f6 : x3.cell? ⟨w.heap.size, 6, none⟩ = some (i64 N.offs) := fd 6
  have f7 : x3.cell? ⟨w.heap.size, 7, none⟩ = some (i64 N.acts) := fd 7
  have f8 : x3.cell? ⟨w.heap.size, 8, none⟩ = some (.bool N.cut.isSome) := fd 8
  have f9 : x3.cell? ⟨w.heap.size, 9, none⟩ = some (i64 R.left) := fd 9
  have f10 : x3.cell? ⟨w.heap.size, 10, none⟩ = some (i64 R.whole) := fd 10
  have f11 : x3.cell? ⟨w.heap.size, 11, none⟩ = some (.int .u8 R.mask) := fd 11
  have zd : w.heap.size < x3.heap.size := (Array.getElem?_eq_some_iff.1 bb3.out).1
  clear fd
  have CO := Lib.hid (on_any hd3)
  go_wp2_with fail
  refine CO.out.mono ?_; rintro e x4 ⟨rfl, hx4⟩
  have hd4 := hd3.on
  rw [← hx4] at hd4
  have ho4 : Out O x3 x4 := by rw [hx4]; exact (Out.refl O x3).set hd3.ownD _ _
  have bb4 := Lib.hid (ho4.blk bb3.out (fun hq => Nat.lt_irrefl _ (lim _ hq)))
  have hr4 := hr.out ((Out.of_below B3.out).trans ho4)
  have O4 : Hid (Out O w x4) := Lib.hid ((Out.of_below B3.out).trans ho4)
  clear hx4 CO ho4 B3 bb3 hd3 f0 f1 f2 f3 f4 f5 f6 f7 f8 f9 f10 f11 zd hd2
  have fd := cell_blk bb4.out
  have f0 : x4.cell? ⟨w.heap.size, 0, none⟩ = some (i64 N.S) := fd 0
  have f1 : x4.cell? ⟨w.heap.size, 1, none⟩ = some (i64 N.Z) := fd 1
  have f2 : x4.cell? ⟨w.heap.size, 2, none⟩ = some (.slice R.dA N.S R.dc) := fd 2
  have f3 : x4.cell? ⟨w.heap.size, 3, none⟩ = some (.slice R.wA N.S R.wc) := fd 3
  have f4 : x4.cell? ⟨w.heap.size, 4, none⟩ = some (.slice R.bA N.S R.bc) := fd 4
  have f5 : x4.cell? ⟨w.heap.size, 5, none⟩ = some (.bool N.off) := fd 5
  have f6 : x4.cell? ⟨w.heap.size, 6, none⟩ = some (i64 N.offs) := fd 6
  have f7 : x4.cell? ⟨w.heap.size, 7, none⟩ = some (i64 N.acts) := fd 7
  have f8 : x4.cell? ⟨w.heap.size, 8, none⟩ = some (.bool N.cut.isSome) := fd 8
  have f9 : x4.cell? ⟨w.heap.size, 9, none⟩ = some (i64 R.left) := fd 9
  have f10 : x4.cell? ⟨w.heap.size, 10, none⟩ = some (i64 R.whole) := fd 10
  have f11 : x4.cell? ⟨w.heap.size, 11, none⟩ = some (.int .u8 R.mask) := fd 11
  have zd : w.heap.size < x4.heap.size := (Array.getElem?_eq_some_iff.1 bb4.out).1
  clear fd
  go_wp2_with fail
  clear f0 f1 f2 f3 f4 f5 f6 f7 f8 f9 f10 f11 zd
  go_loopw [52] (fun i wr => ∃ j : Nat, j ≤ N.S ∧ i = .int .i64 j ∧ Below x4.heap.size x4 wr) (fun i _ => N.S - (intOf i).toNat)
  case atStart => exact ⟨0, Nat.zero_le _, rfl, Below.refl _ _⟩
  case round =>
    obtain ⟨j, hj, rfl, hb⟩ := hrel
    by_cases hlt : j < N.S
    · have hdr := hd4.below hb
      have bbr := blk_below bb4.out hb
      have hrr := hr4.below hb
      have hjd : j < N.data.length := by rw [hr.dl]; exact hlt
      obtain ⟨l, hl⟩ : ∃ l, N.data[j]? = some l := ⟨_, List.getElem?_eq_getElem hjd⟩
      have hll := (hr.all l (List.mem_of_getElem? hl)).1
      have P0 : ∀ W, Hid (Gives 10 #[i64 j, i64 0] W (cx (near j) (near 0))) := fun W => Lib.hid (of_in j 0 W (by omega) (by omega) (by omega) (by omega))
      have HRd : ∀ W, Below wr.heap.size wr W → Hid (Calls Try.prog 15 #[ptrD N, cx (near j) (near 0), i64 N.Z] W (ReadPost W l 0)) := by
        intro W hW
        have := read_any (hdr.below hW) (near j) (near 0) N.Z
        have hg : Nor.got { N with off := false } (near j) (near 0) N.Z = (l, 0) := got_row (N := { N with off := false }) rfl hl hlt (by show N.S ≤ 64; omega) hll
        rw [hg] at this
        exact Lib.hid this
      have fd := cell_blk bbr
      have f0 : wr.cell? ⟨w.heap.size, 0, none⟩ = some (i64 N.S) := fd 0
      have f1 : wr.cell? ⟨w.heap.size, 1, none⟩ = some (i64 N.Z) := fd 1
      have f2 : wr.cell? ⟨w.heap.size, 2, none⟩ = some (.slice R.dA N.S R.dc) := fd 2
      have f3 : wr.cell? ⟨w.heap.size, 3, none⟩ = some (.slice R.wA N.S R.wc) := fd 3
      have f4 : wr.cell? ⟨w.heap.size, 4, none⟩ = some (.slice R.bA N.S R.bc) := fd 4
      have f5 : wr.cell? ⟨w.heap.size, 5, none⟩ = some (.bool N.off) := fd 5
      have f6 : wr.cell? ⟨w.heap.size, 6, none⟩ = some (i64 N.offs) := fd 6
      have f7 : wr.cell? ⟨w.heap.size, 7, none⟩ = some (i64 N.acts) := fd 7
      have f8 : wr.cell? ⟨w.heap.size, 8, none⟩ = some (.bool N.cut.isSome) := fd 8
      have f9 : wr.cell? ⟨w.heap.size, 9, none⟩ = some (i64 R.left) := fd 9
      have f10 : wr.cell? ⟨w.heap.size, 10, none⟩ = some (i64 R.whole) := fd 10
      have f11 : wr.cell? ⟨w.heap.size, 11, none⟩ = some (.int .u8 R.mask) := fd 11
      have zd : w.heap.size < wr.heap.size := (Array.getElem?_eq_some_iff.1 bbr).1
      clear fd
      have q1 := fun q => on_cell (w := wr) zd f1 q
      have B0 := Lib.hid hb
      clear hb
      go_wp2_with fail
      refine wp_region_po (fun w' => ∃ p : OnOf wr, w' = p.v) 12 [2, 6] (by kernel_rfl) (by kernel_rfl) ⟨⟨_, Base.dr (Below.refl _ _)⟩, rfl⟩ ?_
      simp only [List.take_succ_cons, List.take_zero, List.drop_succ_cons, List.drop_zero]
      have on0 := @on_rd0; have on1 := @on_rd1; have on2 := @on_rd2; have on3 := @on_new1; have on4 := @on_new2; have on5 := @gr_rd0
      repeat ((with_reducible refine seq_read ?_ ?_); (focus rfl); (intro K hK); (unfold readsAt); go_simp; first | ((with_reducible refine hK _ ?_); clear hK K) | (rw [if_neg (by intro h; cases h)]; (with_reducible refine hK _ ?_); clear hK K))
      refine seq_eff (by rfl) (by first | rfl | go_simp) ?_
      intro K hK
      unfold effAt2
      go_simp
      refine ⟨rfl, (P0 _).out.mono ?_⟩; rintro e x5 ⟨rfl, rfl⟩
      refine ⟨_, rfl, ⟨⟨_, Base.dr (Below.refl _ _)⟩, rfl⟩, hK _ _ ?_⟩
      clear hK K
      repeat ((with_reducible refine seq_read ?_ ?_); (focus rfl); (intro K hK); (unfold readsAt); go_simp; first | ((with_reducible refine hK _ ?_); clear hK K) | (rw [if_neg (by intro h; cases h)]; (with_reducible refine hK _ ?_); clear hK K))
      refine seq_eff (by rfl) (by first | rfl | go_simp) ?_
      intro K hK
      unfold effAt2
      go_simp
      refine ⟨rfl, (HRd _ (Base.dr (Below.refl _ _))).out.mono ?_⟩; rintro e x6 ⟨v, rfl, hown, hb6⟩
      obtain ⟨va, vc, rfl⟩ := own_val hown
      refine ⟨_, rfl, ⟨⟨_, Base.tr (Base.dr (Below.refl _ _)) hb6⟩, rfl⟩, hK _ _ ?_⟩
      clear hK K
      repeat ((with_reducible refine seq_read ?_ ?_); (focus rfl); (intro K hK); (unfold readsAt); go_simp; first | ((with_reducible refine hK _ ?_); clear hK K) | (rw [if_neg (by intro h; cases h)]; (with_reducible refine hK _ ?_); clear hK K))
      clear on0 on1 on2 on3 on4 on5
      with_reducible refine seq_nil ?_
      have B6 := Lib.hid (Base.tr (Base.dr (Below.refl wr.heap.size wr)) hb6)
      have hvb : Byt x6 (.slice va l.length vc) l := by
        have := own_Sl (xs := l.map bv) (by rw [List.length_map]; exact hown)
        rw [List.map_map] at this
        exact this
      have hr6 := hrr.below B6.out
      have hd6 := hdr.below B6.out
      have bb6 := blk_below bbr B6.out
      have hjr : j < R.rows.length := by rw [hr.len]; exact hlt
      obtain ⟨r, hrj⟩ : ∃ r, R.rows[j]? = some r := ⟨_, List.getElem?_eq_getElem hjr⟩
      obtain ⟨hby, _, ad, rn, rc, rfl⟩ := hr6.row j r l hrj hl
      obtain ⟨db, doff, hdA, hdb, hdx⟩ := hr6.data.at (by omega)
      have hcr : x6.cell? ⟨db, doff + j, none⟩ = some (.slice (some ad) rn rc) := by
        have := (hdx j [.slice (some ad) rn rc] (by rw [List.getElem?_map, hrj]; rfl)).2 0 _ rfl
        simpa using this
      have hwl : (N.wear.map fun n : Nat => (n : Int)).length = N.S := by rw [List.length_map]; exact hr.wl
      obtain ⟨wb, woff, hwA, hwb, hwx⟩ := Ints.cell hr6.wear (k := j) (by omega)
      have hjw : j < N.wear.length := by rw [hr.wl]; exact hlt
      have hcw : x6.cell? ⟨wb, woff + j, none⟩ = some (i64 (N.wear.getD j 0 : Nat)) := by
        rw [hwx j (by omega)]
        simp [hjw]
      have hwv : Nor.wearAt { N with off := false } j = N.wear.getD j 0 := by
        unfold Nor.wearAt
        rw [if_pos ⟨by omega, by show (j : Int) < (N.S : Int); omega⟩]
        rfl
      have C7 : ∀ q : OnOf x6, Hid (Gives 18 #[ptrD N, i64 j] q.v (i64 (N.wear.getD j 0 : Nat))) := fun q => Lib.hid (by have := wear_any (hd6.below q.h) (j : Int); rw [hwv] at this; exact this)
      obtain ⟨wv, hwvx⟩ : ∃ wv, N.wear.getD j 0 = wv := ⟨_, rfl⟩
      rw [hwvx] at hcw C7
      clear hwv hwvx hwx hdx HRd P0 q1 f0 f1 f2 f3 f4 f5 f6 f7 f8 f9 f10 f11 zd hown hb6
      have fd := cell_blk bb6
      have f0 : x6.cell? ⟨w.heap.size, 0, none⟩ = some (i64 N.S) := fd 0
      have f1 : x6.cell? ⟨w.heap.size, 1, none⟩ = some (i64 N.Z) := fd 1
      have f2 : x6.cell? ⟨w.heap.size, 2, none⟩ = some (.slice R.dA N.S R.dc) := fd 2
      have f3 : x6.cell? ⟨w.heap.size, 3, none⟩ = some (.slice R.wA N.S R.wc) := fd 3
      have f4 : x6.cell? ⟨w.heap.size, 4, none⟩ = some (.slice R.bA N.S R.bc) := fd 4
      have f5 : x6.cell? ⟨w.heap.size, 5, none⟩ = some (.bool N.off) := fd 5
      have f6 : x6.cell? ⟨w.heap.size, 6, none⟩ = some (i64 N.offs) := fd 6
      have f7 : x6.cell? ⟨w.heap.size, 7, none⟩ = some (i64 N.acts) := fd 7
      have f8 : x6.cell? ⟨w.heap.size, 8, none⟩ = some (.bool N.cut.isSome) := fd 8
      have f9 : x6.cell? ⟨w.heap.size, 9, none⟩ = some (i64 R.left) := fd 9
      have f10 : x6.cell? ⟨w.heap.size, 10, none⟩ = some (i64 R.whole) := fd 10
      have f11 : x6.cell? ⟨w.heap.size, 11, none⟩ = some (.int .u8 R.mask) := fd 11
      have zd : w.heap.size < x6.heap.size := (Array.getElem?_eq_some_iff.1 bb6).1
      clear fd
      rw [hdA] at f2
      rw [hwA] at f3
      have q2 := fun q => on_cell (w := x6) zd f2 q
      have q3 := fun q => on_cell (w := x6) zd f3 q
      have qr := fun q => on_cell (w := x6) hdb hcr q
      have qw := fun q => on_cell (w := x6) hwb hcw q
      rw [hll] at hvb
      have kv := fun q : OnOf x6 => conv_any (Sl.below hvb q.h)
      have kr := fun q : OnOf x6 => conv_any (Sl.below hby q.h)
      clear hdA hwA hrr hdr hr6 hd6 hvb hby hrj f0 f1 f2 f3 f4 f5 f6 f7 f8 f9 f10 f11 zd hwl
      go_wp2_with fail
      have on0 := @on_rd0; have on1 := @on_rd1; have on2 := @on_rd2; have on3 := @on_new1; have on4 := @on_new2
      refine wp_region_quiet_on (by kernel_rfl) (by kernel_rfl) ?_
      repeat ((with_reducible refine wpQuiet_step (fun K hK => ?_)); go_simp; first | ((with_reducible refine hK _ ?_); clear hK K) | (rw [if_neg (by intro h; cases h)]; (with_reducible refine hK _ ?_); clear hK K) | (apply Exists.intro; refine ⟨fun _ => ?_, hK _ ?_⟩; (with_reducible exact on_of_same (C7 _).out); clear hK K))
      clear on0 on1 on2 on3 on4
      with_reducible refine wpQuiet_nil ?_
      intro _ hw'
      obtain ⟨pq, hw''⟩ := hw'
      subst hw''
      have B9 := Base.tr (Base.tr B0.out B6.out) pq.h
      clear q2 q3 qr qw kv kr C7 hcr hcw
      go_wp2_with fail
      exact ⟨⟨j + 1, by omega, by go_num, B9⟩, by simp [intOf]; omega⟩
    · obtain rfl : j = N.S := by omega
      go_wp2_with fail
      go_ret
      exact ⟨rfl, O4.out.then hb⟩
end Go.Proofs.Yteieaelinkdahaa

/- A row of operations under way: the device and the document's stand side by side. -/
namespace Go.Proofs.Yteieaelinkdahaa
open Go.RowKit Flo

theorem mul_in {s z : Int} (hg : geoB s z = true) : 0 ≤ s * z ∧ s * z ≤ 64 * 4096 := by
  obtain ⟨q1, q2, q3, q4⟩ := geoB_yes hg
  exact ⟨Int.mul_nonneg (by omega) (by omega), Int.mul_le_mul q2 q4 (by omega) (by omega)⟩
def smallB (s z : Int) : Bool := geoB s z && decide (s * z ≤ 20000)
set_option maxHeartbeats 2000000 in
set_option maxRecDepth 100000 in
theorem small_any (s z : Int) (w : World) : Makes 33 #[geo s z] w (.bool (smallB s z)) := by
  have g0 := fun W => Lib.hid (rMay_any s z W)
  unfold smallB
  cases hg : geoB s z
  · rw [hg] at g0
    go_enter Try.func33, Try.ntmps33
    go_wp2_with fail
    refine (g0 _).out.mono ?_; rintro e x1 ⟨rfl, hb1⟩
    go_wp2_with fail
    go_ret
    exact ⟨rfl, Base.tr (Base.al (Below.refl _ _) _) hb1⟩
  · obtain ⟨h1, h2⟩ := mul_in hg
    rw [hg] at g0
    clear hg
    go_enter Try.func33, Try.ntmps33
    go_wp2_with fail
    refine (g0 _).out.mono ?_; rintro e x1 ⟨rfl, hb1⟩
    have hB := blk_below (blk_new w (.cells #[i64 s, i64 z] 41)) hb1
    have z0 : w.heap.size < x1.heap.size := (Array.getElem?_eq_some_iff.1 hB).1
    have e0 : x1.cell? ⟨w.heap.size, 0, none⟩ = some (i64 s) := cell_blk hB 0
    have e1 : x1.cell? ⟨w.heap.size, 1, none⟩ = some (i64 z) := cell_blk hB 1
    have hw2 : wrap64 (s * z) = s * z := by unfold wrap64; omega
    have hw3 : IntKind.i64.wrap (s * z) = s * z := by rw [IntKind.wrap_i64]; omega
    clear h1 h2
    go_wp2_with fail
    go_ret
    exact ⟨retB (by simp), Base.tr (Base.al (Below.refl _ _) _) hb1⟩

/-- An operation that came in. -/
structure OpIn (w : World) (o : OpV) (lb : List Nat) : Prop where
  bytes : Byt w (.slice o.A o.bn o.bc) lb
  lt : ∀ x ∈ lb, x < 256
  mask : o.mask < 256
  n64 : -9223372036854775808 ≤ o.n ∧ o.n ≤ 9223372036854775807
  k64 : -9223372036854775808 ≤ o.k ∧ o.k ≤ 9223372036854775807
theorem OpIn.len {w : World} {o : OpV} {lb : List Nat} (h : OpIn w o lb) : o.bn = lb.length := by have := h.bytes.len; rwa [List.length_map] at this
theorem OpIn.fit {w W : World} {o : OpV} {lb : List Nat} {O : Nat → Prop} (h : OpIn w o lb) (hb : Below w.heap.size w W) (hO : ∀ k, O k → w.heap.size ≤ k) (hs : lb.length ≤ 6000) : OpFit O W o lb where
  bytes := Sl.below h.bytes hb
  lt := h.lt
  far h0 := by
    intro b off n c he hq
    obtain ⟨b', off', hA, hlt, _⟩ := Byt.cell (n := o.bn) (cap := o.bc) (A := o.A) h.bytes h0
    injection he with he
    rw [hA] at he
    injection he with he
    injection he with he
    have := hO b hq
    omega
  small := hs
  n64 := h.n64
  k64 := h.k64
  mask := h.mask

/-- j operations are done. -/
structure PlaySt (w : World) (s z D0 gm : Nat) (W : World) (j : Nat) (N : Nor) (R : RV) (O : Nat → Prop) : Prop where
  dev : DevR O W N
  ref : RefR (fun k => O k ∨ k = gm) W R N
  box : W.heap[gm]? = some (Obj.cells (R.cells N) 71 (0, 0))
  ng : ¬ O gm
  ge : ∀ k, O k → w.heap.size ≤ k
  gg : w.heap.size ≤ gm
  bd : Bd N j
  S : N.S = s
  Z : N.Z = z
  D : N.D = D0
  mask : R.mask < 256
  left : R.left ≤ 9223372036854775807
  below : Below w.heap.size w W
theorem PlaySt.lt {w : World} {s z D0 gm : Nat} {W : World} {j : Nat} {N : Nor} {R : RV} {O : Nat → Prop} (h : PlaySt w s z D0 gm W j N R O) : gm < W.heap.size := (Array.getElem?_eq_some_iff.1 h.box).1
theorem RefR.cb {O : Nat → Prop} {w : World} {R : RV} {N : Nor} {o : OpV} {lb : List Nat} {g : Nat} (h : RefR O w R (N.doo o lb g)) : RefR O w R (N.doo o lb g) := h
theorem do_next {w : World} {s z D0 gm : Nat} {W : World} {j : Nat} {N : Nor} {R : RV} {O : Nat → Prop} (h : PlaySt w s z D0 gm W j N R O) (hj : j < 900) {o : OpV} {lb : List Nat} (ho : OpIn w o lb) (hs : lb.length ≤ 6000) :
    Calls Try.prog 37 #[.pointer (some ⟨D0, 0, none⟩), .agg (R.cells N), o.val] (W.alloc (.cells #[i64 o.kind, i64 o.sector, i64 o.offset, .slice o.A o.bn o.bc, i64 o.n, i64 o.k, bv o.mask] 24)) fun e w' => ∃ (R' : RV) (N' : Nor) (O' : Nat → Prop), e = .returned (.tuple #[.bool true, .agg (R'.cells N')]) ∧
      w'.heap[gm]? = some (Obj.cells (R.cells N) 71 (0, 0)) ∧ PlaySt w s z D0 gm (sets w' gm 0 (R'.cells N').toList) (j + 1) N' R' O' := by
  have hb1 : Below W.heap.size W (W.alloc (.cells #[i64 o.kind, i64 o.sector, i64 o.offset, .slice o.A o.bn o.bc, i64 o.n, i64 o.k, bv o.mask] 24)) := Base.al (Below.refl _ _) _
  have hgm := h.lt
  have fit : DoFit O (fun k => k = gm) (W.alloc (.cells #[i64 o.kind, i64 o.sector, i64 o.offset, .slice o.A o.bn o.bc, i64 o.n, i64 o.k, bv o.mask] 24)) N N R o lb :=
    ⟨h.dev.below hb1, h.ref.below hb1, fun k hk => by subst hk; exact Nat.lt_of_lt_of_le hgm hb1.size, rfl, rfl, h.bd.mono (by omega), h.bd.mono (by omega), h.mask, h.left, ho.fit (Base.tr h.below hb1) h.ge hs⟩
  have hD := h.D
  have := do_any fit
  rw [show ptrD N = .pointer (some ⟨D0, 0, none⟩) by rw [← hD]] at this
  refine this.mono ?_
  rintro e w' ⟨bb, R', O', g, rfl, hbb, hd, hr, hout, hO', hm, hl⟩
  have hS := doo_S N o lb g
  have ng' : ¬ O' gm := fun hq => by
    rcases hO' gm hq with h1 | h1
    · exact h.ng h1
    · have := hb1.size; omega
  have hbox : w'.heap[gm]? = some (Obj.cells (R.cells N) 71 (0, 0)) := hout.blk (blk_below h.box hb1) h.ng
  refine ⟨R', N.doo o lb g, O', by rw [hbb rfl], hbox, ?_⟩
  have so := sets_out (Q := fun k => k = gm) rfl (R'.cells (N.doo o lb g)).toList w' w' 0 (Out.refl _ _)
  exact { dev := hd.outQ so (fun k hk e => ng' (by rw [← show k = gm from e]; exact hk)), ref := hr.out (so.wide (fun k hk => .inr hk)), box := by have := sets_at hbox (R'.cells (N.doo o lb g)).toList rfl; simpa using this, ng := ng',
          ge := fun k hk => by { rcases hO' k hk with h1 | h1; exact h.ge k h1; have := hb1.size; have := h.below.size; omega }, gg := h.gg, bd := doo_Bd h.bd o lb g ho.n64.2, S := by rw [hS.1]; exact h.S, Z := by rw [hS.2.1]; exact h.Z, D := by rw [hS.2.2]; exact h.D, mask := hm, left := hl,
          below := (Base.tr h.below hb1).trans ((hout.base h.ge (Base.tr h.below hb1).size).trans (so.base (fun k hk => by rw [show k = gm from hk]; exact h.gg) (Nat.le_trans (Base.tr h.below hb1).size hout.size))) }
end Go.Proofs.Yteieaelinkdahaa

