/- An operation of the law: what it makes of a device, and of the document's. -/
import Derived.Test.YteieaelinkdahaaNorYE
import Derived.Test.YteieaelinkdahaaNorU
import Derived.Test.YteieaelinkdahaaNorCN
namespace Go.Proofs.Yteieaelinkdahaa
open Go.RowKit Flo

/-- What is left of a device. -/
noncomputable def Nor.doo (N : Nor) (o : OpV) (lb : List Nat) (g : Nat) : Nor :=
  if o.kind = 0 then (N.prog (ofPl o.sector o.offset).1 (ofPl o.sector o.offset).2 lb).2
  else if o.kind = 1 then (N.erase o.sector).2
  else if o.kind = 2 then N
  else if o.kind = 3 then N.cutAt o.n o.k o.mask g
  else if o.kind = 4 then N.turn
  else if o.kind = 5 then { N with off := false }
  else N.spoil o.sector
/-- The operation as it stands in memory. -/
structure OpFit (O : Nat → Prop) (w : World) (o : OpV) (lb : List Nat) : Prop where
  bytes : Byt w (.slice o.A o.bn o.bc) lb
  lt : ∀ x ∈ lb, x < 256
  far : 0 < lb.length → Far O (.slice o.A o.bn o.bc)
  small : lb.length ≤ 6000
  n64 : -9223372036854775808 ≤ o.n ∧ o.n ≤ 9223372036854775807
  k64 : -9223372036854775808 ≤ o.k ∧ o.k ≤ 9223372036854775807
  mask : o.mask < 256
theorem Sl.out0 {O : Nat → Prop} {w w' : World} {k : Nat} {v : Value} {xs : List (List Value)} (h : Sl w k v xs) (hf : 0 < xs.length → Far O v) (hb : Out O w w') : Sl w' k v xs := by
  by_cases h0 : 0 < xs.length
  · exact Sl.out h (hf h0) hb
  · obtain ⟨A, cap, hv, hl, hm, hn, _⟩ := h
    exact ⟨A, cap, hv, hl, hm, hn, fun h1 => absurd h1 h0⟩
theorem OpFit.out {O : Nat → Prop} {w w' : World} {o : OpV} {lb : List Nat} (h : OpFit O w o lb) (hb : Out O w w') : OpFit O w' o lb :=
  { h with bytes := Sl.out0 h.bytes (by rw [List.length_map]; exact h.far) hb }
structure Bd (N : Nor) (j : Nat) : Prop where
  acts : N.acts ≤ j
  offs : N.offs ≤ j
  wear : ∀ n ∈ N.wear, n ≤ j
  cut : ∀ c, N.cut = some c → c.1 ≤ 9223372036854775807
/-- What an operation comes to. -/
abbrev DoPost (O E : Nat → Prop) (w : World) (N M : Nor) (o : OpV) (lb : List Nat) (e : Ending) (w' : World) : Prop :=
  ∃ (bb : Bool) (R' : RV) (O' : Nat → Prop) (g : Nat), e = .returned (.tuple #[.bool bb, R'.val (M.doo o lb g)]) ∧ (N = M → bb = true) ∧ DevR O' w' (N.doo o lb g) ∧ RefR (fun k => O' k ∨ E k) w' R' (M.doo o lb g) ∧ Out O w w' ∧ (∀ k, O' k → O k ∨ w.heap.size ≤ k) ∧ R'.mask < 256 ∧ R'.left ≤ 9223372036854775807
structure DoFit (O E : Nat → Prop) (w : World) (N M : Nor) (R : RV) (o : OpV) (lb : List Nat) : Prop where
  dev : DevR O w N
  ref : RefR (fun k => O k ∨ E k) w R M
  limE : ∀ k, E k → k < w.heap.size
  S : M.S = N.S
  Z : M.Z = N.Z
  bN : Bd N 1000
  bM : Bd M 1000
  mask : R.mask < 256
  left : R.left ≤ 9223372036854775807
  op : OpFit O w o lb

/-- Where nothing of it was written, a device is as it was. -/
theorem DevR.keep {O : Nat → Prop} {w w' : World} {N : Nor} (h : DevR O w N) (hs : w.heap.size ≤ w'.heap.size) (hk : ∀ k, O k → w'.heap[k]? = w.heap[k]?) : DevR O w' N where
  lim k hk2 := Nat.lt_of_lt_of_le (h.lim k hk2) hs
  hD := by rw [hk _ h.ownD]; exact h.hD
  hA := by obtain ⟨arr, h1, h2⟩ := h.hA; exact ⟨arr, by rw [hk _ h.ownA]; exact h1, h2⟩
  hW := by rw [hk _ h.ownW]; exact h.hW
  hM := h.hM.of_block (hk _ h.ownM)
  hR i l hl := by obtain ⟨b, j, h1, h2⟩ := h.hR i l hl; exact ⟨b, j, h1, by rw [hk _ (h.ownR b (List.mem_of_getElem? h1))]; exact h2⟩
  hC c hc := by rw [hk _ (h.ownC c hc)]; exact h.hC c hc
  bkl := h.bkl
  dl := h.dl
  wl := h.wl
  row := h.row
  geo := h.geo
  badt := h.badt
  cdl := h.cdl
  mask := h.mask
  ownD := h.ownD
  ownA := h.ownA
  ownW := h.ownW
  ownM := h.ownM
  ownC := h.ownC
  ownR := h.ownR
  apart := h.apart
  apartC := h.apartC
theorem DevR.outQ {O Q : Nat → Prop} {w w' : World} {N : Nor} (h : DevR O w N) (hb : Out Q w w') (hq : ∀ k, O k → ¬ Q k) : DevR O w' N :=
  h.keep hb.size (fun k hk => hb.block k (h.lim k hk) (hq k hk))

/-- The locals of Do. -/
structure Loc (O : Nat → Prop) (w : World) (D Ov : Array Value) (W : World) : Prop where
  hm : W.heap[w.heap.size]? = some (Obj.cells D 71 (0, 0))
  ho : W.heap[w.heap.size + 1]? = some (Obj.cells Ov 24 (0, 0))
  hz : W.heap[w.heap.size + 1 + 1]? = some (Obj.cells #[.int .i64 0, .int .i64 0, .slice none 0 0, .slice none 0 0, .slice none 0 0, .bool false, .int .i64 0, .int .i64 0, .bool false, .int .i64 0, .int .i64 0, .int .u8 0] 71 (0, 0))
  out : Out O w W
theorem Loc.start (O : Nat → Prop) (w : World) (D Ov : Array Value) : Loc O w D Ov (((w.alloc (.cells D 71)).alloc (.cells Ov 24)).alloc (.cells #[.int .i64 0, .int .i64 0, .slice none 0 0, .slice none 0 0, .slice none 0 0, .bool false, .int .i64 0, .int .i64 0, .bool false, .int .i64 0, .int .i64 0, .int .u8 0] 71)) :=
  ⟨blk_old (blk_old (blk_new w _)), blk_old (blk_new1 w _ _), blk_new2 w _ _ _, Out.of_below (Base.al (Base.al (Base.al (Below.refl _ _) _) _) _)⟩
theorem Loc.on {O : Nat → Prop} {w W W' : World} {D Ov : Array Value} (h : Loc O w D Ov W) (lim : ∀ k, O k → k < w.heap.size) (hb : Out O W W') : Loc O w D Ov W' :=
  ⟨hb.blk h.hm (fun hq => Nat.lt_irrefl _ (lim _ hq)), hb.blk h.ho (fun hq => by have := lim _ hq; omega), hb.blk h.hz (fun hq => by have := lim _ hq; omega), h.out.trans hb⟩
theorem Loc.below {O : Nat → Prop} {w W W' : World} {D Ov : Array Value} (h : Loc O w D Ov W) (hb : Below W.heap.size W W') : Loc O w D Ov W' :=
  ⟨blk_below h.hm hb, blk_below h.ho hb, blk_below h.hz hb, h.out.then hb⟩

theorem Loc.belowB {O : Nat → Prop} {w W W' : World} {D Ov : Array Value} {B : Nat} (h : Loc O w D Ov W) (hb : Below B W W') (h1 : w.heap.size + 1 + 1 < B) : Loc O w D Ov W' :=
  ⟨by rw [hb.block _ (by omega)]; exact h.hm, by rw [hb.block _ (by omega)]; exact h.ho, by rw [hb.block _ (by omega)]; exact h.hz,
   Out.new (O := O) (h.out.wide (Q := fun k => O k ∨ w.heap.size ≤ k) (fun k hk => .inl hk) |>.trans ⟨hb.os, hb.tape, hb.output, hb.size, fun k _ hn => hb.block k (by by_cases hk : k < B; exact hk; exact absurd (.inr (by omega)) hn)⟩) (fun k hk => hk)⟩
/-- 'append([]T{}, src...)', T of one cell, src empty or not. -/
theorem wpList_append_copy {P : Program} (w : World) {ops : Array Oper} {rest : List Oper} {o : Oper} {a : Act} {Q : Exit → Act → World → Prop} (hgd : o.guard = none) (s x : Operand) (t : TypeId)
    (ho : o.op = .call { callee := .builtin .append, args := #[s, x], argTypes := #[t, t] })
    (e : TypeId) (i : TypeInfo) (z : Value) (ht : P.underlying t = some (.slice e)) (hi : P.info? e = some i) (hz : i.zero = some z) (hsize : i.size = 1) (hby : i.bytes ≤ 1000)
    (b : Nat) (hs : a.eval s = .slice (some ⟨b, 0, none⟩) 0 0) (A : Option Addr) (n c : Nat) (news : List Value) (hx : a.eval x = .slice A n c) (hsl : Sl w 1 (.slice A n c) (news.map fun x => [x])) (hm : n ≤ 100000)
    (h : ∀ (b' cp : Nat) (w' : World), Below w.heap.size w w' → (b' = b ∨ b' = w.heap.size) → Sl w' 1 (.slice (some ⟨b', 0, none⟩) n cp) (news.map fun x => [x]) → wpList P ops Q rest (a.put o.dst (.slice (some ⟨b', 0, none⟩) n cp)) w') : wpList P ops Q (o :: rest) a w := by
  have hl := hsl.len
  rw [List.length_map] at hl
  by_cases hn : 0 < n
  · obtain ⟨ad, rfl⟩ := hsl.some hn
    refine wpList_append_fresh w hgd s x t ho e i z ht hi hz hsize hby ⟨b, 0, none⟩ hs ad n c news hx hl.symm hn hm (Sl.src1 hsl) ?_
    intro cp junk h1 h2
    refine h w.heap.size cp _ (Base.dr (Base.al (Below.refl _ _) _)) (.inr rfl) ?_
    have := Sl.of_blk (w := (w.alloc (.cells (news ++ junk).toArray e)).drew) (D := news ++ junk) (xs := news) (n := n) (t := e) (blk_new w _) (List.take_left' hl.symm) hl.symm h1 h2
    exact this
  · obtain rfl : n = 0 := by omega
    have : news = [] := List.eq_nil_of_length_eq_zero hl.symm
    subst this
    have hr : (Builtin.append_ #[t, t] o.type #[.slice (some ⟨b, 0, none⟩) 0 0, .slice A 0 c]).run P w = .ok (.slice (some ⟨b, 0, none⟩) 0 0) w := by
      cases A <;> simp [Builtin.append_, run_underlying ht, sizeOf, typeInfo, hi, Builtin.lenOf, Builtin.firstCells, loadCells, loadCellsFrom, storeCells]
    refine wpList_plain hgd fun K hK => ?_
    unfold Oper.wp execOp
    simp only [ho, resolve, invoke, builtin, Sem.run_bind, Sem.run_pure, Result.andThen_ok, List.map_toArray, List.map_cons, List.map_nil, hs, hx, hr]
    exact hK _ _ (h b 0 w (Below.refl _ _) (.inl rfl) ⟨some ⟨b, 0, none⟩, 0, rfl, Nat.le_refl _, Nat.zero_le _, (fun h => by cases h), fun h => absurd h (by decide)⟩)
theorem far_ge {O : Nat → Prop} {w : World} (lim : ∀ k, O k → k < w.heap.size) {g : Nat} (hg : w.heap.size ≤ g) (o n c : Nat) : Far O (.slice (some ⟨g, o, none⟩) n c) := far_new lim hg o n c
/-- A world that differs in the blocks O alone. -/
structure OutOf (O : Nat → Prop) (w : World) where
  v : World
  h : Out O w v
instance (O : Nat → Prop) (w : World) : Nonempty (OutOf O w) := ⟨⟨w, Out.refl _ _⟩⟩
instance (O : Nat → Prop) (w : World) : Inhabited (OutOf O w) := ⟨⟨w, Out.refl _ _⟩⟩
theorem out_rd {O : Nat → Prop} {w : World} {b o : Nat} {v : Value} (hb : b < w.heap.size) (hn : ¬ O b) (h : w.cell? ⟨b, o, none⟩ = some v) (p : OutOf O w) : p.v.cell? ⟨b, o, none⟩ = some v := by
  rw [← h]
  exact cell_heap (p.h.block b hb hn)
theorem RefR.on {O : Nat → Prop} {w : World} {R : RV} {N : Nor} (h : RefR O w R N) : RefR O w R { N with off := false } := { h with }
theorem zero_u8 (w : World) : (zeroValue 5).run Try.prog w = .ok (.int .u8 0) w := by
  obtain ⟨i, hi, hz, _, _⟩ := info_parts info_u8E
  simp [zeroValue, typeInfo, hi, hz]
/-- 'clear' of bytes of one's own. -/
theorem clear_own {w : World} {base n : Nat} {v : Value} {xs : List Value} (h : w.ownsRow base 5 1 v n xs) :
    ∃ w', (Builtin.clear_ #[22] 0 #[v]).run Try.prog w = .ok (.tuple #[]) w' ∧ w.grownBy w' v.ownBlock := by
  rcases h.2 with ⟨rfl, rfl⟩ | ⟨g, cap, cur, rfl, hbg, hgg, hnc, hcm, hcs, htake⟩
  · exact ⟨w, by simp [Builtin.clear_, run_underlying Try.underlying22], grown_refl _ _⟩
  · refine ⟨_, run_clear_row w (t := 22) (e := 5) Try.underlying22 (zero_u8 w) rfl rfl hgg (by omega), grown_setRow (grown_refl _ _) _⟩
theorem Loc.offM {O : Nat → Prop} {w W : World} {R : RV} {M : Nor} {Ov : Array Value} (h : Loc O w #[i64 M.S, i64 M.Z, .slice R.dA M.S R.dc, .slice R.wA M.S R.wc, .slice R.bA M.S R.bc, .bool M.off, i64 M.offs, i64 M.acts, .bool M.cut.isSome, i64 R.left, i64 R.whole, .int .u8 R.mask] Ov W) : Loc O w #[i64 M.S, i64 M.Z, .slice R.dA M.S R.dc, .slice R.wA M.S R.wc, .slice R.bA M.S R.bc, .bool false, i64 M.offs, i64 M.acts, .bool M.cut.isSome, i64 R.left, i64 R.whole, .int .u8 R.mask] Ov (W.setCell ⟨w.heap.size, 5, none⟩ (.bool false)) :=
  ⟨heap_setCell h.hm 5 (.bool false), blk_set h.ho _ _ (by show w.heap.size + 1 ≠ w.heap.size; omega), blk_set h.hz _ _ (by show w.heap.size + 1 + 1 ≠ w.heap.size; omega),
   Out.new ((h.out.wide (Q := fun k => O k ∨ k = w.heap.size) (fun k hk => .inl hk)).set (.inr rfl) 5 (.bool false)) (by rintro k (hk | rfl); exact .inl hk; exact .inr (Nat.le_refl _))⟩
end Go.Proofs.Yteieaelinkdahaa

/- An operation of the law, kind 1. -/
namespace Go.Proofs.Yteieaelinkdahaa
open Go.RowKit Flo

set_option maxHeartbeats 4000000 in
set_option maxRecDepth 100000 in
theorem do1_any {O E : Nat → Prop} {w : World} {N M : Nor} {R : RV} {o : OpV} {lb : List Nat} (h : DoFit O E w N M R o lb) (hk : o.kind = 1) : Calls Try.prog 37 #[ptrD N, R.val M, o.val] w (DoPost O E w N M o lb) := by
  have hd := h.dev
  have hop := h.op
  have lim := hd.lim
  have P0 := fun W => Lib.hid (of_any o.sector o.offset W)
  obtain ⟨pa, pb, hpl⟩ : ∃ pa pb, ofPl o.sector o.offset = (pa, pb) := ⟨_, _, rfl⟩
  rw [hpl] at P0
  simp only [] at P0
  have lc0 : Hid (Loc O w #[i64 M.S, i64 M.Z, .slice R.dA M.S R.dc, .slice R.wA M.S R.wc, .slice R.bA M.S R.bc, .bool M.off, i64 M.offs, i64 M.acts, .bool M.cut.isSome, i64 R.left, i64 R.whole, .int .u8 R.mask] #[i64 1, i64 o.sector, i64 o.offset, .slice o.A o.bn o.bc, i64 o.n, i64 o.k, bv o.mask] _) := Lib.hid (Loc.start O w _ #[i64 1, i64 o.sector, i64 o.offset, .slice o.A o.bn o.bc, i64 o.n, i64 o.k, bv o.mask])
  have hrq : RefR (fun k => (O k ∨ E k) ∨ k = w.heap.size + 1 + 1) w R M := h.ref.wider (by rintro k (hk | rfl); exact .inl hk; exact .inr (by omega))
  have limq : ∀ W : World, w.heap.size + 1 + 1 < W.heap.size → ∀ k, ((O k ∨ E k) ∨ k = w.heap.size + 1 + 1) → k < W.heap.size := by rintro W hW k ((hk | hk) | rfl); have := lim k hk; omega; have := h.limE k hk; omega; exact hW
  obtain ⟨ea, Na, hea⟩ : ∃ ea Na, N.erase o.sector = (ea, Na) := ⟨_, _, rfl⟩
  obtain ⟨ef, Ma, hma⟩ : ∃ ef Ma, M.erase o.sector = (ef, Ma) := ⟨_, _, rfl⟩
  have hdoN : ∀ g, N.doo o lb g = Na := by intro g; unfold Nor.doo; rw [if_neg (by rw [hk]; decide), if_pos hk, hea]
  have hdoM : ∀ g, M.doo o lb g = Ma := by intro g; unfold Nor.doo; rw [if_neg (by rw [hk]; decide), if_pos hk, hma]
  have hsame : N = M → ea = ef := by rintro rfl; rw [hea] at hma; injection hma
  clear hpl
  have lb0 : Hid (Below w.heap.size w (((w.alloc (.cells #[i64 M.S, i64 M.Z, .slice R.dA M.S R.dc, .slice R.wA M.S R.wc, .slice R.bA M.S R.bc, .bool M.off, i64 M.offs, i64 M.acts, .bool M.cut.isSome, i64 R.left, i64 R.whole, .int .u8 R.mask] 71)).alloc (.cells #[i64 1, i64 o.sector, i64 o.offset, .slice o.A o.bn o.bc, i64 o.n, i64 o.k, bv o.mask] 24)).alloc (.cells #[.int .i64 0, .int .i64 0, .slice none 0 0, .slice none 0 0, .slice none 0 0, .bool false, .int .i64 0, .int .i64 0, .bool false, .int .i64 0, .int .i64 0, .int .u8 0] 71))) := Lib.hid (Base.al (Base.al (Base.al (Below.refl _ _) _) _) _)
  show Calls Try.prog 37 #[ptrD N, .agg #[i64 M.S, i64 M.Z, .slice R.dA M.S R.dc, .slice R.wA M.S R.wc, .slice R.bA M.S R.bc, .bool M.off, i64 M.offs, i64 M.acts, .bool M.cut.isSome, i64 R.left, i64 R.whole, .int .u8 R.mask], .agg #[i64 o.kind, i64 o.sector, i64 o.offset, .slice o.A o.bn o.bc, i64 o.n, i64 o.k, bv o.mask]] w _
  go_enter Try.func37, Try.ntmps37
  go_wp2_with fail
  refine (P0 _).out.mono ?_; rintro e x2 ⟨rfl, rfl⟩
  generalize ((w.alloc _).alloc _).alloc _ = x2 at *
  have hd2 := hd.below lb0.out
  have hr2 : RefR _ x2 R M := hrq.below lb0.out
  have limx := limq x2 (Array.getElem?_eq_some_iff.1 lc0.out.hz).1
  have fd := cell_blk lc0.out.hm
  have f0 : x2.cell? ⟨w.heap.size, 0, none⟩ = some (i64 M.S) := fd 0
  have f1 : x2.cell? ⟨w.heap.size, 1, none⟩ = some (i64 M.Z) := fd 1
  have f2 : x2.cell? ⟨w.heap.size, 2, none⟩ = some (.slice R.dA M.S R.dc) := fd 2
  have f3 : x2.cell? ⟨w.heap.size, 3, none⟩ = some (.slice R.wA M.S R.wc) := fd 3
  have f4 : x2.cell? ⟨w.heap.size, 4, none⟩ = some (.slice R.bA M.S R.bc) := fd 4
  have f5 : x2.cell? ⟨w.heap.size, 5, none⟩ = some (.bool M.off) := fd 5
  have f6 : x2.cell? ⟨w.heap.size, 6, none⟩ = some (i64 M.offs) := fd 6
  have f7 : x2.cell? ⟨w.heap.size, 7, none⟩ = some (i64 M.acts) := fd 7
  have f8 : x2.cell? ⟨w.heap.size, 8, none⟩ = some (.bool M.cut.isSome) := fd 8
  have f9 : x2.cell? ⟨w.heap.size, 9, none⟩ = some (i64 R.left) := fd 9
  have f10 : x2.cell? ⟨w.heap.size, 10, none⟩ = some (i64 R.whole) := fd 10
  have f11 : x2.cell? ⟨w.heap.size, 11, none⟩ = some (.int .u8 R.mask) := fd 11
  have zd : w.heap.size < x2.heap.size := (Array.getElem?_eq_some_iff.1 lc0.out.hm).1
  clear fd
  have fo := cell_blk lc0.out.ho
  have g0 : x2.cell? ⟨w.heap.size + 1, 0, none⟩ = some (i64 1) := fo 0
  have g1 : x2.cell? ⟨w.heap.size + 1, 1, none⟩ = some (i64 o.sector) := fo 1
  have g2 : x2.cell? ⟨w.heap.size + 1, 2, none⟩ = some (i64 o.offset) := fo 2
  have g3 : x2.cell? ⟨w.heap.size + 1, 3, none⟩ = some (.slice o.A o.bn o.bc) := fo 3
  have g4 : x2.cell? ⟨w.heap.size + 1, 4, none⟩ = some (i64 o.n) := fo 4
  have g5 : x2.cell? ⟨w.heap.size + 1, 5, none⟩ = some (i64 o.k) := fo 5
  have g6 : x2.cell? ⟨w.heap.size + 1, 6, none⟩ = some (bv o.mask) := fo 6
  have zo : w.heap.size + 1 < x2.heap.size := (Array.getElem?_eq_some_iff.1 lc0.out.ho).1
  clear fo
  have HR := rerase_any hr2 limx (by have := h.bM.acts; omega) (by have := h.bM.offs; omega) (fun n hn => by have := h.bM.wear n hn; omega) h.mask h.left o.sector
  unfold RefPost at HR
  rw [hma] at HR
  simp only [RV.val, RV.cells] at HR
  have HR := Lib.hid HR
  clear hma
  go_wp2_with fail
  refine HR.out.mono ?_; rintro e x5 ⟨R', rfl, hr5, hb5, hm5, hl5⟩
  have HM5 := Lib.hid hm5
  have hd5 := hd2.below hb5
  have lc5 := lc0.out.below hb5
  clear f0 f1 f2 f3 f4 f5 f6 f7 f8 f9 f10 f11 g0 g1 g2 g3 g4 g5 g6 zd zo
  clear hm5 HR lb0 hr2 limx hd2
  go_wp2_with fail
  have nb := blk_new x5 (.cells #[i64 Ma.S, i64 Ma.Z, .slice R'.dA Ma.S R'.dc, .slice R'.wA Ma.S R'.wc, .slice R'.bA Ma.S R'.bc, .bool Ma.off, i64 Ma.offs, i64 Ma.acts, .bool Ma.cut.isSome, i64 R'.left, i64 R'.whole, .int .u8 R'.mask] 71)
  have b6 : Below x5.heap.size x5 (x5.alloc (.cells #[i64 Ma.S, i64 Ma.Z, .slice R'.dA Ma.S R'.dc, .slice R'.wA Ma.S R'.wc, .slice R'.bA Ma.S R'.bc, .bool Ma.off, i64 Ma.offs, i64 Ma.acts, .bool Ma.cut.isSome, i64 R'.left, i64 R'.whole, .int .u8 R'.mask] 71)) := Base.al (Below.refl _ _) _
  have z6 : x5.heap.size < (x5.alloc (.cells #[i64 Ma.S, i64 Ma.Z, .slice R'.dA Ma.S R'.dc, .slice R'.wA Ma.S R'.wc, .slice R'.bA Ma.S R'.bc, .bool Ma.off, i64 Ma.offs, i64 Ma.acts, .bool Ma.cut.isSome, i64 R'.left, i64 R'.whole, .int .u8 R'.mask] 71)).heap.size := by simp
  have no6 : ¬ O x5.heap.size := fun hq => Nat.lt_irrefl _ (hd5.lim _ hq)
  have lc6 := Lib.hid (lc5.below b6)
  have hd6 := hd5.below b6
  have hr6 := hr5.below b6
  generalize x5.alloc _ = x6 at *
  have nn := cell_blk nb
  have n0 : x6.cell? ⟨x5.heap.size, 0, none⟩ = some (i64 Ma.S) := nn 0
  have n1 : x6.cell? ⟨x5.heap.size, 1, none⟩ = some (i64 Ma.Z) := nn 1
  have n2 : x6.cell? ⟨x5.heap.size, 2, none⟩ = some (.slice R'.dA Ma.S R'.dc) := nn 2
  have n3 : x6.cell? ⟨x5.heap.size, 3, none⟩ = some (.slice R'.wA Ma.S R'.wc) := nn 3
  have n4 : x6.cell? ⟨x5.heap.size, 4, none⟩ = some (.slice R'.bA Ma.S R'.bc) := nn 4
  have n5 : x6.cell? ⟨x5.heap.size, 5, none⟩ = some (.bool Ma.off) := nn 5
  have n6 : x6.cell? ⟨x5.heap.size, 6, none⟩ = some (i64 Ma.offs) := nn 6
  have n7 : x6.cell? ⟨x5.heap.size, 7, none⟩ = some (i64 Ma.acts) := nn 7
  have n8 : x6.cell? ⟨x5.heap.size, 8, none⟩ = some (.bool Ma.cut.isSome) := nn 8
  have n9 : x6.cell? ⟨x5.heap.size, 9, none⟩ = some (i64 R'.left) := nn 9
  have n10 : x6.cell? ⟨x5.heap.size, 10, none⟩ = some (i64 R'.whole) := nn 10
  have n11 : x6.cell? ⟨x5.heap.size, 11, none⟩ = some (.int .u8 R'.mask) := nn 11
  have fo := cell_blk lc6.out.ho
  have g0 : x6.cell? ⟨w.heap.size + 1, 0, none⟩ = some (i64 1) := fo 0
  have g1 : x6.cell? ⟨w.heap.size + 1, 1, none⟩ = some (i64 o.sector) := fo 1
  have g2 : x6.cell? ⟨w.heap.size + 1, 2, none⟩ = some (i64 o.offset) := fo 2
  have g3 : x6.cell? ⟨w.heap.size + 1, 3, none⟩ = some (.slice o.A o.bn o.bc) := fo 3
  have g4 : x6.cell? ⟨w.heap.size + 1, 4, none⟩ = some (i64 o.n) := fo 4
  have g5 : x6.cell? ⟨w.heap.size + 1, 5, none⟩ = some (i64 o.k) := fo 5
  have g6 : x6.cell? ⟨w.heap.size + 1, 6, none⟩ = some (bv o.mask) := fo 6
  have zo : w.heap.size + 1 < x6.heap.size := (Array.getElem?_eq_some_iff.1 lc6.out.ho).1
  clear fo
  clear lc5 hd5 hr5 b6 nn nb
  have no1 : ¬ O (w.heap.size + 1) := fun hq => by have := lim _ hq; omega
  have q0 := fun q : OutOf O x6 => out_rd z6 no6 n0 q
  have q1 := fun q : OutOf O x6 => out_rd z6 no6 n1 q
  have q2 := fun q : OutOf O x6 => out_rd z6 no6 n2 q
  have q3 := fun q : OutOf O x6 => out_rd z6 no6 n3 q
  have q4 := fun q : OutOf O x6 => out_rd z6 no6 n4 q
  have q5 := fun q : OutOf O x6 => out_rd z6 no6 n5 q
  have q6 := fun q : OutOf O x6 => out_rd z6 no6 n6 q
  have q7 := fun q : OutOf O x6 => out_rd z6 no6 n7 q
  have q8 := fun q : OutOf O x6 => out_rd z6 no6 n8 q
  have q9 := fun q : OutOf O x6 => out_rd z6 no6 n9 q
  have q10 := fun q : OutOf O x6 => out_rd z6 no6 n10 q
  have q11 := fun q : OutOf O x6 => out_rd z6 no6 n11 q
  have p1 := fun q : OutOf O x6 => out_rd zo no1 g1 q
  have HE := Lib.hid (erase_any hd6.dr (by have := h.bN.acts; omega) (by have := h.bN.offs; omega) (fun n hn => by have := h.bN.wear n hn; omega) h.bN.cut o.sector)
  rw [hea] at HE
  clear hea
  refine wp_region_po (fun w' => ∃ p : OutOf O x6, w' = p.v) 8 [3] (by kernel_rfl) (by kernel_rfl) ⟨⟨_, Out.of_below (Base.dr (Below.refl _ _))⟩, rfl⟩ ?_
  simp only [List.take_succ_cons, List.take_zero, List.drop_succ_cons, List.drop_zero]
  have on0 := @on_rd0; have on1 := @on_rd1; have on2 := @on_rd2; have on3 := @on_new1; have on4 := @on_new2; have on5 := @gr_rd0
  repeat ((with_reducible refine seq_read ?_ ?_); (focus rfl); (intro K hK); (unfold readsAt); go_simp; first | ((with_reducible refine hK _ ?_); clear hK K) | (rw [if_neg (by intro h; cases h)]; (with_reducible refine hK _ ?_); clear hK K))
  refine seq_eff (by rfl) (by first | rfl | go_simp) ?_
  intro K hK
  unfold effAt2
  go_simp
  refine ⟨rfl, HE.out.mono ?_⟩; rintro e x7 ⟨rfl, hd7, ho7⟩
  refine ⟨_, rfl, ⟨⟨_, (Out.of_below (Base.dr (Below.refl _ _))).trans ho7⟩, rfl⟩, hK _ _ ?_⟩
  clear hK K
  repeat ((with_reducible refine seq_read ?_ ?_); (focus rfl); (intro K hK); (unfold readsAt); go_simp; first | ((with_reducible refine hK _ ?_); clear hK K) | (rw [if_neg (by intro h; cases h)]; (with_reducible refine hK _ ?_); clear hK K))
  clear on0 on1 on2 on3 on4 on5
  with_reducible refine seq_nil ?_
  have ho := (Out.of_below (O := O) (Base.dr (Below.refl x6.heap.size x6))).trans ho7
  have lc7 := Lib.hid (lc6.out.on lim ho)
  have hr7 := hr6.out (ho.wide (fun k hk => .inl (.inl hk)))
  clear q0 q1 q2 q3 q4 q5 q6 q7 q8 q9 q10 q11 p1 g0 g1 g2 g3 g4 g5 g6 zo z6 n0 n1 n2 n3 n4 n5 n6 n7 n8 n9 n10 n11 lc6 hr6 hd6 ho7 HE
  have fy := cell_blk lc7.out.hz
  have y0 : x7.cell? ⟨w.heap.size + 1 + 1, 0, none⟩ = some (.int .i64 0) := fy 0
  have y1 : x7.cell? ⟨w.heap.size + 1 + 1, 1, none⟩ = some (.int .i64 0) := fy 1
  have y2 : x7.cell? ⟨w.heap.size + 1 + 1, 2, none⟩ = some (.slice none 0 0) := fy 2
  have y3 : x7.cell? ⟨w.heap.size + 1 + 1, 3, none⟩ = some (.slice none 0 0) := fy 3
  have y4 : x7.cell? ⟨w.heap.size + 1 + 1, 4, none⟩ = some (.slice none 0 0) := fy 4
  have y5 : x7.cell? ⟨w.heap.size + 1 + 1, 5, none⟩ = some (.bool false) := fy 5
  have y6 : x7.cell? ⟨w.heap.size + 1 + 1, 6, none⟩ = some (.int .i64 0) := fy 6
  have y7 : x7.cell? ⟨w.heap.size + 1 + 1, 7, none⟩ = some (.int .i64 0) := fy 7
  have y8 : x7.cell? ⟨w.heap.size + 1 + 1, 8, none⟩ = some (.bool false) := fy 8
  have y9 : x7.cell? ⟨w.heap.size + 1 + 1, 9, none⟩ = some (.int .i64 0) := fy 9
  have y10 : x7.cell? ⟨w.heap.size + 1 + 1, 10, none⟩ = some (.int .i64 0) := fy 10
  have y11 : x7.cell? ⟨w.heap.size + 1 + 1, 11, none⟩ = some (.int .u8 0) := fy 11
  have zy := fun i => frozen_blk lc7.out.hz i
  have zz : w.heap.size + 1 + 1 < x7.heap.size := (Array.getElem?_eq_some_iff.1 lc7.out.hz).1
  clear fy
  by_cases hef : ea = ef
  · subst hef
    go_wp2_with fail
    have hs12 : ((((((((((((x7.setCell ⟨w.heap.size + 1 + 1, 0, none⟩ (i64 Ma.S)).setCell ⟨w.heap.size + 1 + 1, 1, none⟩ (i64 Ma.Z)).setCell ⟨w.heap.size + 1 + 1, 2, none⟩ (.slice R'.dA Ma.S R'.dc)).setCell ⟨w.heap.size + 1 + 1, 3, none⟩ (.slice R'.wA Ma.S R'.wc)).setCell ⟨w.heap.size + 1 + 1, 4, none⟩ (.slice R'.bA Ma.S R'.bc)).setCell ⟨w.heap.size + 1 + 1, 5, none⟩ (.bool Ma.off)).setCell ⟨w.heap.size + 1 + 1, 6, none⟩ (i64 Ma.offs)).setCell ⟨w.heap.size + 1 + 1, 7, none⟩ (i64 Ma.acts)).setCell ⟨w.heap.size + 1 + 1, 8, none⟩ (.bool Ma.cut.isSome)).setCell ⟨w.heap.size + 1 + 1, 9, none⟩ (i64 R'.left)).setCell ⟨w.heap.size + 1 + 1, 10, none⟩ (i64 R'.whole)).setCell ⟨w.heap.size + 1 + 1, 11, none⟩ (.int .u8 R'.mask)) = sets x7 (w.heap.size + 1 + 1) 0 [i64 Ma.S, i64 Ma.Z, .slice R'.dA Ma.S R'.dc, .slice R'.wA Ma.S R'.wc, .slice R'.bA Ma.S R'.bc, .bool Ma.off, i64 Ma.offs, i64 Ma.acts, .bool Ma.cut.isSome, i64 R'.left, i64 R'.whole, .int .u8 R'.mask] := rfl
    rw [hs12]
    have e12 := sets_at lc7.out.hz [i64 Ma.S, i64 Ma.Z, .slice R'.dA Ma.S R'.dc, .slice R'.wA Ma.S R'.wc, .slice R'.bA Ma.S R'.bc, .bool Ma.off, i64 Ma.offs, i64 Ma.acts, .bool Ma.cut.isSome, i64 R'.left, i64 R'.whole, .int .u8 R'.mask] rfl
    have s12 := sets_out (Q := fun k => k = w.heap.size + 1 + 1) rfl [i64 Ma.S, i64 Ma.Z, .slice R'.dA Ma.S R'.dc, .slice R'.wA Ma.S R'.wc, .slice R'.bA Ma.S R'.bc, .bool Ma.off, i64 Ma.offs, i64 Ma.acts, .bool Ma.cut.isSome, i64 R'.left, i64 R'.whole, .int .u8 R'.mask] x7 x7 0 (Out.refl _ _)
    clear hs12 y0 y1 y2 y3 y4 y5 y6 y7 y8 y9 y10 y11 zy zz
    generalize sets x7 (w.heap.size + 1 + 1) 0 [i64 Ma.S, i64 Ma.Z, .slice R'.dA Ma.S R'.dc, .slice R'.wA Ma.S R'.wc, .slice R'.bA Ma.S R'.bc, .bool Ma.off, i64 Ma.offs, i64 Ma.acts, .bool Ma.cut.isSome, i64 R'.left, i64 R'.whole, .int .u8 R'.mask] = w9 at *
    have e := cell_blk e12
    have e0 : w9.cell? ⟨w.heap.size + 1 + 1, 0, none⟩ = some (i64 Ma.S) := e 0
    have e1 : w9.cell? ⟨w.heap.size + 1 + 1, 1, none⟩ = some (i64 Ma.Z) := e 1
    have e2 : w9.cell? ⟨w.heap.size + 1 + 1, 2, none⟩ = some (.slice R'.dA Ma.S R'.dc) := e 2
    have e3 : w9.cell? ⟨w.heap.size + 1 + 1, 3, none⟩ = some (.slice R'.wA Ma.S R'.wc) := e 3
    have e4 : w9.cell? ⟨w.heap.size + 1 + 1, 4, none⟩ = some (.slice R'.bA Ma.S R'.bc) := e 4
    have e5 : w9.cell? ⟨w.heap.size + 1 + 1, 5, none⟩ = some (.bool Ma.off) := e 5
    have e6 : w9.cell? ⟨w.heap.size + 1 + 1, 6, none⟩ = some (i64 Ma.offs) := e 6
    have e7 : w9.cell? ⟨w.heap.size + 1 + 1, 7, none⟩ = some (i64 Ma.acts) := e 7
    have e8 : w9.cell? ⟨w.heap.size + 1 + 1, 8, none⟩ = some (.bool Ma.cut.isSome) := e 8
    have e9 : w9.cell? ⟨w.heap.size + 1 + 1, 9, none⟩ = some (i64 R'.left) := e 9
    have e10 : w9.cell? ⟨w.heap.size + 1 + 1, 10, none⟩ = some (i64 R'.whole) := e 10
    have e11 : w9.cell? ⟨w.heap.size + 1 + 1, 11, none⟩ = some (.int .u8 R'.mask) := e 11
    have d9 := DevR.outQ (hd7) s12 (by intro k hk e; have := lim k hk; omega)
    have r9 := RefR.sub (Q := fun k => (O) k ∨ E k) (RefR.out (hr7) (s12.wide (fun k hk => .inr hk))) (fun k hk => .inl hk)
    have o9 : Out O w w9 := Out.new ((lc7.out.out.wide (Q := fun k => O k ∨ k = w.heap.size + 1 + 1) (fun k hk => .inl hk)).trans (s12.wide (fun k hk => .inr hk))) (by rintro k (hk | rfl); exact .inl hk; exact .inr (by omega))
    refine bodyPost_ret (v := .tuple #[.bool true, .agg #[i64 Ma.S, i64 Ma.Z, .slice R'.dA Ma.S R'.dc, .slice R'.wA Ma.S R'.wc, .slice R'.bA Ma.S R'.bc, .bool Ma.off, i64 Ma.offs, i64 Ma.acts, .bool Ma.cut.isSome, i64 R'.left, i64 R'.whole, .int .u8 R'.mask]]) (by simp [results, Try.results37, go_sem, e0, e1, e2, e3, e4, e5, e6, e7, e8, e9, e10, e11]) rfl ⟨true, R', O, 0, ?_, (fun _ => rfl), ?_, ?_, o9, (fun k hk => .inl hk), (by rw [HM5.out]; exact h.mask), (Nat.le_trans hl5 h.left)⟩
    · rw [hdoM]; rfl
    · rw [hdoN]; exact d9
    · rw [hdoM]; exact r9
  · have hne : (ea == ef) = false := by rw [beq_eq_false_iff_ne]; exact hef
    have hne2 : ((ea : Int) == (ef : Int)) = false := by rw [beq_eq_false_iff_ne]; omega
    have HS := Lib.hid hsame
    have HEF := Lib.hid hef
    clear hsame hef
    go_wp2_with fail
    have hs12 : ((((((((((((x7.setCell ⟨w.heap.size + 1 + 1, 0, none⟩ (i64 Ma.S)).setCell ⟨w.heap.size + 1 + 1, 1, none⟩ (i64 Ma.Z)).setCell ⟨w.heap.size + 1 + 1, 2, none⟩ (.slice R'.dA Ma.S R'.dc)).setCell ⟨w.heap.size + 1 + 1, 3, none⟩ (.slice R'.wA Ma.S R'.wc)).setCell ⟨w.heap.size + 1 + 1, 4, none⟩ (.slice R'.bA Ma.S R'.bc)).setCell ⟨w.heap.size + 1 + 1, 5, none⟩ (.bool Ma.off)).setCell ⟨w.heap.size + 1 + 1, 6, none⟩ (i64 Ma.offs)).setCell ⟨w.heap.size + 1 + 1, 7, none⟩ (i64 Ma.acts)).setCell ⟨w.heap.size + 1 + 1, 8, none⟩ (.bool Ma.cut.isSome)).setCell ⟨w.heap.size + 1 + 1, 9, none⟩ (i64 R'.left)).setCell ⟨w.heap.size + 1 + 1, 10, none⟩ (i64 R'.whole)).setCell ⟨w.heap.size + 1 + 1, 11, none⟩ (.int .u8 R'.mask)) = sets x7 (w.heap.size + 1 + 1) 0 [i64 Ma.S, i64 Ma.Z, .slice R'.dA Ma.S R'.dc, .slice R'.wA Ma.S R'.wc, .slice R'.bA Ma.S R'.bc, .bool Ma.off, i64 Ma.offs, i64 Ma.acts, .bool Ma.cut.isSome, i64 R'.left, i64 R'.whole, .int .u8 R'.mask] := rfl
    rw [hs12]
    have e12 := sets_at lc7.out.hz [i64 Ma.S, i64 Ma.Z, .slice R'.dA Ma.S R'.dc, .slice R'.wA Ma.S R'.wc, .slice R'.bA Ma.S R'.bc, .bool Ma.off, i64 Ma.offs, i64 Ma.acts, .bool Ma.cut.isSome, i64 R'.left, i64 R'.whole, .int .u8 R'.mask] rfl
    have s12 := sets_out (Q := fun k => k = w.heap.size + 1 + 1) rfl [i64 Ma.S, i64 Ma.Z, .slice R'.dA Ma.S R'.dc, .slice R'.wA Ma.S R'.wc, .slice R'.bA Ma.S R'.bc, .bool Ma.off, i64 Ma.offs, i64 Ma.acts, .bool Ma.cut.isSome, i64 R'.left, i64 R'.whole, .int .u8 R'.mask] x7 x7 0 (Out.refl _ _)
    clear hs12 y0 y1 y2 y3 y4 y5 y6 y7 y8 y9 y10 y11 zy zz
    generalize sets x7 (w.heap.size + 1 + 1) 0 [i64 Ma.S, i64 Ma.Z, .slice R'.dA Ma.S R'.dc, .slice R'.wA Ma.S R'.wc, .slice R'.bA Ma.S R'.bc, .bool Ma.off, i64 Ma.offs, i64 Ma.acts, .bool Ma.cut.isSome, i64 R'.left, i64 R'.whole, .int .u8 R'.mask] = w9 at *
    have e := cell_blk e12
    have e0 : w9.cell? ⟨w.heap.size + 1 + 1, 0, none⟩ = some (i64 Ma.S) := e 0
    have e1 : w9.cell? ⟨w.heap.size + 1 + 1, 1, none⟩ = some (i64 Ma.Z) := e 1
    have e2 : w9.cell? ⟨w.heap.size + 1 + 1, 2, none⟩ = some (.slice R'.dA Ma.S R'.dc) := e 2
    have e3 : w9.cell? ⟨w.heap.size + 1 + 1, 3, none⟩ = some (.slice R'.wA Ma.S R'.wc) := e 3
    have e4 : w9.cell? ⟨w.heap.size + 1 + 1, 4, none⟩ = some (.slice R'.bA Ma.S R'.bc) := e 4
    have e5 : w9.cell? ⟨w.heap.size + 1 + 1, 5, none⟩ = some (.bool Ma.off) := e 5
    have e6 : w9.cell? ⟨w.heap.size + 1 + 1, 6, none⟩ = some (i64 Ma.offs) := e 6
    have e7 : w9.cell? ⟨w.heap.size + 1 + 1, 7, none⟩ = some (i64 Ma.acts) := e 7
    have e8 : w9.cell? ⟨w.heap.size + 1 + 1, 8, none⟩ = some (.bool Ma.cut.isSome) := e 8
    have e9 : w9.cell? ⟨w.heap.size + 1 + 1, 9, none⟩ = some (i64 R'.left) := e 9
    have e10 : w9.cell? ⟨w.heap.size + 1 + 1, 10, none⟩ = some (i64 R'.whole) := e 10
    have e11 : w9.cell? ⟨w.heap.size + 1 + 1, 11, none⟩ = some (.int .u8 R'.mask) := e 11
    have d9 := DevR.outQ (hd7) s12 (by intro k hk e; have := lim k hk; omega)
    have r9 := RefR.sub (Q := fun k => (O) k ∨ E k) (RefR.out (hr7) (s12.wide (fun k hk => .inr hk))) (fun k hk => .inl hk)
    have o9 : Out O w w9 := Out.new ((lc7.out.out.wide (Q := fun k => O k ∨ k = w.heap.size + 1 + 1) (fun k hk => .inl hk)).trans (s12.wide (fun k hk => .inr hk))) (by rintro k (hk | rfl); exact .inl hk; exact .inr (by omega))
    refine bodyPost_ret (v := .tuple #[.bool false, .agg #[i64 Ma.S, i64 Ma.Z, .slice R'.dA Ma.S R'.dc, .slice R'.wA Ma.S R'.wc, .slice R'.bA Ma.S R'.bc, .bool Ma.off, i64 Ma.offs, i64 Ma.acts, .bool Ma.cut.isSome, i64 R'.left, i64 R'.whole, .int .u8 R'.mask]]) (by simp [results, Try.results37, go_sem, e0, e1, e2, e3, e4, e5, e6, e7, e8, e9, e10, e11]) rfl ⟨false, R', O, 0, ?_, (fun e => absurd (HS.out e) HEF.out), ?_, ?_, o9, (fun k hk => .inl hk), (by rw [HM5.out]; exact h.mask), (Nat.le_trans hl5 h.left)⟩
    · rw [hdoM]; rfl
    · rw [hdoN]; exact d9
    · rw [hdoM]; exact r9
end Go.Proofs.Yteieaelinkdahaa

/- An operation of the law, kind 3. -/
namespace Go.Proofs.Yteieaelinkdahaa
open Go.RowKit Flo

set_option maxHeartbeats 4000000 in
set_option maxRecDepth 100000 in
theorem do3_any {O E : Nat → Prop} {w : World} {N M : Nor} {R : RV} {o : OpV} {lb : List Nat} (h : DoFit O E w N M R o lb) (hk : o.kind = 3) : Calls Try.prog 37 #[ptrD N, R.val M, o.val] w (DoPost O E w N M o lb) := by
  have hd := h.dev
  have hop := h.op
  have lim := hd.lim
  have P0 := fun W => Lib.hid (of_any o.sector o.offset W)
  obtain ⟨pa, pb, hpl⟩ : ∃ pa pb, ofPl o.sector o.offset = (pa, pb) := ⟨_, _, rfl⟩
  rw [hpl] at P0
  simp only [] at P0
  have lc0 : Hid (Loc O w #[i64 M.S, i64 M.Z, .slice R.dA M.S R.dc, .slice R.wA M.S R.wc, .slice R.bA M.S R.bc, .bool M.off, i64 M.offs, i64 M.acts, .bool M.cut.isSome, i64 R.left, i64 R.whole, .int .u8 R.mask] #[i64 3, i64 o.sector, i64 o.offset, .slice o.A o.bn o.bc, i64 o.n, i64 o.k, bv o.mask] _) := Lib.hid (Loc.start O w _ #[i64 3, i64 o.sector, i64 o.offset, .slice o.A o.bn o.bc, i64 o.n, i64 o.k, bv o.mask])
  have hrq : RefR (fun k => (O k ∨ E k) ∨ k = w.heap.size + 1 + 1) w R M := h.ref.wider (by rintro k (hk | rfl); exact .inl hk; exact .inr (by omega))
  have limq : ∀ W : World, w.heap.size + 1 + 1 < W.heap.size → ∀ k, ((O k ∨ E k) ∨ k = w.heap.size + 1 + 1) → k < W.heap.size := by rintro W hW k ((hk | hk) | rfl); have := lim k hk; omega; have := h.limE k hk; omega; exact hW
  have hdoN : ∀ g, N.doo o lb g = N.cutAt o.n o.k o.mask g := by intro g; unfold Nor.doo; rw [if_neg (by rw [hk]; decide)]; rw [if_neg (by rw [hk]; decide)]; rw [if_neg (by rw [hk]; decide)]; rw [if_pos hk]
  have hdoM : ∀ g, M.doo o lb g = M.cutAt o.n o.k o.mask g := by intro g; unfold Nor.doo; rw [if_neg (by rw [hk]; decide)]; rw [if_neg (by rw [hk]; decide)]; rw [if_neg (by rw [hk]; decide)]; rw [if_pos hk]
  clear hpl
  have lb0 : Hid (Below w.heap.size w (((w.alloc (.cells #[i64 M.S, i64 M.Z, .slice R.dA M.S R.dc, .slice R.wA M.S R.wc, .slice R.bA M.S R.bc, .bool M.off, i64 M.offs, i64 M.acts, .bool M.cut.isSome, i64 R.left, i64 R.whole, .int .u8 R.mask] 71)).alloc (.cells #[i64 3, i64 o.sector, i64 o.offset, .slice o.A o.bn o.bc, i64 o.n, i64 o.k, bv o.mask] 24)).alloc (.cells #[.int .i64 0, .int .i64 0, .slice none 0 0, .slice none 0 0, .slice none 0 0, .bool false, .int .i64 0, .int .i64 0, .bool false, .int .i64 0, .int .i64 0, .int .u8 0] 71))) := Lib.hid (Base.al (Base.al (Base.al (Below.refl _ _) _) _) _)
  show Calls Try.prog 37 #[ptrD N, .agg #[i64 M.S, i64 M.Z, .slice R.dA M.S R.dc, .slice R.wA M.S R.wc, .slice R.bA M.S R.bc, .bool M.off, i64 M.offs, i64 M.acts, .bool M.cut.isSome, i64 R.left, i64 R.whole, .int .u8 R.mask], .agg #[i64 o.kind, i64 o.sector, i64 o.offset, .slice o.A o.bn o.bc, i64 o.n, i64 o.k, bv o.mask]] w _
  go_enter Try.func37, Try.ntmps37
  go_wp2_with fail
  refine (P0 _).out.mono ?_; rintro e x2 ⟨rfl, rfl⟩
  generalize ((w.alloc _).alloc _).alloc _ = x2 at *
  have hd2 := hd.below lb0.out
  have hr2 : RefR _ x2 R M := hrq.below lb0.out
  have limx := limq x2 (Array.getElem?_eq_some_iff.1 lc0.out.hz).1
  have fd := cell_blk lc0.out.hm
  have f0 : x2.cell? ⟨w.heap.size, 0, none⟩ = some (i64 M.S) := fd 0
  have f1 : x2.cell? ⟨w.heap.size, 1, none⟩ = some (i64 M.Z) := fd 1
  have f2 : x2.cell? ⟨w.heap.size, 2, none⟩ = some (.slice R.dA M.S R.dc) := fd 2
  have f3 : x2.cell? ⟨w.heap.size, 3, none⟩ = some (.slice R.wA M.S R.wc) := fd 3
  have f4 : x2.cell? ⟨w.heap.size, 4, none⟩ = some (.slice R.bA M.S R.bc) := fd 4
  have f5 : x2.cell? ⟨w.heap.size, 5, none⟩ = some (.bool M.off) := fd 5
  have f6 : x2.cell? ⟨w.heap.size, 6, none⟩ = some (i64 M.offs) := fd 6
  have f7 : x2.cell? ⟨w.heap.size, 7, none⟩ = some (i64 M.acts) := fd 7
  have f8 : x2.cell? ⟨w.heap.size, 8, none⟩ = some (.bool M.cut.isSome) := fd 8
  have f9 : x2.cell? ⟨w.heap.size, 9, none⟩ = some (i64 R.left) := fd 9
  have f10 : x2.cell? ⟨w.heap.size, 10, none⟩ = some (i64 R.whole) := fd 10
  have f11 : x2.cell? ⟨w.heap.size, 11, none⟩ = some (.int .u8 R.mask) := fd 11
  have zd : w.heap.size < x2.heap.size := (Array.getElem?_eq_some_iff.1 lc0.out.hm).1
  clear fd
  have fo := cell_blk lc0.out.ho
  have g0 : x2.cell? ⟨w.heap.size + 1, 0, none⟩ = some (i64 3) := fo 0
  have g1 : x2.cell? ⟨w.heap.size + 1, 1, none⟩ = some (i64 o.sector) := fo 1
  have g2 : x2.cell? ⟨w.heap.size + 1, 2, none⟩ = some (i64 o.offset) := fo 2
  have g3 : x2.cell? ⟨w.heap.size + 1, 3, none⟩ = some (.slice o.A o.bn o.bc) := fo 3
  have g4 : x2.cell? ⟨w.heap.size + 1, 4, none⟩ = some (i64 o.n) := fo 4
  have g5 : x2.cell? ⟨w.heap.size + 1, 5, none⟩ = some (i64 o.k) := fo 5
  have g6 : x2.cell? ⟨w.heap.size + 1, 6, none⟩ = some (bv o.mask) := fo 6
  have zo : w.heap.size + 1 < x2.heap.size := (Array.getElem?_eq_some_iff.1 lc0.out.ho).1
  clear fo
  have HC := Lib.hid (cut_any hd2 o.n o.k o.mask hop.mask)
  have hw2 : RefR (fun k => ((O k ∨ E k) ∨ k = w.heap.size + 1 + 1) ∨ k = x2.heap.size) x2 R M := hr2.wider (by rintro k (hk | rfl); exact .inl hk; exact .inr (Nat.le_refl _))
  have hg2 := lb0.out.size
  have hne2 : w.heap.size + 1 + 1 ≠ x2.heap.size := by have := (Array.getElem?_eq_some_iff.1 lc0.out.hz).1; omega
  go_wp2_with fail
  refine HC.out.mono ?_; rintro e x3 ⟨rfl, hd3, ho3⟩
  have lc3 := Lib.hid (lc0.out.on lim ho3)
  have hr3 := hw2.out (ho3.wide (fun k hk => .inl (.inl (.inl hk))))
  clear f0 f1 f2 f3 f4 f5 f6 f7 f8 f9 f10 f11 g0 g1 g2 g3 g4 g5 g6 zd zo
  have fd := cell_blk lc3.out.hm
  have f0 : x3.cell? ⟨w.heap.size, 0, none⟩ = some (i64 M.S) := fd 0
  have f1 : x3.cell? ⟨w.heap.size, 1, none⟩ = some (i64 M.Z) := fd 1
  have f2 : x3.cell? ⟨w.heap.size, 2, none⟩ = some (.slice R.dA M.S R.dc) := fd 2
  have f3 : x3.cell? ⟨w.heap.size, 3, none⟩ = some (.slice R.wA M.S R.wc) := fd 3
  have f4 : x3.cell? ⟨w.heap.size, 4, none⟩ = some (.slice R.bA M.S R.bc) := fd 4
  have f5 : x3.cell? ⟨w.heap.size, 5, none⟩ = some (.bool M.off) := fd 5
  have f6 : x3.cell? ⟨w.heap.size, 6, none⟩ = some (i64 M.offs) := fd 6
  have f7 : x3.cell? ⟨w.heap.size, 7, none⟩ = some (i64 M.acts) := fd 7
  have f8 : x3.cell? ⟨w.heap.size, 8, none⟩ = some (.bool M.cut.isSome) := fd 8
  have f9 : x3.cell? ⟨w.heap.size, 9, none⟩ = some (i64 R.left) := fd 9
  have f10 : x3.cell? ⟨w.heap.size, 10, none⟩ = some (i64 R.whole) := fd 10
  have f11 : x3.cell? ⟨w.heap.size, 11, none⟩ = some (.int .u8 R.mask) := fd 11
  have zd : w.heap.size < x3.heap.size := (Array.getElem?_eq_some_iff.1 lc3.out.hm).1
  clear fd
  have fo := cell_blk lc3.out.ho
  have g0 : x3.cell? ⟨w.heap.size + 1, 0, none⟩ = some (i64 3) := fo 0
  have g1 : x3.cell? ⟨w.heap.size + 1, 1, none⟩ = some (i64 o.sector) := fo 1
  have g2 : x3.cell? ⟨w.heap.size + 1, 2, none⟩ = some (i64 o.offset) := fo 2
  have g3 : x3.cell? ⟨w.heap.size + 1, 3, none⟩ = some (.slice o.A o.bn o.bc) := fo 3
  have g4 : x3.cell? ⟨w.heap.size + 1, 4, none⟩ = some (i64 o.n) := fo 4
  have g5 : x3.cell? ⟨w.heap.size + 1, 5, none⟩ = some (i64 o.k) := fo 5
  have g6 : x3.cell? ⟨w.heap.size + 1, 6, none⟩ = some (bv o.mask) := fo 6
  have zo : w.heap.size + 1 < x3.heap.size := (Array.getElem?_eq_some_iff.1 lc3.out.ho).1
  clear fo
  have HR := rcut_any x3 R M o.n o.k o.mask x2.heap.size
  simp only [RV.val, RV.cells, Nor.cutAt, Option.isSome_some] at HR
  obtain ⟨nn, hnn⟩ : ∃ nn, o.n.toNat = nn := ⟨_, rfl⟩
  obtain ⟨kk, hkk⟩ : ∃ kk, o.k.toNat = kk := ⟨_, rfl⟩
  rw [hnn, hkk] at HR
  have hnl : nn ≤ 9223372036854775807 := by have := hop.n64; omega
  have HR := Lib.hid HR
  clear lb0 lc0 hd2 hr2 hw2 HC ho3 limx
  go_wp2_with fail
  refine HR.out.mono ?_; rintro e x5 ⟨rfl, hb5⟩
  have hd5 := hd3.below hb5
  have hr5 := (hr3.below hb5).cutAt o.n o.k o.mask x2.heap.size
  rw [hnn, hkk] at hr5
  clear hnn hkk
  have lc5 := Lib.hid (lc3.out.below hb5)
  clear f0 f1 f2 f3 f4 f5 f6 f7 f8 f9 f10 f11 g0 g1 g2 g3 g4 g5 g6 zd zo
  clear HR lc3 hd3 hr3 hb5
  have fy := cell_blk lc5.out.hz
  have y0 : x5.cell? ⟨w.heap.size + 1 + 1, 0, none⟩ = some (.int .i64 0) := fy 0
  have y1 : x5.cell? ⟨w.heap.size + 1 + 1, 1, none⟩ = some (.int .i64 0) := fy 1
  have y2 : x5.cell? ⟨w.heap.size + 1 + 1, 2, none⟩ = some (.slice none 0 0) := fy 2
  have y3 : x5.cell? ⟨w.heap.size + 1 + 1, 3, none⟩ = some (.slice none 0 0) := fy 3
  have y4 : x5.cell? ⟨w.heap.size + 1 + 1, 4, none⟩ = some (.slice none 0 0) := fy 4
  have y5 : x5.cell? ⟨w.heap.size + 1 + 1, 5, none⟩ = some (.bool false) := fy 5
  have y6 : x5.cell? ⟨w.heap.size + 1 + 1, 6, none⟩ = some (.int .i64 0) := fy 6
  have y7 : x5.cell? ⟨w.heap.size + 1 + 1, 7, none⟩ = some (.int .i64 0) := fy 7
  have y8 : x5.cell? ⟨w.heap.size + 1 + 1, 8, none⟩ = some (.bool false) := fy 8
  have y9 : x5.cell? ⟨w.heap.size + 1 + 1, 9, none⟩ = some (.int .i64 0) := fy 9
  have y10 : x5.cell? ⟨w.heap.size + 1 + 1, 10, none⟩ = some (.int .i64 0) := fy 10
  have y11 : x5.cell? ⟨w.heap.size + 1 + 1, 11, none⟩ = some (.int .u8 0) := fy 11
  have zy := fun i => frozen_blk lc5.out.hz i
  have zz : w.heap.size + 1 + 1 < x5.heap.size := (Array.getElem?_eq_some_iff.1 lc5.out.hz).1
  clear fy
  go_wp2_with fail
  have hs12 : ((((((((((((x5.setCell ⟨w.heap.size + 1 + 1, 0, none⟩ (i64 M.S)).setCell ⟨w.heap.size + 1 + 1, 1, none⟩ (i64 M.Z)).setCell ⟨w.heap.size + 1 + 1, 2, none⟩ (.slice R.dA M.S R.dc)).setCell ⟨w.heap.size + 1 + 1, 3, none⟩ (.slice R.wA M.S R.wc)).setCell ⟨w.heap.size + 1 + 1, 4, none⟩ (.slice R.bA M.S R.bc)).setCell ⟨w.heap.size + 1 + 1, 5, none⟩ (.bool M.off)).setCell ⟨w.heap.size + 1 + 1, 6, none⟩ (i64 M.offs)).setCell ⟨w.heap.size + 1 + 1, 7, none⟩ (i64 M.acts)).setCell ⟨w.heap.size + 1 + 1, 8, none⟩ (.bool true)).setCell ⟨w.heap.size + 1 + 1, 9, none⟩ (i64 nn)).setCell ⟨w.heap.size + 1 + 1, 10, none⟩ (i64 kk)).setCell ⟨w.heap.size + 1 + 1, 11, none⟩ (.int .u8 o.mask)) = sets x5 (w.heap.size + 1 + 1) 0 [i64 M.S, i64 M.Z, .slice R.dA M.S R.dc, .slice R.wA M.S R.wc, .slice R.bA M.S R.bc, .bool M.off, i64 M.offs, i64 M.acts, .bool true, i64 nn, i64 kk, .int .u8 o.mask] := rfl
  rw [hs12]
  have e12 := sets_at lc5.out.hz [i64 M.S, i64 M.Z, .slice R.dA M.S R.dc, .slice R.wA M.S R.wc, .slice R.bA M.S R.bc, .bool M.off, i64 M.offs, i64 M.acts, .bool true, i64 nn, i64 kk, .int .u8 o.mask] rfl
  have s12 := sets_out (Q := fun k => k = w.heap.size + 1 + 1) rfl [i64 M.S, i64 M.Z, .slice R.dA M.S R.dc, .slice R.wA M.S R.wc, .slice R.bA M.S R.bc, .bool M.off, i64 M.offs, i64 M.acts, .bool true, i64 nn, i64 kk, .int .u8 o.mask] x5 x5 0 (Out.refl _ _)
  clear hs12 y0 y1 y2 y3 y4 y5 y6 y7 y8 y9 y10 y11 zy zz
  generalize sets x5 (w.heap.size + 1 + 1) 0 [i64 M.S, i64 M.Z, .slice R.dA M.S R.dc, .slice R.wA M.S R.wc, .slice R.bA M.S R.bc, .bool M.off, i64 M.offs, i64 M.acts, .bool true, i64 nn, i64 kk, .int .u8 o.mask] = w9 at *
  have e := cell_blk e12
  have e0 : w9.cell? ⟨w.heap.size + 1 + 1, 0, none⟩ = some (i64 M.S) := e 0
  have e1 : w9.cell? ⟨w.heap.size + 1 + 1, 1, none⟩ = some (i64 M.Z) := e 1
  have e2 : w9.cell? ⟨w.heap.size + 1 + 1, 2, none⟩ = some (.slice R.dA M.S R.dc) := e 2
  have e3 : w9.cell? ⟨w.heap.size + 1 + 1, 3, none⟩ = some (.slice R.wA M.S R.wc) := e 3
  have e4 : w9.cell? ⟨w.heap.size + 1 + 1, 4, none⟩ = some (.slice R.bA M.S R.bc) := e 4
  have e5 : w9.cell? ⟨w.heap.size + 1 + 1, 5, none⟩ = some (.bool M.off) := e 5
  have e6 : w9.cell? ⟨w.heap.size + 1 + 1, 6, none⟩ = some (i64 M.offs) := e 6
  have e7 : w9.cell? ⟨w.heap.size + 1 + 1, 7, none⟩ = some (i64 M.acts) := e 7
  have e8 : w9.cell? ⟨w.heap.size + 1 + 1, 8, none⟩ = some (.bool true) := e 8
  have e9 : w9.cell? ⟨w.heap.size + 1 + 1, 9, none⟩ = some (i64 nn) := e 9
  have e10 : w9.cell? ⟨w.heap.size + 1 + 1, 10, none⟩ = some (i64 kk) := e 10
  have e11 : w9.cell? ⟨w.heap.size + 1 + 1, 11, none⟩ = some (.int .u8 o.mask) := e 11
  have d9 := DevR.outQ (hd5) s12 (by rintro k (hk | hk) e; have := lim k hk; omega; exact hne2 (e.symm.trans hk))
  have r9 := RefR.sub (Q := fun k => ((fun k => O k ∨ k = x2.heap.size)) k ∨ E k) (RefR.out (hr5) (s12.wide (fun k hk => .inl (.inr hk)))) (by rintro k ((hk | hk) | hk); exact .inl (.inl (.inl hk)); exact .inr hk; exact .inl (.inl (.inr hk)))
  have o9 : Out O w w9 := Out.new ((lc5.out.out.wide (Q := fun k => O k ∨ k = w.heap.size + 1 + 1) (fun k hk => .inl hk)).trans (s12.wide (fun k hk => .inr hk))) (by rintro k (hk | rfl); exact .inl hk; exact .inr (by omega))
  refine bodyPost_ret (v := .tuple #[.bool true, .agg #[i64 M.S, i64 M.Z, .slice R.dA M.S R.dc, .slice R.wA M.S R.wc, .slice R.bA M.S R.bc, .bool M.off, i64 M.offs, i64 M.acts, .bool true, i64 nn, i64 kk, .int .u8 o.mask]]) (by simp [results, Try.results37, go_sem, e0, e1, e2, e3, e4, e5, e6, e7, e8, e9, e10, e11]) rfl ⟨true, { R with left := nn, whole := kk, mask := o.mask }, (fun k => O k ∨ k = x2.heap.size), x2.heap.size, ?_, (fun _ => rfl), ?_, ?_, o9, (by rintro k (hk | rfl); exact .inl hk; exact .inr hg2), hop.mask, hnl⟩
  · rw [hdoM]; rfl
  · rw [hdoN]; exact d9
  · rw [hdoM]; exact r9
end Go.Proofs.Yteieaelinkdahaa

/- An operation of the law, kind 4. -/
namespace Go.Proofs.Yteieaelinkdahaa
open Go.RowKit Flo

set_option maxHeartbeats 4000000 in
set_option maxRecDepth 100000 in
theorem do4_any {O E : Nat → Prop} {w : World} {N M : Nor} {R : RV} {o : OpV} {lb : List Nat} (h : DoFit O E w N M R o lb) (hk : o.kind = 4) : Calls Try.prog 37 #[ptrD N, R.val M, o.val] w (DoPost O E w N M o lb) := by
  have hd := h.dev
  have hop := h.op
  have lim := hd.lim
  have P0 := fun W => Lib.hid (of_any o.sector o.offset W)
  obtain ⟨pa, pb, hpl⟩ : ∃ pa pb, ofPl o.sector o.offset = (pa, pb) := ⟨_, _, rfl⟩
  rw [hpl] at P0
  simp only [] at P0
  have lc0 : Hid (Loc O w #[i64 M.S, i64 M.Z, .slice R.dA M.S R.dc, .slice R.wA M.S R.wc, .slice R.bA M.S R.bc, .bool M.off, i64 M.offs, i64 M.acts, .bool M.cut.isSome, i64 R.left, i64 R.whole, .int .u8 R.mask] #[i64 4, i64 o.sector, i64 o.offset, .slice o.A o.bn o.bc, i64 o.n, i64 o.k, bv o.mask] _) := Lib.hid (Loc.start O w _ #[i64 4, i64 o.sector, i64 o.offset, .slice o.A o.bn o.bc, i64 o.n, i64 o.k, bv o.mask])
  have hrq : RefR (fun k => (O k ∨ E k) ∨ k = w.heap.size + 1 + 1) w R M := h.ref.wider (by rintro k (hk | rfl); exact .inl hk; exact .inr (by omega))
  have limq : ∀ W : World, w.heap.size + 1 + 1 < W.heap.size → ∀ k, ((O k ∨ E k) ∨ k = w.heap.size + 1 + 1) → k < W.heap.size := by rintro W hW k ((hk | hk) | rfl); have := lim k hk; omega; have := h.limE k hk; omega; exact hW
  have hdoN : ∀ g, N.doo o lb g = N.turn := by intro g; unfold Nor.doo; rw [if_neg (by rw [hk]; decide)]; rw [if_neg (by rw [hk]; decide)]; rw [if_neg (by rw [hk]; decide)]; rw [if_neg (by rw [hk]; decide)]; rw [if_pos hk]
  have hdoM : ∀ g, M.doo o lb g = M.turn := by intro g; unfold Nor.doo; rw [if_neg (by rw [hk]; decide)]; rw [if_neg (by rw [hk]; decide)]; rw [if_neg (by rw [hk]; decide)]; rw [if_neg (by rw [hk]; decide)]; rw [if_pos hk]
  obtain ⟨Mt, hMt⟩ : ∃ Mt, M.turn = Mt := ⟨_, rfl⟩
  rw [hMt] at hdoM
  clear hpl
  have lb0 : Hid (Below w.heap.size w (((w.alloc (.cells #[i64 M.S, i64 M.Z, .slice R.dA M.S R.dc, .slice R.wA M.S R.wc, .slice R.bA M.S R.bc, .bool M.off, i64 M.offs, i64 M.acts, .bool M.cut.isSome, i64 R.left, i64 R.whole, .int .u8 R.mask] 71)).alloc (.cells #[i64 4, i64 o.sector, i64 o.offset, .slice o.A o.bn o.bc, i64 o.n, i64 o.k, bv o.mask] 24)).alloc (.cells #[.int .i64 0, .int .i64 0, .slice none 0 0, .slice none 0 0, .slice none 0 0, .bool false, .int .i64 0, .int .i64 0, .bool false, .int .i64 0, .int .i64 0, .int .u8 0] 71))) := Lib.hid (Base.al (Base.al (Base.al (Below.refl _ _) _) _) _)
  show Calls Try.prog 37 #[ptrD N, .agg #[i64 M.S, i64 M.Z, .slice R.dA M.S R.dc, .slice R.wA M.S R.wc, .slice R.bA M.S R.bc, .bool M.off, i64 M.offs, i64 M.acts, .bool M.cut.isSome, i64 R.left, i64 R.whole, .int .u8 R.mask], .agg #[i64 o.kind, i64 o.sector, i64 o.offset, .slice o.A o.bn o.bc, i64 o.n, i64 o.k, bv o.mask]] w _
  go_enter Try.func37, Try.ntmps37
  go_wp2_with fail
  refine (P0 _).out.mono ?_; rintro e x2 ⟨rfl, rfl⟩
  generalize ((w.alloc _).alloc _).alloc _ = x2 at *
  have hd2 := hd.below lb0.out
  have hr2 : RefR _ x2 R M := hrq.below lb0.out
  have limx := limq x2 (Array.getElem?_eq_some_iff.1 lc0.out.hz).1
  have fd := cell_blk lc0.out.hm
  have f0 : x2.cell? ⟨w.heap.size, 0, none⟩ = some (i64 M.S) := fd 0
  have f1 : x2.cell? ⟨w.heap.size, 1, none⟩ = some (i64 M.Z) := fd 1
  have f2 : x2.cell? ⟨w.heap.size, 2, none⟩ = some (.slice R.dA M.S R.dc) := fd 2
  have f3 : x2.cell? ⟨w.heap.size, 3, none⟩ = some (.slice R.wA M.S R.wc) := fd 3
  have f4 : x2.cell? ⟨w.heap.size, 4, none⟩ = some (.slice R.bA M.S R.bc) := fd 4
  have f5 : x2.cell? ⟨w.heap.size, 5, none⟩ = some (.bool M.off) := fd 5
  have f6 : x2.cell? ⟨w.heap.size, 6, none⟩ = some (i64 M.offs) := fd 6
  have f7 : x2.cell? ⟨w.heap.size, 7, none⟩ = some (i64 M.acts) := fd 7
  have f8 : x2.cell? ⟨w.heap.size, 8, none⟩ = some (.bool M.cut.isSome) := fd 8
  have f9 : x2.cell? ⟨w.heap.size, 9, none⟩ = some (i64 R.left) := fd 9
  have f10 : x2.cell? ⟨w.heap.size, 10, none⟩ = some (i64 R.whole) := fd 10
  have f11 : x2.cell? ⟨w.heap.size, 11, none⟩ = some (.int .u8 R.mask) := fd 11
  have zd : w.heap.size < x2.heap.size := (Array.getElem?_eq_some_iff.1 lc0.out.hm).1
  clear fd
  have fo := cell_blk lc0.out.ho
  have g0 : x2.cell? ⟨w.heap.size + 1, 0, none⟩ = some (i64 4) := fo 0
  have g1 : x2.cell? ⟨w.heap.size + 1, 1, none⟩ = some (i64 o.sector) := fo 1
  have g2 : x2.cell? ⟨w.heap.size + 1, 2, none⟩ = some (i64 o.offset) := fo 2
  have g3 : x2.cell? ⟨w.heap.size + 1, 3, none⟩ = some (.slice o.A o.bn o.bc) := fo 3
  have g4 : x2.cell? ⟨w.heap.size + 1, 4, none⟩ = some (i64 o.n) := fo 4
  have g5 : x2.cell? ⟨w.heap.size + 1, 5, none⟩ = some (i64 o.k) := fo 5
  have g6 : x2.cell? ⟨w.heap.size + 1, 6, none⟩ = some (bv o.mask) := fo 6
  have zo : w.heap.size + 1 < x2.heap.size := (Array.getElem?_eq_some_iff.1 lc0.out.ho).1
  clear fo
  have HC := Lib.hid (off_any hd2 (by have := h.bN.offs; omega))
  go_wp2_with fail
  refine HC.out.mono ?_; rintro e x3 ⟨rfl, hd3, ho3⟩
  have lc3 := Lib.hid (lc0.out.on lim ho3)
  have hr3 := hr2.out (ho3.wide (fun k hk => .inl (.inl hk)))
  clear f0 f1 f2 f3 f4 f5 f6 f7 f8 f9 f10 f11 g0 g1 g2 g3 g4 g5 g6 zd zo
  have fd := cell_blk lc3.out.hm
  have f0 : x3.cell? ⟨w.heap.size, 0, none⟩ = some (i64 M.S) := fd 0
  have f1 : x3.cell? ⟨w.heap.size, 1, none⟩ = some (i64 M.Z) := fd 1
  have f2 : x3.cell? ⟨w.heap.size, 2, none⟩ = some (.slice R.dA M.S R.dc) := fd 2
  have f3 : x3.cell? ⟨w.heap.size, 3, none⟩ = some (.slice R.wA M.S R.wc) := fd 3
  have f4 : x3.cell? ⟨w.heap.size, 4, none⟩ = some (.slice R.bA M.S R.bc) := fd 4
  have f5 : x3.cell? ⟨w.heap.size, 5, none⟩ = some (.bool M.off) := fd 5
  have f6 : x3.cell? ⟨w.heap.size, 6, none⟩ = some (i64 M.offs) := fd 6
  have f7 : x3.cell? ⟨w.heap.size, 7, none⟩ = some (i64 M.acts) := fd 7
  have f8 : x3.cell? ⟨w.heap.size, 8, none⟩ = some (.bool M.cut.isSome) := fd 8
  have f9 : x3.cell? ⟨w.heap.size, 9, none⟩ = some (i64 R.left) := fd 9
  have f10 : x3.cell? ⟨w.heap.size, 10, none⟩ = some (i64 R.whole) := fd 10
  have f11 : x3.cell? ⟨w.heap.size, 11, none⟩ = some (.int .u8 R.mask) := fd 11
  have zd : w.heap.size < x3.heap.size := (Array.getElem?_eq_some_iff.1 lc3.out.hm).1
  clear fd
  have HR := rturn_any (w := x3) (R := R) (N := M) (by have := h.bM.offs; omega)
  rw [hMt] at HR
  simp only [RV.val, RV.cells] at HR
  have HR := Lib.hid HR
  have hrt := hr3.turn
  rw [hMt] at hrt
  clear lb0 lc0 hd2 hr2 HC ho3 limx hMt
  go_wp2_with fail
  refine HR.out.mono ?_; rintro e x5 ⟨rfl, hb5⟩
  have hd5 := hd3.below hb5
  have hr5 := hrt.below hb5
  have lc5 := Lib.hid (lc3.out.below hb5)
  clear f0 f1 f2 f3 f4 f5 f6 f7 f8 f9 f10 f11 zd HR lc3 hd3 hr3 hb5 hrt
  have fy := cell_blk lc5.out.hz
  have y0 : x5.cell? ⟨w.heap.size + 1 + 1, 0, none⟩ = some (.int .i64 0) := fy 0
  have y1 : x5.cell? ⟨w.heap.size + 1 + 1, 1, none⟩ = some (.int .i64 0) := fy 1
  have y2 : x5.cell? ⟨w.heap.size + 1 + 1, 2, none⟩ = some (.slice none 0 0) := fy 2
  have y3 : x5.cell? ⟨w.heap.size + 1 + 1, 3, none⟩ = some (.slice none 0 0) := fy 3
  have y4 : x5.cell? ⟨w.heap.size + 1 + 1, 4, none⟩ = some (.slice none 0 0) := fy 4
  have y5 : x5.cell? ⟨w.heap.size + 1 + 1, 5, none⟩ = some (.bool false) := fy 5
  have y6 : x5.cell? ⟨w.heap.size + 1 + 1, 6, none⟩ = some (.int .i64 0) := fy 6
  have y7 : x5.cell? ⟨w.heap.size + 1 + 1, 7, none⟩ = some (.int .i64 0) := fy 7
  have y8 : x5.cell? ⟨w.heap.size + 1 + 1, 8, none⟩ = some (.bool false) := fy 8
  have y9 : x5.cell? ⟨w.heap.size + 1 + 1, 9, none⟩ = some (.int .i64 0) := fy 9
  have y10 : x5.cell? ⟨w.heap.size + 1 + 1, 10, none⟩ = some (.int .i64 0) := fy 10
  have y11 : x5.cell? ⟨w.heap.size + 1 + 1, 11, none⟩ = some (.int .u8 0) := fy 11
  have zy := fun i => frozen_blk lc5.out.hz i
  have zz : w.heap.size + 1 + 1 < x5.heap.size := (Array.getElem?_eq_some_iff.1 lc5.out.hz).1
  clear fy
  go_wp2_with fail
  have hs12 : ((((((((((((x5.setCell ⟨w.heap.size + 1 + 1, 0, none⟩ (i64 Mt.S)).setCell ⟨w.heap.size + 1 + 1, 1, none⟩ (i64 Mt.Z)).setCell ⟨w.heap.size + 1 + 1, 2, none⟩ (.slice R.dA Mt.S R.dc)).setCell ⟨w.heap.size + 1 + 1, 3, none⟩ (.slice R.wA Mt.S R.wc)).setCell ⟨w.heap.size + 1 + 1, 4, none⟩ (.slice R.bA Mt.S R.bc)).setCell ⟨w.heap.size + 1 + 1, 5, none⟩ (.bool Mt.off)).setCell ⟨w.heap.size + 1 + 1, 6, none⟩ (i64 Mt.offs)).setCell ⟨w.heap.size + 1 + 1, 7, none⟩ (i64 Mt.acts)).setCell ⟨w.heap.size + 1 + 1, 8, none⟩ (.bool Mt.cut.isSome)).setCell ⟨w.heap.size + 1 + 1, 9, none⟩ (i64 R.left)).setCell ⟨w.heap.size + 1 + 1, 10, none⟩ (i64 R.whole)).setCell ⟨w.heap.size + 1 + 1, 11, none⟩ (.int .u8 R.mask)) = sets x5 (w.heap.size + 1 + 1) 0 [i64 Mt.S, i64 Mt.Z, .slice R.dA Mt.S R.dc, .slice R.wA Mt.S R.wc, .slice R.bA Mt.S R.bc, .bool Mt.off, i64 Mt.offs, i64 Mt.acts, .bool Mt.cut.isSome, i64 R.left, i64 R.whole, .int .u8 R.mask] := rfl
  rw [hs12]
  have e12 := sets_at lc5.out.hz [i64 Mt.S, i64 Mt.Z, .slice R.dA Mt.S R.dc, .slice R.wA Mt.S R.wc, .slice R.bA Mt.S R.bc, .bool Mt.off, i64 Mt.offs, i64 Mt.acts, .bool Mt.cut.isSome, i64 R.left, i64 R.whole, .int .u8 R.mask] rfl
  have s12 := sets_out (Q := fun k => k = w.heap.size + 1 + 1) rfl [i64 Mt.S, i64 Mt.Z, .slice R.dA Mt.S R.dc, .slice R.wA Mt.S R.wc, .slice R.bA Mt.S R.bc, .bool Mt.off, i64 Mt.offs, i64 Mt.acts, .bool Mt.cut.isSome, i64 R.left, i64 R.whole, .int .u8 R.mask] x5 x5 0 (Out.refl _ _)
  clear hs12 y0 y1 y2 y3 y4 y5 y6 y7 y8 y9 y10 y11 zy zz
  generalize sets x5 (w.heap.size + 1 + 1) 0 [i64 Mt.S, i64 Mt.Z, .slice R.dA Mt.S R.dc, .slice R.wA Mt.S R.wc, .slice R.bA Mt.S R.bc, .bool Mt.off, i64 Mt.offs, i64 Mt.acts, .bool Mt.cut.isSome, i64 R.left, i64 R.whole, .int .u8 R.mask] = w9 at *
  have e := cell_blk e12
  have e0 : w9.cell? ⟨w.heap.size + 1 + 1, 0, none⟩ = some (i64 Mt.S) := e 0
  have e1 : w9.cell? ⟨w.heap.size + 1 + 1, 1, none⟩ = some (i64 Mt.Z) := e 1
  have e2 : w9.cell? ⟨w.heap.size + 1 + 1, 2, none⟩ = some (.slice R.dA Mt.S R.dc) := e 2
  have e3 : w9.cell? ⟨w.heap.size + 1 + 1, 3, none⟩ = some (.slice R.wA Mt.S R.wc) := e 3
  have e4 : w9.cell? ⟨w.heap.size + 1 + 1, 4, none⟩ = some (.slice R.bA Mt.S R.bc) := e 4
  have e5 : w9.cell? ⟨w.heap.size + 1 + 1, 5, none⟩ = some (.bool Mt.off) := e 5
  have e6 : w9.cell? ⟨w.heap.size + 1 + 1, 6, none⟩ = some (i64 Mt.offs) := e 6
  have e7 : w9.cell? ⟨w.heap.size + 1 + 1, 7, none⟩ = some (i64 Mt.acts) := e 7
  have e8 : w9.cell? ⟨w.heap.size + 1 + 1, 8, none⟩ = some (.bool Mt.cut.isSome) := e 8
  have e9 : w9.cell? ⟨w.heap.size + 1 + 1, 9, none⟩ = some (i64 R.left) := e 9
  have e10 : w9.cell? ⟨w.heap.size + 1 + 1, 10, none⟩ = some (i64 R.whole) := e 10
  have e11 : w9.cell? ⟨w.heap.size + 1 + 1, 11, none⟩ = some (.int .u8 R.mask) := e 11
  have d9 := DevR.outQ (hd5) s12 (by intro k hk e; have := lim k hk; omega)
  have r9 := RefR.sub (Q := fun k => (O) k ∨ E k) (RefR.out (hr5) (s12.wide (fun k hk => .inr hk))) (fun k hk => .inl hk)
  have o9 : Out O w w9 := Out.new ((lc5.out.out.wide (Q := fun k => O k ∨ k = w.heap.size + 1 + 1) (fun k hk => .inl hk)).trans (s12.wide (fun k hk => .inr hk))) (by rintro k (hk | rfl); exact .inl hk; exact .inr (by omega))
  refine bodyPost_ret (v := .tuple #[.bool true, .agg #[i64 Mt.S, i64 Mt.Z, .slice R.dA Mt.S R.dc, .slice R.wA Mt.S R.wc, .slice R.bA Mt.S R.bc, .bool Mt.off, i64 Mt.offs, i64 Mt.acts, .bool Mt.cut.isSome, i64 R.left, i64 R.whole, .int .u8 R.mask]]) (by simp [results, Try.results37, go_sem, e0, e1, e2, e3, e4, e5, e6, e7, e8, e9, e10, e11]) rfl ⟨true, R, O, 0, ?_, (fun _ => rfl), ?_, ?_, o9, (fun k hk => .inl hk), h.mask, h.left⟩
  · rw [hdoM]; rfl
  · rw [hdoN]; exact d9
  · rw [hdoM]; exact r9
end Go.Proofs.Yteieaelinkdahaa

/- An operation of the law, kind 5. -/
namespace Go.Proofs.Yteieaelinkdahaa
open Go.RowKit Flo

set_option maxHeartbeats 4000000 in
set_option maxRecDepth 100000 in
theorem do5_any {O E : Nat → Prop} {w : World} {N M : Nor} {R : RV} {o : OpV} {lb : List Nat} (h : DoFit O E w N M R o lb) (hk : o.kind = 5) : Calls Try.prog 37 #[ptrD N, R.val M, o.val] w (DoPost O E w N M o lb) := by
  have hd := h.dev
  have hop := h.op
  have lim := hd.lim
  have P0 := fun W => Lib.hid (of_any o.sector o.offset W)
  obtain ⟨pa, pb, hpl⟩ : ∃ pa pb, ofPl o.sector o.offset = (pa, pb) := ⟨_, _, rfl⟩
  rw [hpl] at P0
  simp only [] at P0
  have lc0 : Hid (Loc O w #[i64 M.S, i64 M.Z, .slice R.dA M.S R.dc, .slice R.wA M.S R.wc, .slice R.bA M.S R.bc, .bool M.off, i64 M.offs, i64 M.acts, .bool M.cut.isSome, i64 R.left, i64 R.whole, .int .u8 R.mask] #[i64 5, i64 o.sector, i64 o.offset, .slice o.A o.bn o.bc, i64 o.n, i64 o.k, bv o.mask] _) := Lib.hid (Loc.start O w _ #[i64 5, i64 o.sector, i64 o.offset, .slice o.A o.bn o.bc, i64 o.n, i64 o.k, bv o.mask])
  have hrq : RefR (fun k => (O k ∨ E k) ∨ k = w.heap.size + 1 + 1) w R M := h.ref.wider (by rintro k (hk | rfl); exact .inl hk; exact .inr (by omega))
  have limq : ∀ W : World, w.heap.size + 1 + 1 < W.heap.size → ∀ k, ((O k ∨ E k) ∨ k = w.heap.size + 1 + 1) → k < W.heap.size := by rintro W hW k ((hk | hk) | rfl); have := lim k hk; omega; have := h.limE k hk; omega; exact hW
  have hdoN : ∀ g, N.doo o lb g = { N with off := false } := by intro g; unfold Nor.doo; rw [if_neg (by rw [hk]; decide)]; rw [if_neg (by rw [hk]; decide)]; rw [if_neg (by rw [hk]; decide)]; rw [if_neg (by rw [hk]; decide)]; rw [if_neg (by rw [hk]; decide)]; rw [if_pos hk]
  have hdoM : ∀ g, M.doo o lb g = { M with off := false } := by intro g; unfold Nor.doo; rw [if_neg (by rw [hk]; decide)]; rw [if_neg (by rw [hk]; decide)]; rw [if_neg (by rw [hk]; decide)]; rw [if_neg (by rw [hk]; decide)]; rw [if_neg (by rw [hk]; decide)]; rw [if_pos hk]
  clear hpl
  have lb0 : Hid (Below w.heap.size w (((w.alloc (.cells #[i64 M.S, i64 M.Z, .slice R.dA M.S R.dc, .slice R.wA M.S R.wc, .slice R.bA M.S R.bc, .bool M.off, i64 M.offs, i64 M.acts, .bool M.cut.isSome, i64 R.left, i64 R.whole, .int .u8 R.mask] 71)).alloc (.cells #[i64 5, i64 o.sector, i64 o.offset, .slice o.A o.bn o.bc, i64 o.n, i64 o.k, bv o.mask] 24)).alloc (.cells #[.int .i64 0, .int .i64 0, .slice none 0 0, .slice none 0 0, .slice none 0 0, .bool false, .int .i64 0, .int .i64 0, .bool false, .int .i64 0, .int .i64 0, .int .u8 0] 71))) := Lib.hid (Base.al (Base.al (Base.al (Below.refl _ _) _) _) _)
  show Calls Try.prog 37 #[ptrD N, .agg #[i64 M.S, i64 M.Z, .slice R.dA M.S R.dc, .slice R.wA M.S R.wc, .slice R.bA M.S R.bc, .bool M.off, i64 M.offs, i64 M.acts, .bool M.cut.isSome, i64 R.left, i64 R.whole, .int .u8 R.mask], .agg #[i64 o.kind, i64 o.sector, i64 o.offset, .slice o.A o.bn o.bc, i64 o.n, i64 o.k, bv o.mask]] w _
  go_enter Try.func37, Try.ntmps37
  go_wp2_with fail
  refine (P0 _).out.mono ?_; rintro e x2 ⟨rfl, rfl⟩
  generalize ((w.alloc _).alloc _).alloc _ = x2 at *
  have hd2 := hd.below lb0.out
  have hr2 : RefR _ x2 R M := hrq.below lb0.out
  have limx := limq x2 (Array.getElem?_eq_some_iff.1 lc0.out.hz).1
  have fd := cell_blk lc0.out.hm
  have f0 : x2.cell? ⟨w.heap.size, 0, none⟩ = some (i64 M.S) := fd 0
  have f1 : x2.cell? ⟨w.heap.size, 1, none⟩ = some (i64 M.Z) := fd 1
  have f2 : x2.cell? ⟨w.heap.size, 2, none⟩ = some (.slice R.dA M.S R.dc) := fd 2
  have f3 : x2.cell? ⟨w.heap.size, 3, none⟩ = some (.slice R.wA M.S R.wc) := fd 3
  have f4 : x2.cell? ⟨w.heap.size, 4, none⟩ = some (.slice R.bA M.S R.bc) := fd 4
  have f5 : x2.cell? ⟨w.heap.size, 5, none⟩ = some (.bool M.off) := fd 5
  have f6 : x2.cell? ⟨w.heap.size, 6, none⟩ = some (i64 M.offs) := fd 6
  have f7 : x2.cell? ⟨w.heap.size, 7, none⟩ = some (i64 M.acts) := fd 7
  have f8 : x2.cell? ⟨w.heap.size, 8, none⟩ = some (.bool M.cut.isSome) := fd 8
  have f9 : x2.cell? ⟨w.heap.size, 9, none⟩ = some (i64 R.left) := fd 9
  have f10 : x2.cell? ⟨w.heap.size, 10, none⟩ = some (i64 R.whole) := fd 10
  have f11 : x2.cell? ⟨w.heap.size, 11, none⟩ = some (.int .u8 R.mask) := fd 11
  have zd : w.heap.size < x2.heap.size := (Array.getElem?_eq_some_iff.1 lc0.out.hm).1
  clear fd
  have fo := cell_blk lc0.out.ho
  have g0 : x2.cell? ⟨w.heap.size + 1, 0, none⟩ = some (i64 5) := fo 0
  have g1 : x2.cell? ⟨w.heap.size + 1, 1, none⟩ = some (i64 o.sector) := fo 1
  have g2 : x2.cell? ⟨w.heap.size + 1, 2, none⟩ = some (i64 o.offset) := fo 2
  have g3 : x2.cell? ⟨w.heap.size + 1, 3, none⟩ = some (.slice o.A o.bn o.bc) := fo 3
  have g4 : x2.cell? ⟨w.heap.size + 1, 4, none⟩ = some (i64 o.n) := fo 4
  have g5 : x2.cell? ⟨w.heap.size + 1, 5, none⟩ = some (i64 o.k) := fo 5
  have g6 : x2.cell? ⟨w.heap.size + 1, 6, none⟩ = some (bv o.mask) := fo 6
  have zo : w.heap.size + 1 < x2.heap.size := (Array.getElem?_eq_some_iff.1 lc0.out.ho).1
  clear fo
  have HC := Lib.hid (on_any hd2)
  have hd3 := hd2.on
  have ho3 : Out O x2 (x2.setCell ⟨N.D, 5, none⟩ (.bool false)) := (Out.refl O x2).set hd2.ownD _ _
  have lc3 := Lib.hid (lc0.out.on lim ho3)
  clear lb0 lc0 hd2 hr2 ho3 limx
  go_wp2_with fail
  refine HC.out.mono ?_; rintro e x3 ⟨rfl, hx3⟩
  rw [← hx3] at hd3 lc3
  clear hx3 HC
  clear f0 f1 f2 f3 f4 f5 f6 f7 f8 f9 f10 f11 g0 g1 g2 g3 g4 g5 g6 zd zo
  have zf := frozen_blk lc3.out.hm 5
  have fd := cell_blk lc3.out.hm
  have f0 : x3.cell? ⟨w.heap.size, 0, none⟩ = some (i64 M.S) := fd 0
  have f1 : x3.cell? ⟨w.heap.size, 1, none⟩ = some (i64 M.Z) := fd 1
  have f2 : x3.cell? ⟨w.heap.size, 2, none⟩ = some (.slice R.dA M.S R.dc) := fd 2
  have f3 : x3.cell? ⟨w.heap.size, 3, none⟩ = some (.slice R.wA M.S R.wc) := fd 3
  have f4 : x3.cell? ⟨w.heap.size, 4, none⟩ = some (.slice R.bA M.S R.bc) := fd 4
  have f5 : x3.cell? ⟨w.heap.size, 5, none⟩ = some (.bool M.off) := fd 5
  have f6 : x3.cell? ⟨w.heap.size, 6, none⟩ = some (i64 M.offs) := fd 6
  have f7 : x3.cell? ⟨w.heap.size, 7, none⟩ = some (i64 M.acts) := fd 7
  have f8 : x3.cell? ⟨w.heap.size, 8, none⟩ = some (.bool M.cut.isSome) := fd 8
  have f9 : x3.cell? ⟨w.heap.size, 9, none⟩ = some (i64 R.left) := fd 9
  have f10 : x3.cell? ⟨w.heap.size, 10, none⟩ = some (i64 R.whole) := fd 10
  have f11 : x3.cell? ⟨w.heap.size, 11, none⟩ = some (.int .u8 R.mask) := fd 11
  have zd : w.heap.size < x3.heap.size := (Array.getElem?_eq_some_iff.1 lc3.out.hm).1
  clear fd
  have lc4 := Lib.hid (lc3.out.offM)
  have hd4 := hd3.outQ (Q := fun k => k = w.heap.size) ((Out.refl (fun k => k = w.heap.size) x3).set (show (fun k => k = w.heap.size) w.heap.size from rfl) 5 (.bool false)) (by intro k hk e; have := lim k hk; omega)
  have hr4 := (h.ref.wider (Q := fun k => ((O k ∨ E k) ∨ k = w.heap.size + 1 + 1) ∨ k = w.heap.size) (by rintro k ((hk | rfl) | rfl); exact .inl hk; exact .inr (by omega); exact .inr (Nat.le_refl _))).on.out ((lc3.out.out.wide (fun k hk => .inl (.inl (.inl hk)))).trans ((Out.refl (fun k => ((O k ∨ E k) ∨ k = w.heap.size + 1 + 1) ∨ k = w.heap.size) x3).set (show (fun k => ((O k ∨ E k) ∨ k = w.heap.size + 1 + 1) ∨ k = w.heap.size) w.heap.size from .inr rfl) 5 (.bool false)))
  clear hd3
  go_wp2_with fail
  generalize x3.setCell ⟨w.heap.size, 5, none⟩ _ = x4 at *
  clear f0 f1 f2 f3 f4 f5 f6 f7 f8 f9 f10 f11 zd zf lc3
  have fd := cell_blk lc4.out.hm
  have f0 : x4.cell? ⟨w.heap.size, 0, none⟩ = some (i64 M.S) := fd 0
  have f1 : x4.cell? ⟨w.heap.size, 1, none⟩ = some (i64 M.Z) := fd 1
  have f2 : x4.cell? ⟨w.heap.size, 2, none⟩ = some (.slice R.dA M.S R.dc) := fd 2
  have f3 : x4.cell? ⟨w.heap.size, 3, none⟩ = some (.slice R.wA M.S R.wc) := fd 3
  have f4 : x4.cell? ⟨w.heap.size, 4, none⟩ = some (.slice R.bA M.S R.bc) := fd 4
  have f5 : x4.cell? ⟨w.heap.size, 5, none⟩ = some (.bool false) := fd 5
  have f6 : x4.cell? ⟨w.heap.size, 6, none⟩ = some (i64 M.offs) := fd 6
  have f7 : x4.cell? ⟨w.heap.size, 7, none⟩ = some (i64 M.acts) := fd 7
  have f8 : x4.cell? ⟨w.heap.size, 8, none⟩ = some (.bool M.cut.isSome) := fd 8
  have f9 : x4.cell? ⟨w.heap.size, 9, none⟩ = some (i64 R.left) := fd 9
  have f10 : x4.cell? ⟨w.heap.size, 10, none⟩ = some (i64 R.whole) := fd 10
  have f11 : x4.cell? ⟨w.heap.size, 11, none⟩ = some (.int .u8 R.mask) := fd 11
  have zd : w.heap.size < x4.heap.size := (Array.getElem?_eq_some_iff.1 lc4.out.hm).1
  clear fd
  have fy := cell_blk lc4.out.hz
  have y0 : x4.cell? ⟨w.heap.size + 1 + 1, 0, none⟩ = some (.int .i64 0) := fy 0
  have y1 : x4.cell? ⟨w.heap.size + 1 + 1, 1, none⟩ = some (.int .i64 0) := fy 1
  have y2 : x4.cell? ⟨w.heap.size + 1 + 1, 2, none⟩ = some (.slice none 0 0) := fy 2
  have y3 : x4.cell? ⟨w.heap.size + 1 + 1, 3, none⟩ = some (.slice none 0 0) := fy 3
  have y4 : x4.cell? ⟨w.heap.size + 1 + 1, 4, none⟩ = some (.slice none 0 0) := fy 4
  have y5 : x4.cell? ⟨w.heap.size + 1 + 1, 5, none⟩ = some (.bool false) := fy 5
  have y6 : x4.cell? ⟨w.heap.size + 1 + 1, 6, none⟩ = some (.int .i64 0) := fy 6
  have y7 : x4.cell? ⟨w.heap.size + 1 + 1, 7, none⟩ = some (.int .i64 0) := fy 7
  have y8 : x4.cell? ⟨w.heap.size + 1 + 1, 8, none⟩ = some (.bool false) := fy 8
  have y9 : x4.cell? ⟨w.heap.size + 1 + 1, 9, none⟩ = some (.int .i64 0) := fy 9
  have y10 : x4.cell? ⟨w.heap.size + 1 + 1, 10, none⟩ = some (.int .i64 0) := fy 10
  have y11 : x4.cell? ⟨w.heap.size + 1 + 1, 11, none⟩ = some (.int .u8 0) := fy 11
  have zy := fun i => frozen_blk lc4.out.hz i
  have zz : w.heap.size + 1 + 1 < x4.heap.size := (Array.getElem?_eq_some_iff.1 lc4.out.hz).1
  clear fy
  have q0 := fun q => on_cell (w := x4) zd f0 q
  have q1 := fun q => on_cell (w := x4) zd f1 q
  have q2 := fun q => on_cell (w := x4) zd f2 q
  have q3 := fun q => on_cell (w := x4) zd f3 q
  have q4 := fun q => on_cell (w := x4) zd f4 q
  have q5 := fun q => on_cell (w := x4) zd f5 q
  have q6 := fun q => on_cell (w := x4) zd f6 q
  have q7 := fun q => on_cell (w := x4) zd f7 q
  have q8 := fun q => on_cell (w := x4) zd f8 q
  have q9 := fun q => on_cell (w := x4) zd f9 q
  have q10 := fun q => on_cell (w := x4) zd f10 q
  have q11 := fun q => on_cell (w := x4) zd f11 q
  refine wp_region_ph (D := fun w' => ∃ p : OnOf _, w' = p.v) 2 [] (by kernel_rfl) (by kernel_rfl) ⟨⟨_, Base.dr (Below.refl _ _)⟩, rfl⟩ ?_
  simp only [List.take_succ_cons, List.take_zero, List.drop_succ_cons, List.drop_zero]
  have on0 := @on_rd0; have on1 := @on_rd1; have on2 := @on_rd2; have on3 := @on_new1; have on4 := @on_new2
  repeat (first | ((with_reducible refine head_quiet ?_ ?_); (focus rfl); (intro K hK); go_simp; first | ((with_reducible refine hK _ ?_); clear hK K) | (rw [if_neg (by intro h; cases h)]; (with_reducible refine hK _ ?_); clear hK K) | (apply Exists.intro; refine ⟨fun _ => ?_, hK _ ?_⟩; (fail); clear hK K)))
  clear on0 on1 on2 on3 on4
  with_reducible refine head_nil ?_
  rintro _ rfl
  clear q0 q1 q2 q3 q4 q5 q6 q7 q8 q9 q10 q11 f0 f1 f2 f3 f4 f5 f6 f7 f8 f9 f10 f11 zd
  go_wp2_with fail
  have hs12 : ((((((((((((x4.setCell ⟨w.heap.size + 1 + 1, 0, none⟩ (i64 M.S)).setCell ⟨w.heap.size + 1 + 1, 1, none⟩ (i64 M.Z)).setCell ⟨w.heap.size + 1 + 1, 2, none⟩ (.slice R.dA M.S R.dc)).setCell ⟨w.heap.size + 1 + 1, 3, none⟩ (.slice R.wA M.S R.wc)).setCell ⟨w.heap.size + 1 + 1, 4, none⟩ (.slice R.bA M.S R.bc)).setCell ⟨w.heap.size + 1 + 1, 5, none⟩ (.bool false)).setCell ⟨w.heap.size + 1 + 1, 6, none⟩ (i64 M.offs)).setCell ⟨w.heap.size + 1 + 1, 7, none⟩ (i64 M.acts)).setCell ⟨w.heap.size + 1 + 1, 8, none⟩ (.bool M.cut.isSome)).setCell ⟨w.heap.size + 1 + 1, 9, none⟩ (i64 R.left)).setCell ⟨w.heap.size + 1 + 1, 10, none⟩ (i64 R.whole)).setCell ⟨w.heap.size + 1 + 1, 11, none⟩ (.int .u8 R.mask)) = sets x4 (w.heap.size + 1 + 1) 0 [i64 M.S, i64 M.Z, .slice R.dA M.S R.dc, .slice R.wA M.S R.wc, .slice R.bA M.S R.bc, .bool false, i64 M.offs, i64 M.acts, .bool M.cut.isSome, i64 R.left, i64 R.whole, .int .u8 R.mask] := rfl
  rw [hs12]
  have e12 := sets_at lc4.out.hz [i64 M.S, i64 M.Z, .slice R.dA M.S R.dc, .slice R.wA M.S R.wc, .slice R.bA M.S R.bc, .bool false, i64 M.offs, i64 M.acts, .bool M.cut.isSome, i64 R.left, i64 R.whole, .int .u8 R.mask] rfl
  have s12 := sets_out (Q := fun k => k = w.heap.size + 1 + 1) rfl [i64 M.S, i64 M.Z, .slice R.dA M.S R.dc, .slice R.wA M.S R.wc, .slice R.bA M.S R.bc, .bool false, i64 M.offs, i64 M.acts, .bool M.cut.isSome, i64 R.left, i64 R.whole, .int .u8 R.mask] x4 x4 0 (Out.refl _ _)
  clear hs12 y0 y1 y2 y3 y4 y5 y6 y7 y8 y9 y10 y11 zy zz
  generalize sets x4 (w.heap.size + 1 + 1) 0 [i64 M.S, i64 M.Z, .slice R.dA M.S R.dc, .slice R.wA M.S R.wc, .slice R.bA M.S R.bc, .bool false, i64 M.offs, i64 M.acts, .bool M.cut.isSome, i64 R.left, i64 R.whole, .int .u8 R.mask] = w9 at *
  have e := cell_blk e12
  have e0 : w9.cell? ⟨w.heap.size + 1 + 1, 0, none⟩ = some (i64 M.S) := e 0
  have e1 : w9.cell? ⟨w.heap.size + 1 + 1, 1, none⟩ = some (i64 M.Z) := e 1
  have e2 : w9.cell? ⟨w.heap.size + 1 + 1, 2, none⟩ = some (.slice R.dA M.S R.dc) := e 2
  have e3 : w9.cell? ⟨w.heap.size + 1 + 1, 3, none⟩ = some (.slice R.wA M.S R.wc) := e 3
  have e4 : w9.cell? ⟨w.heap.size + 1 + 1, 4, none⟩ = some (.slice R.bA M.S R.bc) := e 4
  have e5 : w9.cell? ⟨w.heap.size + 1 + 1, 5, none⟩ = some (.bool false) := e 5
  have e6 : w9.cell? ⟨w.heap.size + 1 + 1, 6, none⟩ = some (i64 M.offs) := e 6
  have e7 : w9.cell? ⟨w.heap.size + 1 + 1, 7, none⟩ = some (i64 M.acts) := e 7
  have e8 : w9.cell? ⟨w.heap.size + 1 + 1, 8, none⟩ = some (.bool M.cut.isSome) := e 8
  have e9 : w9.cell? ⟨w.heap.size + 1 + 1, 9, none⟩ = some (i64 R.left) := e 9
  have e10 : w9.cell? ⟨w.heap.size + 1 + 1, 10, none⟩ = some (i64 R.whole) := e 10
  have e11 : w9.cell? ⟨w.heap.size + 1 + 1, 11, none⟩ = some (.int .u8 R.mask) := e 11
  have d9 := DevR.outQ (hd4) s12 (by intro k hk e; have := lim k hk; omega)
  have r9 := RefR.sub (Q := fun k => (O) k ∨ E k) (RefR.out (hr4) (s12.wide (fun k hk => .inl (.inr hk)))) (fun k hk => .inl (.inl hk))
  have o9 : Out O w w9 := Out.new ((lc4.out.out.wide (Q := fun k => O k ∨ k = w.heap.size + 1 + 1) (fun k hk => .inl hk)).trans (s12.wide (fun k hk => .inr hk))) (by rintro k (hk | rfl); exact .inl hk; exact .inr (by omega))
  refine bodyPost_ret (v := .tuple #[.bool true, .agg #[i64 M.S, i64 M.Z, .slice R.dA M.S R.dc, .slice R.wA M.S R.wc, .slice R.bA M.S R.bc, .bool false, i64 M.offs, i64 M.acts, .bool M.cut.isSome, i64 R.left, i64 R.whole, .int .u8 R.mask]]) (by simp [results, Try.results37, go_sem, e0, e1, e2, e3, e4, e5, e6, e7, e8, e9, e10, e11]) rfl ⟨true, R, O, 0, ?_, (fun _ => rfl), ?_, ?_, o9.then (Base.dr (Below.refl _ _)), (fun k hk => .inl hk), h.mask, h.left⟩
  · rw [hdoM]; rfl
  · rw [hdoN]; exact d9.dr
  · rw [hdoM]; exact r9.below (Base.dr (Below.refl _ _))
end Go.Proofs.Yteieaelinkdahaa

