/- An operation of the law: what it makes of a device, and of the document's. -/
import Derived.Test.YtokpoogcoeodkaaGreatDoorNorE
import Derived.Test.YtokpoogcoeodkaaGreatDoorNorU
import Derived.Test.YtokpoogcoeodkaaGreatDoorMg19
namespace Go.Proofs.YtokpoogcoeodkaaGreatDoor
open Go.RowKit Flo

/-- What is left of a device. -/
noncomputable def Nor.doo (N : Nor) (o : OpV) (lb : List Nat) (g : Nat) : Nor :=
  if o.kind = 0 then (N.prog (ofPl o.sector o.offset).1 (ofPl o.sector o.offset).2 lb).2
  else if o.kind = 1 then (N.erase o.sector).2
  else if o.kind = 2 then N
  else if o.kind = 3 then N.cutAt o.n o.k o.mask g
  else if o.kind = 4 then N.turn
  else if o.kind = 5 then { N with off := false }
  else N.spoil o.sector
/-- The operation as it stands in memory. -/
structure OpFit (O : Nat → Prop) (w : World) (o : OpV) (lb : List Nat) : Prop where
  bytes : Byt w (.slice o.A o.bn o.bc) lb
  lt : ∀ x ∈ lb, x < 256
  far : 0 < lb.length → Far O (.slice o.A o.bn o.bc)
  small : lb.length ≤ 6000
  n64 : -9223372036854775808 ≤ o.n ∧ o.n ≤ 9223372036854775807
  k64 : -9223372036854775808 ≤ o.k ∧ o.k ≤ 9223372036854775807
  mask : o.mask < 256
theorem Sl.out0 {O : Nat → Prop} {w w' : World} {k : Nat} {v : Value} {xs : List (List Value)} (h : Sl w k v xs) (hf : 0 < xs.length → Far O v) (hb : Out O w w') : Sl w' k v xs := by
  by_cases h0 : 0 < xs.length
  · exact Sl.out h (hf h0) hb
  · obtain ⟨A, cap, hv, hl, hm, hn, _⟩ := h
    exact ⟨A, cap, hv, hl, hm, hn, fun h1 => absurd h1 h0⟩
theorem OpFit.out {O : Nat → Prop} {w w' : World} {o : OpV} {lb : List Nat} (h : OpFit O w o lb) (hb : Out O w w') : OpFit O w' o lb :=
  { h with bytes := Sl.out0 h.bytes (by rw [List.length_map]; exact h.far) hb }
structure Bd (N : Nor) (j : Nat) : Prop where
  acts : N.acts ≤ j
  offs : N.offs ≤ j
  wear : ∀ n ∈ N.wear, n ≤ j
  cut : ∀ c, N.cut = some c → c.1 ≤ 9223372036854775807
/-- What an operation comes to. -/
abbrev DoPost (O E : Nat → Prop) (w : World) (N M : Nor) (o : OpV) (lb : List Nat) (e : Ending) (w' : World) : Prop :=
  ∃ (bb : Bool) (R' : RV) (O' : Nat → Prop) (g : Nat), e = .returned (.tuple #[.bool bb, R'.val (M.doo o lb g)]) ∧ (N = M → bb = true) ∧ DevR O' w' (N.doo o lb g) ∧ RefR (fun k => O' k ∨ E k) w' R' (M.doo o lb g) ∧ Out O w w' ∧ (∀ k, O' k → O k ∨ w.heap.size ≤ k) ∧ R'.mask < 256 ∧ R'.left ≤ 9223372036854775807
structure DoFit (O E : Nat → Prop) (w : World) (N M : Nor) (R : RV) (o : OpV) (lb : List Nat) : Prop where
  dev : DevR O w N
  ref : RefR (fun k => O k ∨ E k) w R M
  limE : ∀ k, E k → k < w.heap.size
  S : M.S = N.S
  Z : M.Z = N.Z
  bN : Bd N 1000
  bM : Bd M 1000
  mask : R.mask < 256
  left : R.left ≤ 9223372036854775807
  op : OpFit O w o lb

/-- Where nothing of it was written, a device is as it was. -/
theorem DevR.keep {O : Nat → Prop} {w w' : World} {N : Nor} (h : DevR O w N) (hs : w.heap.size ≤ w'.heap.size) (hk : ∀ k, O k → w'.heap[k]? = w.heap[k]?) : DevR O w' N where
  lim k hk2 := Nat.lt_of_lt_of_le (h.lim k hk2) hs
  hD := by rw [hk _ h.ownD]; exact h.hD
  hA := by obtain ⟨arr, h1, h2⟩ := h.hA; exact ⟨arr, by rw [hk _ h.ownA]; exact h1, h2⟩
  hW := by rw [hk _ h.ownW]; exact h.hW
  hM := h.hM.of_block (hk _ h.ownM)
  hR i l hl := by obtain ⟨b, j, h1, h2⟩ := h.hR i l hl; exact ⟨b, j, h1, by rw [hk _ (h.ownR b (List.mem_of_getElem? h1))]; exact h2⟩
  hC c hc := by rw [hk _ (h.ownC c hc)]; exact h.hC c hc
  bkl := h.bkl
  dl := h.dl
  wl := h.wl
  row := h.row
  geo := h.geo
  badt := h.badt
  cdl := h.cdl
  mask := h.mask
  ownD := h.ownD
  ownA := h.ownA
  ownW := h.ownW
  ownM := h.ownM
  ownC := h.ownC
  ownR := h.ownR
  apart := h.apart
  apartC := h.apartC
theorem DevR.outQ {O Q : Nat → Prop} {w w' : World} {N : Nor} (h : DevR O w N) (hb : Out Q w w') (hq : ∀ k, O k → ¬ Q k) : DevR O w' N :=
  h.keep hb.size (fun k hk => hb.block k (h.lim k hk) (hq k hk))

/-- The locals of Do. -/
structure Loc (O : Nat → Prop) (w : World) (D Ov : Array Value) (W : World) : Prop where
  hm : W.heap[w.heap.size]? = some (Obj.cells D 33 (0, 0))
  ho : W.heap[w.heap.size + 1]? = some (Obj.cells Ov 43 (0, 0))
  hz : W.heap[w.heap.size + 1 + 1]? = some (Obj.cells #[.int .i64 0, .int .i64 0, .slice none 0 0, .slice none 0 0, .slice none 0 0, .bool false, .int .i64 0, .int .i64 0, .bool false, .int .i64 0, .int .i64 0, .int .u8 0] 33 (0, 0))
  out : Out O w W
theorem Loc.start (O : Nat → Prop) (w : World) (D Ov : Array Value) : Loc O w D Ov (((w.alloc (.cells D 33)).alloc (.cells Ov 43)).alloc (.cells #[.int .i64 0, .int .i64 0, .slice none 0 0, .slice none 0 0, .slice none 0 0, .bool false, .int .i64 0, .int .i64 0, .bool false, .int .i64 0, .int .i64 0, .int .u8 0] 33)) :=
  ⟨blk_old (blk_old (blk_new w _)), blk_old (blk_new1 w _ _), blk_new2 w _ _ _, Out.of_below (Base.al (Base.al (Base.al (Below.refl _ _) _) _) _)⟩
theorem Loc.on {O : Nat → Prop} {w W W' : World} {D Ov : Array Value} (h : Loc O w D Ov W) (lim : ∀ k, O k → k < w.heap.size) (hb : Out O W W') : Loc O w D Ov W' :=
  ⟨hb.blk h.hm (fun hq => Nat.lt_irrefl _ (lim _ hq)), hb.blk h.ho (fun hq => by have := lim _ hq; omega), hb.blk h.hz (fun hq => by have := lim _ hq; omega), h.out.trans hb⟩
theorem Loc.below {O : Nat → Prop} {w W W' : World} {D Ov : Array Value} (h : Loc O w D Ov W) (hb : Below W.heap.size W W') : Loc O w D Ov W' :=
  ⟨blk_below h.hm hb, blk_below h.ho hb, blk_below h.hz hb, h.out.then hb⟩

theorem Loc.belowB {O : Nat → Prop} {w W W' : World} {D Ov : Array Value} {B : Nat} (h : Loc O w D Ov W) (hb : Below B W W') (h1 : w.heap.size + 1 + 1 < B) : Loc O w D Ov W' :=
  ⟨by rw [hb.block _ (by omega)]; exact h.hm, by rw [hb.block _ (by omega)]; exact h.ho, by rw [hb.block _ (by omega)]; exact h.hz,
   Out.new (O := O) (h.out.wide (Q := fun k => O k ∨ w.heap.size ≤ k) (fun k hk => .inl hk) |>.trans ⟨hb.os, hb.tape, hb.output, hb.size, fun k _ hn => hb.block k (by by_cases hk : k < B; exact hk; exact absurd (.inr (by omega)) hn)⟩) (fun k hk => hk)⟩
/-- 'append([]T{}, src...)', T of one cell, src empty or not. -/
theorem wpList_append_copy {P : Program} (w : World) {ops : Array Oper} {rest : List Oper} {o : Oper} {a : Act} {Q : Exit → Act → World → Prop} (hgd : o.guard = none) (s x : Operand) (t : TypeId)
    (ho : o.op = .call { callee := .builtin .append, args := #[s, x], argTypes := #[t, t] })
    (e : TypeId) (i : TypeInfo) (z : Value) (ht : P.underlying t = some (.slice e)) (hi : P.info? e = some i) (hz : i.zero = some z) (hsize : i.size = 1) (hby : i.bytes ≤ 1000)
    (b : Nat) (hs : a.eval s = .slice (some ⟨b, 0, none⟩) 0 0) (A : Option Addr) (n c : Nat) (news : List Value) (hx : a.eval x = .slice A n c) (hsl : Sl w 1 (.slice A n c) (news.map fun x => [x])) (hm : n ≤ 100000)
    (h : ∀ (b' cp : Nat) (w' : World), Below w.heap.size w w' → (b' = b ∨ b' = w.heap.size) → Sl w' 1 (.slice (some ⟨b', 0, none⟩) n cp) (news.map fun x => [x]) → wpList P ops Q rest (a.put o.dst (.slice (some ⟨b', 0, none⟩) n cp)) w') : wpList P ops Q (o :: rest) a w := by
  have hl := hsl.len
  rw [List.length_map] at hl
  by_cases hn : 0 < n
  · obtain ⟨ad, rfl⟩ := hsl.some hn
    refine wpList_append_fresh w hgd s x t ho e i z ht hi hz hsize hby ⟨b, 0, none⟩ hs ad n c news hx hl.symm hn hm (Sl.src1 hsl) ?_
    intro cp junk h1 h2
    refine h w.heap.size cp _ (Base.dr (Base.al (Below.refl _ _) _)) (.inr rfl) ?_
    have := Sl.of_blk (w := (w.alloc (.cells (news ++ junk).toArray e)).drew) (D := news ++ junk) (xs := news) (n := n) (t := e) (blk_new w _) (List.take_left' hl.symm) hl.symm h1 h2
    exact this
  · obtain rfl : n = 0 := by omega
    have : news = [] := List.eq_nil_of_length_eq_zero hl.symm
    subst this
    have hr : (Builtin.append_ #[t, t] o.type #[.slice (some ⟨b, 0, none⟩) 0 0, .slice A 0 c]).run P w = .ok (.slice (some ⟨b, 0, none⟩) 0 0) w := by
      cases A <;> simp [Builtin.append_, run_underlying ht, sizeOf, typeInfo, hi, Builtin.lenOf, Builtin.firstCells, loadCells, loadCellsFrom, storeCells]
    refine wpList_plain hgd fun K hK => ?_
    unfold Oper.wp execOp
    simp only [ho, resolve, invoke, builtin, Sem.run_bind, Sem.run_pure, Result.andThen_ok, List.map_toArray, List.map_cons, List.map_nil, hs, hx, hr]
    exact hK _ _ (h b 0 w (Below.refl _ _) (.inl rfl) ⟨some ⟨b, 0, none⟩, 0, rfl, Nat.le_refl _, Nat.zero_le _, (fun h => by cases h), fun h => absurd h (by decide)⟩)
theorem far_ge {O : Nat → Prop} {w : World} (lim : ∀ k, O k → k < w.heap.size) {g : Nat} (hg : w.heap.size ≤ g) (o n c : Nat) : Far O (.slice (some ⟨g, o, none⟩) n c) := far_new lim hg o n c
/-- A world that differs in the blocks O alone. -/
structure OutOf (O : Nat → Prop) (w : World) where
  v : World
  h : Out O w v
instance (O : Nat → Prop) (w : World) : Nonempty (OutOf O w) := ⟨⟨w, Out.refl _ _⟩⟩
instance (O : Nat → Prop) (w : World) : Inhabited (OutOf O w) := ⟨⟨w, Out.refl _ _⟩⟩
theorem out_rd {O : Nat → Prop} {w : World} {b o : Nat} {v : Value} (hb : b < w.heap.size) (hn : ¬ O b) (h : w.cell? ⟨b, o, none⟩ = some v) (p : OutOf O w) : p.v.cell? ⟨b, o, none⟩ = some v := by
  rw [← h]
  exact cell_heap (p.h.block b hb hn)
theorem RefR.on {O : Nat → Prop} {w : World} {R : RV} {N : Nor} (h : RefR O w R N) : RefR O w R { N with off := false } := { h with }
theorem zero_u8 (w : World) : (zeroValue 5).run Tryz.prog w = .ok (.int .u8 0) w := by
  obtain ⟨i, hi, hz, _, _⟩ := info_parts info_u8E
  simp [zeroValue, typeInfo, hi, hz]
/-- 'clear' of bytes of one's own. -/
theorem clear_own {w : World} {base n : Nat} {v : Value} {xs : List Value} (h : w.ownsRow base 5 1 v n xs) :
    ∃ w', (Builtin.clear_ #[38] 0 #[v]).run Tryz.prog w = .ok (.tuple #[]) w' ∧ w.grownBy w' v.ownBlock := by
  rcases h.2 with ⟨rfl, rfl⟩ | ⟨g, cap, cur, rfl, hbg, hgg, hnc, hcm, hcs, htake⟩
  · exact ⟨w, by simp [Builtin.clear_, run_underlying Tryz.underlying38], grown_refl _ _⟩
  · refine ⟨_, run_clear_row w (t := 38) (e := 5) Tryz.underlying38 (zero_u8 w) rfl rfl hgg (by omega), grown_setRow (grown_refl _ _) _⟩
theorem Loc.offM {O : Nat → Prop} {w W : World} {R : RV} {M : Nor} {Ov : Array Value} (h : Loc O w #[i64 M.S, i64 M.Z, .slice R.dA M.S R.dc, .slice R.wA M.S R.wc, .slice R.bA M.S R.bc, .bool M.off, i64 M.offs, i64 M.acts, .bool M.cut.isSome, i64 R.left, i64 R.whole, .int .u8 R.mask] Ov W) : Loc O w #[i64 M.S, i64 M.Z, .slice R.dA M.S R.dc, .slice R.wA M.S R.wc, .slice R.bA M.S R.bc, .bool false, i64 M.offs, i64 M.acts, .bool M.cut.isSome, i64 R.left, i64 R.whole, .int .u8 R.mask] Ov (W.setCell ⟨w.heap.size, 5, none⟩ (.bool false)) :=
  ⟨heap_setCell h.hm 5 (.bool false), blk_set h.ho _ _ (by show w.heap.size + 1 ≠ w.heap.size; omega), blk_set h.hz _ _ (by show w.heap.size + 1 + 1 ≠ w.heap.size; omega),
   Out.new ((h.out.wide (Q := fun k => O k ∨ k = w.heap.size) (fun k hk => .inl hk)).set (.inr rfl) 5 (.bool false)) (by rintro k (hk | rfl); exact .inl hk; exact .inr (Nat.le_refl _))⟩
end Go.Proofs.YtokpoogcoeodkaaGreatDoor

/- An operation of the law, kind 4. -/
namespace Go.Proofs.YtokpoogcoeodkaaGreatDoor
open Go.RowKit Flo

set_option maxHeartbeats 4000000 in
set_option maxRecDepth 100000 in
theorem do4_any {O E : Nat → Prop} {w : World} {N M : Nor} {R : RV} {o : OpV} {lb : List Nat} (h : DoFit O E w N M R o lb) (hk : o.kind = 4) : Calls Tryz.prog 11 #[ptrD N, R.val M, o.val] w (DoPost O E w N M o lb) := by
  have hd := h.dev
  have hop := h.op
  have lim := hd.lim
  have P0 := fun W => Lib.hid (of_any o.sector o.offset W)
  obtain ⟨pa, pb, hpl⟩ : ∃ pa pb, ofPl o.sector o.offset = (pa, pb) := ⟨_, _, rfl⟩
  rw [hpl] at P0
  simp only [] at P0
  have lc0 : Hid (Loc O w #[i64 M.S, i64 M.Z, .slice R.dA M.S R.dc, .slice R.wA M.S R.wc, .slice R.bA M.S R.bc, .bool M.off, i64 M.offs, i64 M.acts, .bool M.cut.isSome, i64 R.left, i64 R.whole, .int .u8 R.mask] #[i64 4, i64 o.sector, i64 o.offset, .slice o.A o.bn o.bc, i64 o.n, i64 o.k, bv o.mask] _) := Lib.hid (Loc.start O w _ #[i64 4, i64 o.sector, i64 o.offset, .slice o.A o.bn o.bc, i64 o.n, i64 o.k, bv o.mask])
  have hrq : RefR (fun k => (O k ∨ E k) ∨ k = w.heap.size + 1 + 1) w R M := h.ref.wider (by rintro k (hk | rfl); exact .inl hk; exact .inr (by omega))
  have limq : ∀ W : World, w.heap.size + 1 + 1 < W.heap.size → ∀ k, ((O k ∨ E k) ∨ k = w.heap.size + 1 + 1) → k < W.heap.size := by rintro W hW k ((hk | hk) | rfl); have := lim k hk; omega; have := h.limE k hk; omega; exact hW
  have hdoN : ∀ g, N.doo o lb g = N.turn := by intro g; unfold Nor.doo; rw [if_neg (by rw [hk]; decide)]; rw [if_neg (by rw [hk]; decide)]; rw [if_neg (by rw [hk]; decide)]; rw [if_neg (by rw [hk]; decide)]; rw [if_pos hk]
  have hdoM : ∀ g, M.doo o lb g = M.turn := by intro g; unfold Nor.doo; rw [if_neg (by rw [hk]; decide)]; rw [if_neg (by rw [hk]; decide)]; rw [if_neg (by rw [hk]; decide)]; rw [if_neg (by rw [hk]; decide)]; rw [if_pos hk]
  obtain ⟨Mt, hMt⟩ : ∃ Mt, M.turn = Mt := ⟨_, rfl⟩
  rw [hMt] at hdoM
  clear hpl
  have lb0 : Hid (Below w.heap.size w (((w.alloc (.cells #[i64 M.S, i64 M.Z, .slice R.dA M.S R.dc, .slice R.wA M.S R.wc, .slice R.bA M.S R.bc, .bool M.off, i64 M.offs, i64 M.acts, .bool M.cut.isSome, i64 R.left, i64 R.whole, .int .u8 R.mask] 33)).alloc (.cells #[i64 4, i64 o.sector, i64 o.offset, .slice o.A o.bn o.bc, i64 o.n, i64 o.k, bv o.mask] 43)).alloc (.cells #[.int .i64 0, .int .i64 0, .slice none 0 0, .slice none 0 0, .slice none 0 0, .bool false, .int .i64 0, .int .i64 0, .bool false, .int .i64 0, .int .i64 0, .int .u8 0] 33))) := Lib.hid (Base.al (Base.al (Base.al (Below.refl _ _) _) _) _)
  show Calls Tryz.prog 11 #[ptrD N, .agg #[i64 M.S, i64 M.Z, .slice R.dA M.S R.dc, .slice R.wA M.S R.wc, .slice R.bA M.S R.bc, .bool M.off, i64 M.offs, i64 M.acts, .bool M.cut.isSome, i64 R.left, i64 R.whole, .int .u8 R.mask], .agg #[i64 o.kind, i64 o.sector, i64 o.offset, .slice o.A o.bn o.bc, i64 o.n, i64 o.k, bv o.mask]] w _
  go_enter Tryz.func11, Tryz.ntmps11
  go_wp2_with fail
  refine (P0 _).out.mono ?_; rintro e x2 ⟨rfl, rfl⟩
  generalize ((w.alloc _).alloc _).alloc _ = x2 at *
  have hd2 := hd.below lb0.out
  have hr2 : RefR _ x2 R M := hrq.below lb0.out
  have limx := limq x2 (Array.getElem?_eq_some_iff.1 lc0.out.hz).1
  have fd := cell_blk lc0.out.hm
  have f0 : x2.cell? ⟨w.heap.size, 0, none⟩ = some (i64 M.S) := fd 0
  have f1 : x2.cell? ⟨w.heap.size, 1, none⟩ = some (i64 M.Z) := fd 1
  have f2 : x2.cell? ⟨w.heap.size, 2, none⟩ = some (.slice R.dA M.S R.dc) := fd 2
  have f3 : x2.cell? ⟨w.heap.size, 3, none⟩ = some (.slice R.wA M.S R.wc) := fd 3
  have f4 : x2.cell? ⟨w.heap.size, 4, none⟩ = some (.slice R.bA M.S R.bc) := fd 4
  have f5 : x2.cell? ⟨w.heap.size, 5, none⟩ = some (.bool M.off) := fd 5
  have f6 : x2.cell? ⟨w.heap.size, 6, none⟩ = some (i64 M.offs) := fd 6
  have f7 : x2.cell? ⟨w.heap.size, 7, none⟩ = some (i64 M.acts) := fd 7
  have f8 : x2.cell? ⟨w.heap.size, 8, none⟩ = some (.bool M.cut.isSome) := fd 8
  have f9 : x2.cell? ⟨w.heap.size, 9, none⟩ = some (i64 R.left) := fd 9
  have f10 : x2.cell? ⟨w.heap.size, 10, none⟩ = some (i64 R.whole) := fd 10
  have f11 : x2.cell? ⟨w.heap.size, 11, none⟩ = some (.int .u8 R.mask) := fd 11
  have zd : w.heap.size < x2.heap.size := (Array.getElem?_eq_some_iff.1 lc0.out.hm).1
  clear fd
  have fo := cell_blk lc0.out.ho
  have g0 : x2.cell? ⟨w.heap.size + 1, 0, none⟩ = some (i64 4) := fo 0
  have g1 : x2.cell? ⟨w.heap.size + 1, 1, none⟩ = some (i64 o.sector) := fo 1
  have g2 : x2.cell? ⟨w.heap.size + 1, 2, none⟩ = some (i64 o.offset) := fo 2
  have g3 : x2.cell? ⟨w.heap.size + 1, 3, none⟩ = some (.slice o.A o.bn o.bc) := fo 3
  have g4 : x2.cell? ⟨w.heap.size + 1, 4, none⟩ = some (i64 o.n) := fo 4
  have g5 : x2.cell? ⟨w.heap.size + 1, 5, none⟩ = some (i64 o.k) := fo 5
  have g6 : x2.cell? ⟨w.heap.size + 1, 6, none⟩ = some (bv o.mask) := fo 6
  have zo : w.heap.size + 1 < x2.heap.size := (Array.getElem?_eq_some_iff.1 lc0.out.ho).1
  clear fo
  have HC := Lib.hid (off_any hd2 (by have := h.bN.offs; omega))
  go_wp2_with fail
  refine HC.out.mono ?_; rintro e x3 ⟨rfl, hd3, ho3⟩
  have lc3 := Lib.hid (lc0.out.on lim ho3)
  have hr3 := hr2.out (ho3.wide (fun k hk => .inl (.inl hk)))
  clear f0 f1 f2 f3 f4 f5 f6 f7 f8 f9 f10 f11 g0 g1 g2 g3 g4 g5 g6 zd zo
  have fd := cell_blk lc3.out.hm
  have f0 : x3.cell? ⟨w.heap.size, 0, none⟩ = some (i64 M.S) := fd 0
  have f1 : x3.cell? ⟨w.heap.size, 1, none⟩ = some (i64 M.Z) := fd 1
  have f2 : x3.cell? ⟨w.heap.size, 2, none⟩ = some (.slice R.dA M.S R.dc) := fd 2
  have f3 : x3.cell? ⟨w.heap.size, 3, none⟩ = some (.slice R.wA M.S R.wc) := fd 3
  have f4 : x3.cell? ⟨w.heap.size, 4, none⟩ = some (.slice R.bA M.S R.bc) := fd 4
  have f5 : x3.cell? ⟨w.heap.size, 5, none⟩ = some (.bool M.off) := fd 5
  have f6 : x3.cell? ⟨w.heap.size, 6, none⟩ = some (i64 M.offs) := fd 6
  have f7 : x3.cell? ⟨w.heap.size, 7, none⟩ = some (i64 M.acts) := fd 7
  have f8 : x3.cell? ⟨w.heap.size, 8, none⟩ = some (.bool M.cut.isSome) := fd 8
  have f9 : x3.cell? ⟨w.heap.size, 9, none⟩ = some (i64 R.left) := fd 9
  have f10 : x3.cell? ⟨w.heap.size, 10, none⟩ = some (i64 R.whole) := fd 10
  have f11 : x3.cell? ⟨w.heap.size, 11, none⟩ = some (.int .u8 R.mask) := fd 11
  have zd : w.heap.size < x3.heap.size := (Array.getElem?_eq_some_iff.1 lc3.out.hm).1
  clear fd
  have HR := rturn_any (w := x3) (R := R) (N := M) (by have := h.bM.offs; omega)
  rw [hMt] at HR
  simp only [RV.val, RV.cells] at HR
  have HR := Lib.hid HR
  have hrt := hr3.turn
  rw [hMt] at hrt
  clear lb0 lc0 hd2 hr2 HC ho3 limx hMt
  go_wp2_with fail
  refine HR.out.mono ?_; rintro e x5 ⟨rfl, hb5⟩
  have hd5 := hd3.below hb5
  have hr5 := hrt.below hb5
  have lc5 := Lib.hid (lc3.out.below hb5)
  clear f0 f1 f2 f3 f4 f5 f6 f7 f8 f9 f10 f11 zd HR lc3 hd3 hr3 hb5 hrt
  have fy := cell_blk lc5.out.hz
  have y0 : x5.cell? ⟨w.heap.size + 1 + 1, 0, none⟩ = some (.int .i64 0) := fy 0
  have y1 : x5.cell? ⟨w.heap.size + 1 + 1, 1, none⟩ = some (.int .i64 0) := fy 1
  have y2 : x5.cell? ⟨w.heap.size + 1 + 1, 2, none⟩ = some (.slice none 0 0) := fy 2
  have y3 : x5.cell? ⟨w.heap.size + 1 + 1, 3, none⟩ = some (.slice none 0 0) := fy 3
  have y4 : x5.cell? ⟨w.heap.size + 1 + 1, 4, none⟩ = some (.slice none 0 0) := fy 4
  have y5 : x5.cell? ⟨w.heap.size + 1 + 1, 5, none⟩ = some (.bool false) := fy 5
  have y6 : x5.cell? ⟨w.heap.size + 1 + 1, 6, none⟩ = some (.int .i64 0) := fy 6
  have y7 : x5.cell? ⟨w.heap.size + 1 + 1, 7, none⟩ = some (.int .i64 0) := fy 7
  have y8 : x5.cell? ⟨w.heap.size + 1 + 1, 8, none⟩ = some (.bool false) := fy 8
  have y9 : x5.cell? ⟨w.heap.size + 1 + 1, 9, none⟩ = some (.int .i64 0) := fy 9
  have y10 : x5.cell? ⟨w.heap.size + 1 + 1, 10, none⟩ = some (.int .i64 0) := fy 10
  have y11 : x5.cell? ⟨w.heap.size + 1 + 1, 11, none⟩ = some (.int .u8 0) := fy 11
  have zy := fun i => frozen_blk lc5.out.hz i
  have zz : w.heap.size + 1 + 1 < x5.heap.size := (Array.getElem?_eq_some_iff.1 lc5.out.hz).1
  clear fy
  go_wp2_with fail
  have hs12 : ((((((((((((x5.setCell ⟨w.heap.size + 1 + 1, 0, none⟩ (i64 Mt.S)).setCell ⟨w.heap.size + 1 + 1, 1, none⟩ (i64 Mt.Z)).setCell ⟨w.heap.size + 1 + 1, 2, none⟩ (.slice R.dA Mt.S R.dc)).setCell ⟨w.heap.size + 1 + 1, 3, none⟩ (.slice R.wA Mt.S R.wc)).setCell ⟨w.heap.size + 1 + 1, 4, none⟩ (.slice R.bA Mt.S R.bc)).setCell ⟨w.heap.size + 1 + 1, 5, none⟩ (.bool Mt.off)).setCell ⟨w.heap.size + 1 + 1, 6, none⟩ (i64 Mt.offs)).setCell ⟨w.heap.size + 1 + 1, 7, none⟩ (i64 Mt.acts)).setCell ⟨w.heap.size + 1 + 1, 8, none⟩ (.bool Mt.cut.isSome)).setCell ⟨w.heap.size + 1 + 1, 9, none⟩ (i64 R.left)).setCell ⟨w.heap.size + 1 + 1, 10, none⟩ (i64 R.whole)).setCell ⟨w.heap.size + 1 + 1, 11, none⟩ (.int .u8 R.mask)) = sets x5 (w.heap.size + 1 + 1) 0 [i64 Mt.S, i64 Mt.Z, .slice R.dA Mt.S R.dc, .slice R.wA Mt.S R.wc, .slice R.bA Mt.S R.bc, .bool Mt.off, i64 Mt.offs, i64 Mt.acts, .bool Mt.cut.isSome, i64 R.left, i64 R.whole, .int .u8 R.mask] := rfl
  rw [hs12]
  have e12 := sets_at lc5.out.hz [i64 Mt.S, i64 Mt.Z, .slice R.dA Mt.S R.dc, .slice R.wA Mt.S R.wc, .slice R.bA Mt.S R.bc, .bool Mt.off, i64 Mt.offs, i64 Mt.acts, .bool Mt.cut.isSome, i64 R.left, i64 R.whole, .int .u8 R.mask] rfl
  have s12 := sets_out (Q := fun k => k = w.heap.size + 1 + 1) rfl [i64 Mt.S, i64 Mt.Z, .slice R.dA Mt.S R.dc, .slice R.wA Mt.S R.wc, .slice R.bA Mt.S R.bc, .bool Mt.off, i64 Mt.offs, i64 Mt.acts, .bool Mt.cut.isSome, i64 R.left, i64 R.whole, .int .u8 R.mask] x5 x5 0 (Out.refl _ _)
  clear hs12 y0 y1 y2 y3 y4 y5 y6 y7 y8 y9 y10 y11 zy zz
  generalize sets x5 (w.heap.size + 1 + 1) 0 [i64 Mt.S, i64 Mt.Z, .slice R.dA Mt.S R.dc, .slice R.wA Mt.S R.wc, .slice R.bA Mt.S R.bc, .bool Mt.off, i64 Mt.offs, i64 Mt.acts, .bool Mt.cut.isSome, i64 R.left, i64 R.whole, .int .u8 R.mask] = w9 at *
  have e := cell_blk e12
  have e0 : w9.cell? ⟨w.heap.size + 1 + 1, 0, none⟩ = some (i64 Mt.S) := e 0
  have e1 : w9.cell? ⟨w.heap.size + 1 + 1, 1, none⟩ = some (i64 Mt.Z) := e 1
  have e2 : w9.cell? ⟨w.heap.size + 1 + 1, 2, none⟩ = some (.slice R.dA Mt.S R.dc) := e 2
  have e3 : w9.cell? ⟨w.heap.size + 1 + 1, 3, none⟩ = some (.slice R.wA Mt.S R.wc) := e 3
  have e4 : w9.cell? ⟨w.heap.size + 1 + 1, 4, none⟩ = some (.slice R.bA Mt.S R.bc) := e 4
  have e5 : w9.cell? ⟨w.heap.size + 1 + 1, 5, none⟩ = some (.bool Mt.off) := e 5
  have e6 : w9.cell? ⟨w.heap.size + 1 + 1, 6, none⟩ = some (i64 Mt.offs) := e 6
  have e7 : w9.cell? ⟨w.heap.size + 1 + 1, 7, none⟩ = some (i64 Mt.acts) := e 7
  have e8 : w9.cell? ⟨w.heap.size + 1 + 1, 8, none⟩ = some (.bool Mt.cut.isSome) := e 8
  have e9 : w9.cell? ⟨w.heap.size + 1 + 1, 9, none⟩ = some (i64 R.left) := e 9
  have e10 : w9.cell? ⟨w.heap.size + 1 + 1, 10, none⟩ = some (i64 R.whole) := e 10
  have e11 : w9.cell? ⟨w.heap.size + 1 + 1, 11, none⟩ = some (.int .u8 R.mask) := e 11
  have d9 := DevR.outQ (hd5) s12 (by intro k hk e; have := lim k hk; omega)
  have r9 := RefR.sub (Q := fun k => (O) k ∨ E k) (RefR.out (hr5) (s12.wide (fun k hk => .inr hk))) (fun k hk => .inl hk)
  have o9 : Out O w w9 := Out.new ((lc5.out.out.wide (Q := fun k => O k ∨ k = w.heap.size + 1 + 1) (fun k hk => .inl hk)).trans (s12.wide (fun k hk => .inr hk))) (by rintro k (hk | rfl); exact .inl hk; exact .inr (by omega))
  refine bodyPost_ret (v := .tuple #[.bool true, .agg #[i64 Mt.S, i64 Mt.Z, .slice R.dA Mt.S R.dc, .slice R.wA Mt.S R.wc, .slice R.bA Mt.S R.bc, .bool Mt.off, i64 Mt.offs, i64 Mt.acts, .bool Mt.cut.isSome, i64 R.left, i64 R.whole, .int .u8 R.mask]]) (by simp [results, Tryz.results11, go_sem, e0, e1, e2, e3, e4, e5, e6, e7, e8, e9, e10, e11]) rfl ⟨true, R, O, 0, ?_, (fun _ => rfl), ?_, ?_, o9, (fun k hk => .inl hk), h.mask, h.left⟩
  · rw [hdoM]; rfl
  · rw [hdoN]; exact d9
  · rw [hdoM]; exact r9
end Go.Proofs.YtokpoogcoeodkaaGreatDoor

