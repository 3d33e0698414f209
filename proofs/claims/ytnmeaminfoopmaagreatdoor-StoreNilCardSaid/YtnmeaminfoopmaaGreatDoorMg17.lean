/- The document's device made. -/
import Derived.Test.YtnmeaminfoopmaaGreatDoorMg16
namespace Go.Proofs.YtnmeaminfoopmaaGreatDoor
open Go.RowKit Flo

/-! ### Blocks told apart by their elements' type -/
theorem keepT {W W' : World} {e : TypeId} {base n : Nat} {v : Value} {xs : List Value} (own : W.ownsRow base e 1 v n xs) (hg : W.grownBy W' v.ownBlock) {g : Nat} {c : Array Value} {t : TypeId} {f : Nat × Nat} (hx : W.heap[g]? = some (.cells c t f)) (hne : t ≠ e) : W'.heap[g]? = some (.cells c t f) := by
  rw [hg.block g (Array.getElem?_eq_some_iff.1 hx).1 ?_]
  · exact hx
  · intro he
    rcases own.2 with ⟨h1, _⟩ | ⟨g', cap, cur, h1, _, hgg, _⟩
    · rw [h1] at he; cases he
    · rw [h1] at he
      injection he with he
      subst he
      rw [hx] at hgg
      injection hgg with hgg
      injection hgg with _ h2
      exact hne h2
theorem keepS {W : World} {d g : Nat} {c c' : Array Value} {t T : TypeId} {f f' : Nat × Nat} (hd : W.heap[d]? = some (.cells c' T f')) (hx : W.heap[g]? = some (.cells c t f)) (hne : t ≠ T) (o : Nat) (v : Value) : (W.setCell ⟨d, o, none⟩ v).heap[g]? = some (.cells c t f) := by
  refine blk_set hx o v (fun e => ?_)
  subst e
  rw [hx] at hd
  injection hd with hd
  injection hd with _ h2
  exact hne h2
theorem own_keep {W W' : World} {base n : Nat} {e2 : TypeId} {v : Value} {xs : List Value} (h : W.ownsRow base e2 1 v n xs) (hk : ∀ (g : Nat) (c : Array Value), W.heap[g]? = some (Obj.cells c e2 (0, 0)) → W'.heap[g]? = some (Obj.cells c e2 (0, 0))) : W'.ownsRow base e2 1 v n xs := by
  refine ⟨h.1, ?_⟩
  rcases h.2 with hn | ⟨g, cap, cur, rfl, hbg, hgg, rest⟩
  · exact .inl hn
  · exact .inr ⟨g, cap, cur, rfl, hbg, hk g cur hgg, rest⟩

theorem below_grown {w W W' : World} {e : TypeId} {base n : Nat} {v : Value} {xs : List Value} (h : Below w.heap.size w W) (own : W.ownsRow base e 1 v n xs) (hg : W.grownBy W' v.ownBlock) (hB : w.heap.size ≤ base) : Below w.heap.size w W' :=
  Base.gr h hg (fun k hk => by have := (own.lt k hk).1; omega)
theorem own_val {W : World} {base : Nat} {e : TypeId} {v : Value} {n : Nat} {xs : List Value} (h : W.ownsRow base e 1 v n xs) : ∃ A cap, v = .slice A n cap := by
  rcases h.2 with ⟨h1, h2⟩ | ⟨g, cap, cur, h1, _⟩
  · exact ⟨none, 0, by rw [h1, h2]⟩
  · exact ⟨_, _, h1⟩
theorem news_set (w : World) (p : Addr) (v : Value) (cs : List Value) (t : TypeId) : ∀ j u, cs[j]? = some u → ((w.setCell p v).alloc (.cells cs.toArray t)).cell? ((⟨w.heap.size, 0, none⟩ : Addr).add j) = some u := by
  have := news_of (w.setCell p v) cs t
  rwa [show (w.setCell p v).heap.size = w.heap.size by simp [World.setCell]] at this
theorem own_lit (wo : World) (e : TypeId) : (wo.alloc (.cells #[] e)).ownsRow wo.heap.size e 1 (.slice (some ⟨wo.heap.size, 0, none⟩) 0 0) 0 [] :=
  ⟨rfl, .inr ⟨wo.heap.size, 0, #[], rfl, Nat.le_refl _, blk_new _ _, Nat.le_refl _, Nat.zero_le _, rfl, rfl⟩⟩

end Go.Proofs.YtnmeaminfoopmaaGreatDoor

/- An operation of the law: what it makes of a device, and of the document's. -/
namespace Go.Proofs.YtnmeaminfoopmaaGreatDoor
open Go.RowKit Flo

/-- What is left of a device. -/
noncomputable def Nor.doo (N : Nor) (o : OpV) (lb : List Nat) (g : Nat) : Nor :=
  if o.kind = 0 then (N.prog (ofPl o.sector o.offset).1 (ofPl o.sector o.offset).2 lb).2
  else if o.kind = 1 then (N.erase o.sector).2
  else if o.kind = 2 then N
  else if o.kind = 3 then N.cutAt o.n o.k o.mask g
  else if o.kind = 4 then N.turn
  else if o.kind = 5 then { N with off := false }
  else N.spoil o.sector
/-- The operation as it stands in memory. -/
structure OpFit (O : Nat → Prop) (w : World) (o : OpV) (lb : List Nat) : Prop where
  bytes : Byt w (.slice o.A o.bn o.bc) lb
  lt : ∀ x ∈ lb, x < 256
  far : 0 < lb.length → Far O (.slice o.A o.bn o.bc)
  small : lb.length ≤ 6000
  n64 : -9223372036854775808 ≤ o.n ∧ o.n ≤ 9223372036854775807
  k64 : -9223372036854775808 ≤ o.k ∧ o.k ≤ 9223372036854775807
  mask : o.mask < 256
theorem Sl.out0 {O : Nat → Prop} {w w' : World} {k : Nat} {v : Value} {xs : List (List Value)} (h : Sl w k v xs) (hf : 0 < xs.length → Far O v) (hb : Out O w w') : Sl w' k v xs := by
  by_cases h0 : 0 < xs.length
  · exact Sl.out h (hf h0) hb
  · obtain ⟨A, cap, hv, hl, hm, hn, _⟩ := h
    exact ⟨A, cap, hv, hl, hm, hn, fun h1 => absurd h1 h0⟩
theorem OpFit.out {O : Nat → Prop} {w w' : World} {o : OpV} {lb : List Nat} (h : OpFit O w o lb) (hb : Out O w w') : OpFit O w' o lb :=
  { h with bytes := Sl.out0 h.bytes (by rw [List.length_map]; exact h.far) hb }
structure Bd (N : Nor) (j : Nat) : Prop where
  acts : N.acts ≤ j
  offs : N.offs ≤ j
  wear : ∀ n ∈ N.wear, n ≤ j
  cut : ∀ c, N.cut = some c → c.1 ≤ 9223372036854775807
/-- What an operation comes to. -/
abbrev DoPost (O E : Nat → Prop) (w : World) (N M : Nor) (o : OpV) (lb : List Nat) (e : Ending) (w' : World) : Prop :=
  ∃ (bb : Bool) (R' : RV) (O' : Nat → Prop) (g : Nat), e = .returned (.tuple #[.bool bb, R'.val (M.doo o lb g)]) ∧ (N = M → bb = true) ∧ DevR O' w' (N.doo o lb g) ∧ RefR (fun k => O' k ∨ E k) w' R' (M.doo o lb g) ∧ Out O w w' ∧ (∀ k, O' k → O k ∨ w.heap.size ≤ k) ∧ R'.mask < 256 ∧ R'.left ≤ 9223372036854775807
structure DoFit (O E : Nat → Prop) (w : World) (N M : Nor) (R : RV) (o : OpV) (lb : List Nat) : Prop where
  dev : DevR O w N
  ref : RefR (fun k => O k ∨ E k) w R M
  limE : ∀ k, E k → k < w.heap.size
  S : M.S = N.S
  Z : M.Z = N.Z
  bN : Bd N 1000
  bM : Bd M 1000
  mask : R.mask < 256
  left : R.left ≤ 9223372036854775807
  op : OpFit O w o lb

/-- Where nothing of it was written, a device is as it was. -/
theorem DevR.keep {O : Nat → Prop} {w w' : World} {N : Nor} (h : DevR O w N) (hs : w.heap.size ≤ w'.heap.size) (hk : ∀ k, O k → w'.heap[k]? = w.heap[k]?) : DevR O w' N where
  lim k hk2 := Nat.lt_of_lt_of_le (h.lim k hk2) hs
  hD := by rw [hk _ h.ownD]; exact h.hD
  hA := by obtain ⟨arr, h1, h2⟩ := h.hA; exact ⟨arr, by rw [hk _ h.ownA]; exact h1, h2⟩
  hW := by rw [hk _ h.ownW]; exact h.hW
  hM := h.hM.of_block (hk _ h.ownM)
  hR i l hl := by obtain ⟨b, j, h1, h2⟩ := h.hR i l hl; exact ⟨b, j, h1, by rw [hk _ (h.ownR b (List.mem_of_getElem? h1))]; exact h2⟩
  hC c hc := by rw [hk _ (h.ownC c hc)]; exact h.hC c hc
  bkl := h.bkl
  dl := h.dl
  wl := h.wl
  row := h.row
  geo := h.geo
  badt := h.badt
  cdl := h.cdl
  mask := h.mask
  ownD := h.ownD
  ownA := h.ownA
  ownW := h.ownW
  ownM := h.ownM
  ownC := h.ownC
  ownR := h.ownR
  apart := h.apart
  apartC := h.apartC
theorem DevR.outQ {O Q : Nat → Prop} {w w' : World} {N : Nor} (h : DevR O w N) (hb : Out Q w w') (hq : ∀ k, O k → ¬ Q k) : DevR O w' N :=
  h.keep hb.size (fun k hk => hb.block k (h.lim k hk) (hq k hk))

/-- 'append([]T{}, src...)', T of one cell, src empty or not. -/
theorem wpList_append_copy {P : Program} (w : World) {ops : Array Oper} {rest : List Oper} {o : Oper} {a : Act} {Q : Exit → Act → World → Prop} (hgd : o.guard = none) (s x : Operand) (t : TypeId)
    (ho : o.op = .call { callee := .builtin .append, args := #[s, x], argTypes := #[t, t] })
    (e : TypeId) (i : TypeInfo) (z : Value) (ht : P.underlying t = some (.slice e)) (hi : P.info? e = some i) (hz : i.zero = some z) (hsize : i.size = 1) (hby : i.bytes ≤ 1000)
    (b : Nat) (hs : a.eval s = .slice (some ⟨b, 0, none⟩) 0 0) (A : Option Addr) (n c : Nat) (news : List Value) (hx : a.eval x = .slice A n c) (hsl : Sl w 1 (.slice A n c) (news.map fun x => [x])) (hm : n ≤ 100000)
    (h : ∀ (b' cp : Nat) (w' : World), Below w.heap.size w w' → (b' = b ∨ b' = w.heap.size) → Sl w' 1 (.slice (some ⟨b', 0, none⟩) n cp) (news.map fun x => [x]) → wpList P ops Q rest (a.put o.dst (.slice (some ⟨b', 0, none⟩) n cp)) w') : wpList P ops Q (o :: rest) a w := by
  have hl := hsl.len
  rw [List.length_map] at hl
  by_cases hn : 0 < n
  · obtain ⟨ad, rfl⟩ := hsl.some hn
    refine wpList_append_fresh w hgd s x t ho e i z ht hi hz hsize hby ⟨b, 0, none⟩ hs ad n c news hx hl.symm hn hm (Sl.src1 hsl) ?_
    intro cp junk h1 h2
    refine h w.heap.size cp _ (Base.dr (Base.al (Below.refl _ _) _)) (.inr rfl) ?_
    have := Sl.of_blk (w := (w.alloc (.cells (news ++ junk).toArray e)).drew) (D := news ++ junk) (xs := news) (n := n) (t := e) (blk_new w _) (List.take_left' hl.symm) hl.symm h1 h2
    exact this
  · obtain rfl : n = 0 := by omega
    have : news = [] := List.eq_nil_of_length_eq_zero hl.symm
    subst this
    have hr : (Builtin.append_ #[t, t] o.type #[.slice (some ⟨b, 0, none⟩) 0 0, .slice A 0 c]).run P w = .ok (.slice (some ⟨b, 0, none⟩) 0 0) w := by
      cases A <;> simp [Builtin.append_, run_underlying ht, sizeOf, typeInfo, hi, Builtin.lenOf, Builtin.firstCells, loadCells, loadCellsFrom, storeCells]
    refine wpList_plain hgd fun K hK => ?_
    unfold Oper.wp execOp
    simp only [ho, resolve, invoke, builtin, Sem.run_bind, Sem.run_pure, Result.andThen_ok, List.map_toArray, List.map_cons, List.map_nil, hs, hx, hr]
    exact hK _ _ (h b 0 w (Below.refl _ _) (.inl rfl) ⟨some ⟨b, 0, none⟩, 0, rfl, Nat.le_refl _, Nat.zero_le _, (fun h => by cases h), fun h => absurd h (by decide)⟩)
theorem far_ge {O : Nat → Prop} {w : World} (lim : ∀ k, O k → k < w.heap.size) {g : Nat} (hg : w.heap.size ≤ g) (o n c : Nat) : Far O (.slice (some ⟨g, o, none⟩) n c) := far_new lim hg o n c
/-- A world that differs in the blocks O alone. -/
structure OutOf (O : Nat → Prop) (w : World) where
  v : World
  h : Out O w v
instance (O : Nat → Prop) (w : World) : Nonempty (OutOf O w) := ⟨⟨w, Out.refl _ _⟩⟩
instance (O : Nat → Prop) (w : World) : Inhabited (OutOf O w) := ⟨⟨w, Out.refl _ _⟩⟩
theorem out_rd {O : Nat → Prop} {w : World} {b o : Nat} {v : Value} (hb : b < w.heap.size) (hn : ¬ O b) (h : w.cell? ⟨b, o, none⟩ = some v) (p : OutOf O w) : p.v.cell? ⟨b, o, none⟩ = some v := by
  rw [← h]
  exact cell_heap (p.h.block b hb hn)
theorem RefR.on {O : Nat → Prop} {w : World} {R : RV} {N : Nor} (h : RefR O w R N) : RefR O w R { N with off := false } := { h with }
theorem zero_u8 (w : World) : (zeroValue 5).run Tryz.prog w = .ok (.int .u8 0) w := by
  obtain ⟨i, hi, hz, _, _⟩ := info_parts info_u8E
  simp [zeroValue, typeInfo, hi, hz]
/-- 'clear' of bytes of one's own. -/
theorem clear_own {w : World} {base n : Nat} {v : Value} {xs : List Value} (h : w.ownsRow base 5 1 v n xs) :
    ∃ w', (Builtin.clear_ #[95] 0 #[v]).run Tryz.prog w = .ok (.tuple #[]) w' ∧ w.grownBy w' v.ownBlock := by
  rcases h.2 with ⟨rfl, rfl⟩ | ⟨g, cap, cur, rfl, hbg, hgg, hnc, hcm, hcs, htake⟩
  · exact ⟨w, by simp [Builtin.clear_, run_underlying Tryz.underlying95], grown_refl _ _⟩
  · refine ⟨_, run_clear_row w (t := 95) (e := 5) Tryz.underlying95 (zero_u8 w) rfl rfl hgg (by omega), grown_setRow (grown_refl _ _) _⟩
end Go.Proofs.YtnmeaminfoopmaaGreatDoor

/- An operation of the law, kind 0. -/
namespace Go.Proofs.YtnmeaminfoopmaaGreatDoor
open Go.RowKit Flo

end Go.Proofs.YtnmeaminfoopmaaGreatDoor

/- An operation of the law, kind 1. -/
namespace Go.Proofs.YtnmeaminfoopmaaGreatDoor
open Go.RowKit Flo

end Go.Proofs.YtnmeaminfoopmaaGreatDoor

/- An operation of the law, kind 2. -/
namespace Go.Proofs.YtnmeaminfoopmaaGreatDoor
open Go.RowKit Flo

end Go.Proofs.YtnmeaminfoopmaaGreatDoor

/- An operation of the law, kind 3. -/
namespace Go.Proofs.YtnmeaminfoopmaaGreatDoor
open Go.RowKit Flo

end Go.Proofs.YtnmeaminfoopmaaGreatDoor

/- An operation of the law, kind 4. -/
namespace Go.Proofs.YtnmeaminfoopmaaGreatDoor
open Go.RowKit Flo

end Go.Proofs.YtnmeaminfoopmaaGreatDoor

/- An operation of the law, kind 5. -/
namespace Go.Proofs.YtnmeaminfoopmaaGreatDoor
open Go.RowKit Flo

end Go.Proofs.YtnmeaminfoopmaaGreatDoor

/- An operation of the law, kind 6. -/
namespace Go.Proofs.YtnmeaminfoopmaaGreatDoor
open Go.RowKit Flo

end Go.Proofs.YtnmeaminfoopmaaGreatDoor

/- An operation of the law, kind 2. -/
namespace Go.Proofs.YtnmeaminfoopmaaGreatDoor
open Go.RowKit Flo

end Go.Proofs.YtnmeaminfoopmaaGreatDoor

/- An operation of the law, kind 2. -/
namespace Go.Proofs.YtnmeaminfoopmaaGreatDoor
open Go.RowKit Flo

end Go.Proofs.YtnmeaminfoopmaaGreatDoor

/- An operation of the law, kind 2. -/
namespace Go.Proofs.YtnmeaminfoopmaaGreatDoor
open Go.RowKit Flo

end Go.Proofs.YtnmeaminfoopmaaGreatDoor

/- An operation of the law, of any kind; how far a device's counts go. -/
namespace Go.Proofs.YtnmeaminfoopmaaGreatDoor
open Go.RowKit Flo

theorem act_S (N : Nor) (s p n : Nat) (upd : Nat → Nat → Nat → Nat) : (N.act s p n upd).2.S = N.S ∧ (N.act s p n upd).2.Z = N.Z ∧ (N.act s p n upd).2.wear = N.wear ∧ (N.act s p n upd).2.bad = N.bad ∧ (N.act s p n upd).2.D = N.D := by
  unfold Nor.act
  split
  · exact ⟨rfl, rfl, rfl, rfl, rfl⟩
  · split <;> exact ⟨rfl, rfl, rfl, rfl, rfl⟩
theorem act_Bd {N : Nor} {j : Nat} (h : Bd N j) (s p n : Nat) (upd : Nat → Nat → Nat → Nat) : Bd (N.act s p n upd).2 (j + 1) := by
  have h1 := h.acts
  have h2 := h.offs
  have hw : ∀ n ∈ N.wear, n ≤ j + 1 := fun n hn => by have := h.wear n hn; omega
  unfold Nor.act
  split
  · rename_i hc
    exact ⟨by show N.acts + 1 ≤ _; omega, by show N.offs ≤ _; omega, hw, fun c hq => by rw [show _ = N.cut from rfl, hc] at hq; cases hq⟩
  · rename_i c b m hc
    have h3 := h.cut _ hc
    split
    · exact ⟨by show N.acts + 1 ≤ _; omega, by show N.offs ≤ _; omega, hw, fun c' hq => by injection hq with hq; subst hq; show c - 1 ≤ _; have : c ≤ 9223372036854775807 := h3; omega⟩
    · exact ⟨by show N.acts + 1 ≤ _; omega, by show N.offs + 1 ≤ _; omega, hw, fun c' hq => by cases hq⟩
theorem doo_S (N : Nor) (o : OpV) (lb : List Nat) (g : Nat) : (N.doo o lb g).S = N.S ∧ (N.doo o lb g).Z = N.Z ∧ (N.doo o lb g).D = N.D := by
  have ha := fun (N : Nor) s p n upd => act_S N s p n upd
  unfold Nor.doo
  split
  · unfold Nor.prog
    split
    · exact ⟨rfl, rfl, rfl⟩
    · split
      · exact ⟨rfl, rfl, rfl⟩
      · split
        · exact ⟨rfl, rfl, rfl⟩
        · split
          · exact ⟨rfl, rfl, rfl⟩
          · obtain ⟨h1, h2, _, _, h5⟩ := ha N ((part? (ofPl o.sector o.offset).1).getD 0) ((part? (ofPl o.sector o.offset).2).getD 0) lb.length (fun i m old => pUp (lb.getD i 0) m old)
            exact ⟨h1, h2, h5⟩
  · split
    · unfold Nor.erase
      split
      · exact ⟨rfl, rfl, rfl⟩
      · split
        · exact ⟨rfl, rfl, rfl⟩
        · split
          · exact ⟨rfl, rfl, rfl⟩
          · obtain ⟨h1, h2, _, _, h5⟩ := ha { N with wear := N.wear.set o.sector.toNat (N.wear.getD o.sector.toNat 0 + 1) } o.sector.toNat 0 N.Z (fun _ m old => eUp m old)
            exact ⟨h1, h2, h5⟩
    · split
      · exact ⟨rfl, rfl, rfl⟩
      · split
        · exact ⟨rfl, rfl, rfl⟩
        · split
          · unfold Nor.turn; split <;> exact ⟨rfl, rfl, rfl⟩
          · split <;> exact ⟨rfl, rfl, rfl⟩
theorem Bd.mono {N : Nor} {i j : Nat} (h : Bd N i) (hij : i ≤ j) : Bd N j := ⟨Nat.le_trans h.acts hij, Nat.le_trans h.offs hij, fun n hn => Nat.le_trans (h.wear n hn) hij, h.cut⟩
theorem doo_Bd {N : Nor} {j : Nat} (h : Bd N j) (o : OpV) (lb : List Nat) (g : Nat) (h64 : o.n ≤ 9223372036854775807) : Bd (N.doo o lb g) (j + 1) := by
  have hm := h.mono (Nat.le_succ j)
  unfold Nor.doo
  split
  · unfold Nor.prog
    split
    · exact hm
    · split
      · exact hm
      · split
        · exact hm
        · split
          · exact hm
          · exact act_Bd h _ _ _ _
  · split
    · unfold Nor.erase
      split
      · exact hm
      · split
        · exact hm
        · split
          · exact hm
          · have hx : N.wear.getD o.sector.toNat 0 ≤ j := by
              rw [List.getD_eq_getElem?_getD]
              cases hq : N.wear[o.sector.toNat]? with
              | none => exact Nat.zero_le _
              | some x => exact h.wear x (List.mem_of_getElem? hq)
            obtain ⟨q1, q2, q3, _, _⟩ := act_S { N with wear := N.wear.set o.sector.toNat (N.wear.getD o.sector.toNat 0 + 1) } o.sector.toNat 0 N.Z (fun _ m old => eUp m old)
            have hb0 : Bd { N with wear := [] } j := ⟨h.acts, h.offs, (fun n hn => by cases hn), h.cut⟩
            have hb1 := act_Bd hb0 o.sector.toNat 0 N.Z (fun _ m old => eUp m old)
            have hsame : ∀ (W : List Nat), (Nor.act { N with wear := W } o.sector.toNat 0 N.Z (fun _ m old => eUp m old)).2 = { (Nor.act { N with wear := [] } o.sector.toNat 0 N.Z (fun _ m old => eUp m old)).2 with wear := W } := by
              intro W
              unfold Nor.act
              cases hc : N.cut with
              | none => rfl
              | some c =>
                obtain ⟨c, b, m⟩ := c
                show (if 0 < c then _ else _ : Nat × Nor).2 = { (if 0 < c then _ else _ : Nat × Nor).2 with wear := W }
                split <;> rfl
            rw [hsame]
            refine ⟨hb1.acts, hb1.offs, fun n hn => ?_, hb1.cut⟩
            rcases List.mem_or_eq_of_mem_set hn with h1 | h1
            · have := h.wear n h1; omega
            · omega
    · split
      · exact hm
      · split
        · exact ⟨hm.acts, hm.offs, hm.wear, fun c hc => by injection hc with hc; subst hc; show o.n.toNat ≤ _; omega⟩
        · split
          · unfold Nor.turn
            split
            · exact hm
            · exact ⟨hm.acts, by have := h.offs; show N.offs + 1 ≤ _; omega, hm.wear, fun c hc => by cases hc⟩
          · split
            · exact ⟨hm.acts, hm.offs, hm.wear, hm.cut⟩
            · exact ⟨hm.acts, hm.offs, hm.wear, hm.cut⟩
end Go.Proofs.YtnmeaminfoopmaaGreatDoor

