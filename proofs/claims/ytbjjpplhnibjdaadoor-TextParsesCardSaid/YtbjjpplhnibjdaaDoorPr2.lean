/- text.Print: an operation's line. -/
import Derived.Test.YtbjjpplhnibjdaaDoorPr1
namespace Go.Proofs.YtbjjpplhnibjdaaDoor
open Go Go.RowKit

/-- A field as it is written. -/
def partS (p : Nat) (o : OpT) : List Nat :=
  if p = 112 then quoteL o.path else if p = 111 then quoteL o.other else if p = 104 then decI o.handle else if p = 102 then decI o.from_ else if p = 110 then decI o.n else if p = 100 then quoteL o.data else []
def printB : List Nat → OpT → List Nat
  | [], _ => []
  | p :: ps, o => 32 :: (partS p o ++ printB ps o)
def printL (o : OpT) : List Nat := if o.kind = 0 ∨ 16 < o.kind then [] else wordOf o.kind ++ printB (partsL o.kind) o
def printE (o : OpT) : Nat := if o.kind = 0 ∨ 16 < o.kind then 28 else 0

/-- An operation that may be written, as an argument. -/
structure OpArg (w : World) (o : OpT) (v : Value) : Prop where
  kind : o.kind ≤ 255
  path : o.path.length ≤ 3000
  pathB : ∀ b ∈ o.path, b < 256
  other : o.other.length ≤ 3000
  otherB : ∀ b ∈ o.other, b < 256
  data : o.data.length ≤ 3000
  dataB : ∀ b ∈ o.data, b < 256
  byt : Byt w v o.data
  sl : ∃ A n c, v = .slice A n c
  handle : -9223372036854775808 ≤ o.handle ∧ o.handle ≤ 9223372036854775807
  from_ : -9223372036854775808 ≤ o.from_ ∧ o.from_ ≤ 9223372036854775807
  n : -9223372036854775808 ≤ o.n ∧ o.n ≤ 9223372036854775807
abbrev Pow10 (w : World) : Prop := Lib.TabIs Tryd.prog w "internal/strconv.uint64pow10" .u64 Lib.pow10Tab

theorem conv_slice {w : World} {v : Value} {l : List Nat} (hs : ∃ A n c, v = .slice A n c) (h : Byt w v l) : (convert 23 9 v).run Tryd.prog w = .ok (.string (toB l)) w := by
  obtain ⟨A, n, c, rfl⟩ := hs
  exact conv_any h
/-- The state of an operation's writing. -/
structure PrSt (w : World) (bx it : Nat) (cs : Array Value) (P : ByteArray) (wr : World) (j : Nat) : Prop where
  op : wr.heap[bx]? = some (.cells cs 25 (0, 0))
  iter : wr.heap[it]? = some (.stringIter P j)
  below : Below w.heap.size w wr
  l0 : w.heap.size ≤ bx
  l1 : bx < it
theorem PrSt.on {w : World} {bx it : Nat} {cs : Array Value} {P : ByteArray} {wr W : World} {j : Nat} (h : PrSt w bx it cs P wr j) (hb : Below wr.heap.size wr W) : PrSt w bx it cs P W j :=
  ⟨blk_below h.op hb, blk_below h.iter hb, Base.tr h.below hb, h.l0, h.l1⟩
theorem below_iter {w v : World} (h : Below w.heap.size w v) {g : Nat} (hg : w.heap.size ≤ g) (o : Obj) : Below w.heap.size w (iterSet v g o) :=
  Base.gr (row := some g) h ⟨rfl, rfl, rfl, by unfold iterSet; simp, fun k hk hr => by
    unfold iterSet
    simp only [Array.getElem?_setIfInBounds]
    rw [if_neg (fun e => hr (by rw [e]))]⟩ (fun k hk => by injection hk with hk; omega)
theorem PrSt.next {w : World} {bx it : Nat} {cs : Array Value} {P : ByteArray} {wr : World} {j : Nat} (h : PrSt w bx it cs P wr j) : PrSt w bx it cs P (iterSet wr it (.stringIter P (j + 1))) (j + 1) :=
  ⟨iterSet_old (Nat.ne_of_lt h.l1) h.op, iterSet_at h.iter, below_iter h.below (by have := h.l0; have := h.l1; omega) _, h.l0, h.l1⟩
theorem wordOf_len : ∀ k, k ≤ 16 → (wordOf k).length ≤ 8 := by decide
theorem partsL_len (k : Nat) : (partsL k).length ≤ 3 := by
  unfold partsL
  repeat (split; · decide)
  decide

set_option maxHeartbeats 16000000 in
set_option maxRecDepth 100000 in
theorem print_no (o : OpT) (v : Value) (w : World) (ha : OpArg w o v) (hw : WordsIn w) (hk : o.kind = 0 ∨ 16 < o.kind) :
    Calls Tryd.prog 9 #[.agg (o.cells v)] w fun e w' => e = .returned (.tuple #[.string (toB []), i64 28]) ∧ Below w.heap.size w w' := by
  have GW := fun W hW => Lib.hid (wordAt_any o.kind ha.kind W hW)
  have hwk : wordOf o.kind = [] := by
    unfold wordOf
    rcases hk with h | h
    · rw [h]; rfl
    · rw [if_neg (by omega)]
  rw [hwk] at GW
  have tE : (toB []).toList.isEmpty = true := by rw [ByteArray.toList_eq]; rfl
  unfold OpT.cells
  have hw1 := hw.below (Base.al (Below.refl _ w) (.cells #[bv o.kind, .string (toB o.path), .string (toB o.other), i64 o.handle, i64 o.from_, i64 o.n, v] 25))
  go_enter Tryd.func9, Tryd.ntmps9
  go_wp2_with fail
  refine (GW _ hw1).out.mono ?_; rintro e1 w1 ⟨rfl, rfl⟩
  go_wp2_with fail
  go_ret2
  exact ⟨rfl, Base.al (Below.refl _ w) _⟩

theorem decI_len (n : Int) (h : -9223372036854775808 ≤ n ∧ n ≤ 9223372036854775807) : (decI n).length ≤ 30 := by
  unfold decI
  split
  · have := decN_len 19 n.natAbs (by omega)
    simp; omega
  · have := decN_len 19 n.toNat (by omega)
    omega
theorem quoteL_len (l : List Nat) : (quoteL l).length ≤ 3 * l.length + 2 := by
  have := quoteB_len l
  unfold quoteL
  simp
  omega

set_option maxHeartbeats 16000000 in
set_option maxRecDepth 100000 in
theorem print_ok (o : OpT) (v : Value) (w : World) (ha : OpArg w o v) (hw : WordsIn w) (ht : ∀ W, Below w.heap.size w W → Pow10 W) (hk0 : o.kind ≠ 0) (hk : o.kind ≤ 16) :
    Calls Tryd.prog 9 #[.agg (o.cells v)] w fun e w' => e = .returned (.tuple #[.string (toB (wordOf o.kind ++ printB (partsL o.kind) o)), i64 0]) ∧ Below w.heap.size w w' := by
  have GW := fun W hW => Lib.hid (wordAt_any o.kind ha.kind W hW)
  have GP := fun W => Lib.hid (parts_any o.kind W hk)
  have tE : (toB (wordOf o.kind)).toList.isEmpty = false := by
    have : ∀ k, k ≤ 16 → k ≠ 0 → ((wordOf k).map UInt8.ofNat).isEmpty = false := by decide
    rw [ByteArray.toList_eq]
    exact this o.kind hk hk0
  have hwl := wordOf_len o.kind hk
  have hpl := partsL_len o.kind
  have hpm := Lib.hid (parts_mem o.kind)
  have HA := Lib.hid ha
  have HT := Lib.hid ht
  obtain ⟨R, hR⟩ : ∃ R, wordOf o.kind ++ printB (partsL o.kind) o = R := ⟨_, rfl⟩
  have HR0 := Lib.hid hR
  rw [hR]
  generalize wordOf o.kind = wd at *
  generalize partsL o.kind = ps at *
  obtain ⟨cs, hcs⟩ : ∃ cs, o.cells v = cs := ⟨_, rfl⟩
  have HCS := Lib.hid hcs
  unfold OpT.cells at hcs ⊢
  have hw1 := hw.below (Base.al (Below.refl _ w) (.cells #[bv o.kind, .string (toB o.path), .string (toB o.other), i64 o.handle, i64 o.from_, i64 o.n, v] 25))
  clear hR ht ha hcs hk0 hk
  go_enter Tryd.func9, Tryd.ntmps9
  go_wp2_with fail
  refine (GW _ hw1).out.mono ?_; rintro e1 w1 ⟨rfl, rfl⟩
  go_wp2_with fail
  refine (GP _).out.mono ?_; rintro e1 w1 ⟨rfl, rfl⟩
  go_wp2_with fail
  have st0 := Lib.hid (show PrSt w w.heap.size (w.heap.size + 1) (o.cells v) (toB ps) ((w.alloc (.cells (o.cells v) 25)).iter (toB ps) 0) 0 from
    { op := blk_old (blk_new w _), iter := blk_new1 w _ _, below := Base.al (Base.al (Below.refl _ w) _) _, l0 := Nat.le_refl _, l1 := Nat.lt_succ_self _ })
  have HR1 : Hid (wd.length ≤ 8 + 10000 * 0 ∧ wd ++ printB (ps.drop 0) o = R) := Lib.hid ⟨by omega, HR0.out⟩
  clear hwl HR0 GW GP hw1 hw tE
  change Code.wp _ _ _ _ ((w.alloc (.cells (o.cells v) 25)).iter (toB ps) 0)
  generalize ((w.alloc (.cells (o.cells v) 25)).iter (toB ps) 0) = x2 at *
  go_loopw [4] (fun v4 wr => ∃ (acc : List Nat) (j : Nat), v4 = .string (toB acc) ∧ j ≤ ps.length ∧ Hid (PrSt w w.heap.size (w.heap.size + 1) (o.cells v) (toB ps) wr j) ∧ Hid (acc.length ≤ 8 + 10000 * j ∧ acc ++ printB (ps.drop j) o = R)) (fun _ wr => ps.length - iterPos (wr.heap[w.heap.size + 1]?))
  case atStart => exact ⟨wd, 0, rfl, Nat.zero_le _, st0, HR1⟩
  case round =>
    obtain ⟨acc, j, rfl, hj, hst, hgo⟩ := hrel
    clear st0 HR1
    have hpsz := toB_size ps
    have hit : iterPos (wr.heap[w.heap.size + 1]?) = j := by rw [hst.out.iter]; rfl
    have HIT := Lib.hid hit
    clear hit
    by_cases hlt : j < ps.length
    · have hdr : ps.drop j = ps[j] :: ps.drop (j + 1) := List.drop_eq_getElem_cons hlt
      have hmem : ps[j] ∈ ps := List.getElem_mem hlt
      have hgd : ps.getD j 0 = ps[j] := by simp [List.getD, hlt]
      obtain ⟨p, hp⟩ : ∃ p, ps[j] = p := ⟨_, rfl⟩
      rw [hp] at hdr hmem hgd
      have hpm1 := hpm.out p hmem
      have hp256 : ∀ x ∈ ps, x < 256 := fun x hx => by have := hpm.out x hx; omega
      have hjs : j < (toB ps).size := by rw [hpsz]; exact hlt
      have hb := (toB_get hp256 hjs).trans hgd
      have hnx : ∀ ty, (Instr.next (.pointer (some ⟨w.heap.size + 1, 0, none⟩)) true ty).run Tryd.prog wr = .ok (.tuple #[.bool true, .int .i64 j, .int .i32 p]) (iterSet wr (w.heap.size + 1) (.stringIter (toB ps) (j + 1))) := fun ty => by
        have := run_next_at (P := Tryd.prog) wr (w.heap.size + 1) (toB ps) j ty hst.out.iter hjs (by show ((toB ps)[j]).toNat < 128; rw [hb]; omega)
        rw [show ((toB ps)[j]'hjs).toNat = p from hb] at this
        exact this
      have HS := Lib.hid hst.out.next
      generalize iterSet wr (w.heap.size + 1) (.stringIter (toB ps) (j + 1)) = wn at *
      have hgo1 := hgo.out.2
      have hal := hgo.out.1
      have hj3 : j < 3 := by omega
      rw [hdr, printB] at hgo1
      have HJ : Hid (j + 1 ≤ ps.length) := Lib.hid hlt
      clear hp hdr hmem hgd hp256 hjs hb hgo hlt hj hst hpsz hpl
      rcases hpm1 with rfl | rfl | rfl | rfl | rfl | rfl
      · have G := fun W => quote_any (toB o.path) W (by rw [toB_size]; have := HA.out.path; omega)
        rw [sb_toB _ HA.out.pathB] at G
        have hlq := quoteL_len o.path
        have hl6 := HA.out.path
        have hpq : partS 112 o = quoteL o.path := rfl
        have c1 : wn.cell? ⟨w.heap.size, 1, none⟩ = some (.string (toB o.path)) := cell_blk HS.out.op 1
        rw [hpq] at hgo1
        generalize quoteL o.path = q at *
        have HG := fun W => Lib.hid (G W)
        obtain ⟨acc1, h1⟩ : ∃ acc1, acc ++ [32] = acc1 := ⟨_, rfl⟩
        obtain ⟨acc2, h2⟩ : ∃ acc2, acc1 ++ q = acc2 := ⟨_, rfl⟩
        have hl1 : acc1.length = acc.length + 1 := by rw [← h1]; simp
        have hl2 : acc2.length = acc1.length + q.length := by rw [← h2]; simp
        have n1 : (9223372036854775807 < (toB acc).size + 1) = False := nocat acc [32] (by simp; omega)
        have a1 : toB acc ++ ({ data := #[32] } : ByteArray) = toB acc1 := by rw [← h1]; exact toB_cat acc [32]
        have n2 := nocat acc1 q (by omega)
        have a2 : toB acc1 ++ toB q = toB acc2 := by rw [← h2]; exact toB_cat acc1 q
        have HGO : Hid (acc2.length ≤ 8 + 10000 * (j + 1) ∧ acc2 ++ printB (ps.drop (j + 1)) o = R) := Lib.hid ⟨by omega, by rw [← h2, ← h1, ← hgo1]; simp⟩
        have hz : w.heap.size < wn.heap.size := (Array.getElem?_eq_some_iff.1 HS.out.op).1
        clear h1 h2 hl1 hl2 hlq hpq hgo1 G hal hl6
        go_wp2_with fail
        refine (HG _).out.mono ?_; rintro e6 w6 ⟨rfl, hb6⟩
        have HS6 := Lib.hid (HS.out.on hb6)
        go_wp2_with fail
        have hit6 : iterPos (w6.heap[w.heap.size + 1]?) = j + 1 := by rw [HS6.out.iter]; rfl
        refine ⟨⟨acc2, j + 1, rfl, HJ.out, HS6, HGO⟩, ?_⟩
        rw [hit6, HIT.out]
        have := HJ.out
        omega
      · have G := fun W => quote_any (toB o.other) W (by rw [toB_size]; have := HA.out.other; omega)
        rw [sb_toB _ HA.out.otherB] at G
        have hlq := quoteL_len o.other
        have hl6 := HA.out.other
        have hpq : partS 111 o = quoteL o.other := rfl
        have c1 : wn.cell? ⟨w.heap.size, 2, none⟩ = some (.string (toB o.other)) := cell_blk HS.out.op 2
        rw [hpq] at hgo1
        generalize quoteL o.other = q at *
        have HG := fun W => Lib.hid (G W)
        obtain ⟨acc1, h1⟩ : ∃ acc1, acc ++ [32] = acc1 := ⟨_, rfl⟩
        obtain ⟨acc2, h2⟩ : ∃ acc2, acc1 ++ q = acc2 := ⟨_, rfl⟩
        have hl1 : acc1.length = acc.length + 1 := by rw [← h1]; simp
        have hl2 : acc2.length = acc1.length + q.length := by rw [← h2]; simp
        have n1 : (9223372036854775807 < (toB acc).size + 1) = False := nocat acc [32] (by simp; omega)
        have a1 : toB acc ++ ({ data := #[32] } : ByteArray) = toB acc1 := by rw [← h1]; exact toB_cat acc [32]
        have n2 := nocat acc1 q (by omega)
        have a2 : toB acc1 ++ toB q = toB acc2 := by rw [← h2]; exact toB_cat acc1 q
        have HGO : Hid (acc2.length ≤ 8 + 10000 * (j + 1) ∧ acc2 ++ printB (ps.drop (j + 1)) o = R) := Lib.hid ⟨by omega, by rw [← h2, ← h1, ← hgo1]; simp⟩
        have hz : w.heap.size < wn.heap.size := (Array.getElem?_eq_some_iff.1 HS.out.op).1
        clear h1 h2 hl1 hl2 hlq hpq hgo1 G hal hl6
        go_wp2_with fail
        refine (HG _).out.mono ?_; rintro e6 w6 ⟨rfl, hb6⟩
        have HS6 := Lib.hid (HS.out.on hb6)
        go_wp2_with fail
        have hit6 : iterPos (w6.heap[w.heap.size + 1]?) = j + 1 := by rw [HS6.out.iter]; rfl
        refine ⟨⟨acc2, j + 1, rfl, HJ.out, HS6, HGO⟩, ?_⟩
        rw [hit6, HIT.out]
        have := HJ.out
        omega
      · have G := fun W hW => itoa_any o.handle HA.out.handle.1 HA.out.handle.2 W hW
        have hlq := decI_len o.handle HA.out.handle
        have hpq : partS 104 o = decI o.handle := rfl
        have c1 : wn.cell? ⟨w.heap.size, 3, none⟩ = some (i64 o.handle) := cell_blk HS.out.op 3
        rw [hpq] at hgo1
        generalize decI o.handle = q at *
        have HG := fun W hW => Lib.hid (G W hW)
        obtain ⟨acc1, h1⟩ : ∃ acc1, acc ++ [32] = acc1 := ⟨_, rfl⟩
        obtain ⟨acc2, h2⟩ : ∃ acc2, acc1 ++ q = acc2 := ⟨_, rfl⟩
        have hl1 : acc1.length = acc.length + 1 := by rw [← h1]; simp
        have hl2 : acc2.length = acc1.length + q.length := by rw [← h2]; simp
        have n1 : (9223372036854775807 < (toB acc).size + 1) = False := nocat acc [32] (by simp; omega)
        have a1 : toB acc ++ ({ data := #[32] } : ByteArray) = toB acc1 := by rw [← h1]; exact toB_cat acc [32]
        have n2 := nocat acc1 q (by omega)
        have a2 : toB acc1 ++ toB q = toB acc2 := by rw [← h2]; exact toB_cat acc1 q
        have HGO : Hid (acc2.length ≤ 8 + 10000 * (j + 1) ∧ acc2 ++ printB (ps.drop (j + 1)) o = R) := Lib.hid ⟨by omega, by rw [← h2, ← h1, ← hgo1]; simp⟩
        have hz : w.heap.size < wn.heap.size := (Array.getElem?_eq_some_iff.1 HS.out.op).1
        clear h1 h2 hl1 hl2 hlq hpq hgo1 G hal
        go_wp2_with fail
        refine (HG _ (HT.out _ HS.out.below)).out.mono ?_; rintro e6 w6 ⟨rfl, hb6⟩
        have HS6 := Lib.hid (HS.out.on hb6)
        go_wp2_with fail
        have hit6 : iterPos (w6.heap[w.heap.size + 1]?) = j + 1 := by rw [HS6.out.iter]; rfl
        refine ⟨⟨acc2, j + 1, rfl, HJ.out, HS6, HGO⟩, ?_⟩
        rw [hit6, HIT.out]
        have := HJ.out
        omega
      · have G := fun W hW => itoa_any o.from_ HA.out.from_.1 HA.out.from_.2 W hW
        have hlq := decI_len o.from_ HA.out.from_
        have hpq : partS 102 o = decI o.from_ := rfl
        have c1 : wn.cell? ⟨w.heap.size, 4, none⟩ = some (i64 o.from_) := cell_blk HS.out.op 4
        rw [hpq] at hgo1
        generalize decI o.from_ = q at *
        have HG := fun W hW => Lib.hid (G W hW)
        obtain ⟨acc1, h1⟩ : ∃ acc1, acc ++ [32] = acc1 := ⟨_, rfl⟩
        obtain ⟨acc2, h2⟩ : ∃ acc2, acc1 ++ q = acc2 := ⟨_, rfl⟩
        have hl1 : acc1.length = acc.length + 1 := by rw [← h1]; simp
        have hl2 : acc2.length = acc1.length + q.length := by rw [← h2]; simp
        have n1 : (9223372036854775807 < (toB acc).size + 1) = False := nocat acc [32] (by simp; omega)
        have a1 : toB acc ++ ({ data := #[32] } : ByteArray) = toB acc1 := by rw [← h1]; exact toB_cat acc [32]
        have n2 := nocat acc1 q (by omega)
        have a2 : toB acc1 ++ toB q = toB acc2 := by rw [← h2]; exact toB_cat acc1 q
        have HGO : Hid (acc2.length ≤ 8 + 10000 * (j + 1) ∧ acc2 ++ printB (ps.drop (j + 1)) o = R) := Lib.hid ⟨by omega, by rw [← h2, ← h1, ← hgo1]; simp⟩
        have hz : w.heap.size < wn.heap.size := (Array.getElem?_eq_some_iff.1 HS.out.op).1
        clear h1 h2 hl1 hl2 hlq hpq hgo1 G hal
        go_wp2_with fail
        refine (HG _ (HT.out _ HS.out.below)).out.mono ?_; rintro e6 w6 ⟨rfl, hb6⟩
        have HS6 := Lib.hid (HS.out.on hb6)
        go_wp2_with fail
        have hit6 : iterPos (w6.heap[w.heap.size + 1]?) = j + 1 := by rw [HS6.out.iter]; rfl
        refine ⟨⟨acc2, j + 1, rfl, HJ.out, HS6, HGO⟩, ?_⟩
        rw [hit6, HIT.out]
        have := HJ.out
        omega
      · have G := fun W hW => itoa_any o.n HA.out.n.1 HA.out.n.2 W hW
        have hlq := decI_len o.n HA.out.n
        have hpq : partS 110 o = decI o.n := rfl
        have c1 : wn.cell? ⟨w.heap.size, 5, none⟩ = some (i64 o.n) := cell_blk HS.out.op 5
        rw [hpq] at hgo1
        generalize decI o.n = q at *
        have HG := fun W hW => Lib.hid (G W hW)
        obtain ⟨acc1, h1⟩ : ∃ acc1, acc ++ [32] = acc1 := ⟨_, rfl⟩
        obtain ⟨acc2, h2⟩ : ∃ acc2, acc1 ++ q = acc2 := ⟨_, rfl⟩
        have hl1 : acc1.length = acc.length + 1 := by rw [← h1]; simp
        have hl2 : acc2.length = acc1.length + q.length := by rw [← h2]; simp
        have n1 : (9223372036854775807 < (toB acc).size + 1) = False := nocat acc [32] (by simp; omega)
        have a1 : toB acc ++ ({ data := #[32] } : ByteArray) = toB acc1 := by rw [← h1]; exact toB_cat acc [32]
        have n2 := nocat acc1 q (by omega)
        have a2 : toB acc1 ++ toB q = toB acc2 := by rw [← h2]; exact toB_cat acc1 q
        have HGO : Hid (acc2.length ≤ 8 + 10000 * (j + 1) ∧ acc2 ++ printB (ps.drop (j + 1)) o = R) := Lib.hid ⟨by omega, by rw [← h2, ← h1, ← hgo1]; simp⟩
        have hz : w.heap.size < wn.heap.size := (Array.getElem?_eq_some_iff.1 HS.out.op).1
        clear h1 h2 hl1 hl2 hlq hpq hgo1 G hal
        go_wp2_with fail
        refine (HG _ (HT.out _ HS.out.below)).out.mono ?_; rintro e6 w6 ⟨rfl, hb6⟩
        have HS6 := Lib.hid (HS.out.on hb6)
        go_wp2_with fail
        have hit6 : iterPos (w6.heap[w.heap.size + 1]?) = j + 1 := by rw [HS6.out.iter]; rfl
        refine ⟨⟨acc2, j + 1, rfl, HJ.out, HS6, HGO⟩, ?_⟩
        rw [hit6, HIT.out]
        have := HJ.out
        omega
      · have G := fun W => quote_any (toB o.data) W (by rw [toB_size]; have := HA.out.data; omega)
        rw [sb_toB _ HA.out.dataB] at G
        have hlq := quoteL_len o.data
        have hl6 := HA.out.data
        have hpq : partS 100 o = quoteL o.data := rfl
        have hcv : (convert 23 9 v).run Tryd.prog wn = .ok (.string (toB o.data)) wn := conv_slice HA.out.sl (Sl.below HA.out.byt HS.out.below)
        have c1 : wn.cell? ⟨w.heap.size, 6, none⟩ = some (v) := cell_blk HS.out.op 6
        rw [hpq] at hgo1
        generalize quoteL o.data = q at *
        have HG := fun W => Lib.hid (G W)
        obtain ⟨acc1, h1⟩ : ∃ acc1, acc ++ [32] = acc1 := ⟨_, rfl⟩
        obtain ⟨acc2, h2⟩ : ∃ acc2, acc1 ++ q = acc2 := ⟨_, rfl⟩
        have hl1 : acc1.length = acc.length + 1 := by rw [← h1]; simp
        have hl2 : acc2.length = acc1.length + q.length := by rw [← h2]; simp
        have n1 : (9223372036854775807 < (toB acc).size + 1) = False := nocat acc [32] (by simp; omega)
        have a1 : toB acc ++ ({ data := #[32] } : ByteArray) = toB acc1 := by rw [← h1]; exact toB_cat acc [32]
        have n2 := nocat acc1 q (by omega)
        have a2 : toB acc1 ++ toB q = toB acc2 := by rw [← h2]; exact toB_cat acc1 q
        have HGO : Hid (acc2.length ≤ 8 + 10000 * (j + 1) ∧ acc2 ++ printB (ps.drop (j + 1)) o = R) := Lib.hid ⟨by omega, by rw [← h2, ← h1, ← hgo1]; simp⟩
        have hz : w.heap.size < wn.heap.size := (Array.getElem?_eq_some_iff.1 HS.out.op).1
        clear h1 h2 hl1 hl2 hlq hpq hgo1 G hal hl6
        go_wp2_with fail
        refine (HG _).out.mono ?_; rintro e6 w6 ⟨rfl, hb6⟩
        have HS6 := Lib.hid (HS.out.on hb6)
        go_wp2_with fail
        have hit6 : iterPos (w6.heap[w.heap.size + 1]?) = j + 1 := by rw [HS6.out.iter]; rfl
        refine ⟨⟨acc2, j + 1, rfl, HJ.out, HS6, HGO⟩, ?_⟩
        rw [hit6, HIT.out]
        have := HJ.out
        omega
    · have hjp : j = ps.length := by omega
      have hnx : ∀ ty, (Instr.next (.pointer (some ⟨w.heap.size + 1, 0, none⟩)) true ty).run Tryd.prog wr = .ok (.tuple #[.bool false]) wr := fun ty => run_next_over wr (w.heap.size + 1) (toB ps) j ty hst.out.iter (by rw [hpsz]; exact hlt)
      have hac : acc = R := by
        have := hgo.out.2
        rw [hjp, List.drop_length, printB, List.append_nil] at this
        exact this
      rw [hac]
      clear hpsz hlt hj hjp
      go_wp2_with fail
      go_ret2
      exact ⟨rfl, hst.out.below⟩
end Go.Proofs.YtbjjpplhnibjdaaDoor
