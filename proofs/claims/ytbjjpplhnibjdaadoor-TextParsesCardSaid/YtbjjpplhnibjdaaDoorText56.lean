/- Package text: which fields a line has; an operation. -/
import Derived.Test.YtbjjpplhnibjdaaDoorText4
import Derived.Laws.RangeString
namespace Go.Proofs.YtbjjpplhnibjdaaDoor
open Go Go.RowKit

/-- The fields of a kind's line: p 112, o 111, h 104, f 102, n 110, d 100. -/
def partsL (k : Nat) : List Nat :=
  if k = 4 ∨ k = 5 ∨ k = 6 ∨ k = 13 ∨ k = 14 ∨ k = 15 ∨ k = 16 then [112] else if k = 11 ∨ k = 12 then [112, 111] else if k = 7 then [104] else if k = 8 then [104, 102, 110] else if k = 9 then [104, 102, 100] else if k = 10 then [104, 110] else []
set_option maxHeartbeats 4000000 in
set_option maxRecDepth 100000 in
theorem parts_any (k : Nat) (w : World) (hk : k ≤ 16) : Gives 19 #[bv k] w (.string (toB (partsL k))) := by
  have h : k = 0 ∨ k = 1 ∨ k = 2 ∨ k = 3 ∨ k = 4 ∨ k = 5 ∨ k = 6 ∨ k = 7 ∨ k = 8 ∨ k = 9 ∨ k = 10 ∨ k = 11 ∨ k = 12 ∨ k = 13 ∨ k = 14 ∨ k = 15 ∨ k = 16 := by omega
  rcases h with rfl | rfl | rfl | rfl | rfl | rfl | rfl | rfl | rfl | rfl | rfl | rfl | rfl | rfl | rfl | rfl | rfl
  all_goals
    go_enter Tryd.func19, Tryd.ntmps19
    go_wp2_with fail
    go_ret
    exact ⟨rfl, rfl⟩

theorem ret_i {a b : Int} (h : a = b) : Ending.returned (i64 a) = Ending.returned (i64 b) := by rw [h]
/-- The words of all kinds. -/
def wordsL : List (List Nat) := [[], [98, 101, 103, 105, 110], [99, 111, 109, 109, 105, 116], [97, 98, 111, 114, 116], [99, 114, 101, 97, 116, 101], [109, 107, 100, 105, 114], [111, 112, 101, 110], [99, 108, 111, 115, 101], [114, 101, 97, 100], [119, 114, 105, 116, 101], [116, 114, 117, 110, 99, 97, 116, 101], [114, 101, 110, 97, 109, 101], [108, 105, 110, 107], [117, 110, 108, 105, 110, 107], [114, 109, 100, 105, 114], [114, 101, 97, 100, 100, 105, 114], [115, 116, 97, 116]]
/-- The words in memory: the package's variable. -/
structure WordsIn (w : World) : Prop where
  cell : ∀ i x, wordsL[i]? = some x → w.cell? ⟨0, i, none⟩ = some (.string (toB x))
  size : 0 < w.heap.size
theorem WordsIn.below {w w' : World} (h : WordsIn w) (hb : Below w.heap.size w w') : WordsIn w' :=
  ⟨fun i x hi => (hb.cell (p := ⟨0, i, none⟩) h.size).trans (h.cell i x hi), Nat.lt_of_lt_of_le h.size hb.size⟩
theorem WordsIn.grown {w w' : World} {r : Nat} (h : WordsIn w) (hg : w.grownBy w' (some r)) (hr : r ≠ 0) : WordsIn w' :=
  ⟨fun i x hi => (by
    have := hg.block 0 h.size (fun e => by injection e with e; omega)
    rw [show w'.cell? ⟨0, i, none⟩ = w.cell? ⟨0, i, none⟩ by simp [World.cell?, this]]
    exact h.cell i x hi), Nat.lt_of_lt_of_le h.size hg.size⟩
/-- Which kind's word is it? -/
def wordIdx (l : List Nat) : Option Nat := wordsL.tail.findIdx? (· == l)
def wordI (l : List Nat) : Int := match wordIdx l with | some i => (i : Int) | none => -1
theorem words_ok : ∀ x ∈ wordsL, ∀ b ∈ x, b < 256 := by decide

set_option maxHeartbeats 4000000 in
set_option maxRecDepth 100000 in
theorem index_words (l : List Nat) (hl : ∀ b ∈ l, b < 256) (cap : Nat) (w : World) (hw : WordsIn w) :
    Gives 28 #[.slice (some ⟨0, 1, none⟩) 16 cap, .string (toB l)] w (i64 (wordI l)) := by
  have hcell : ∀ i x, wordsL.tail[i]? = some x → w.cell? ⟨0, 1 + i, none⟩ = some (.string (toB x)) := fun i x hi => hw.cell (1 + i) x (by rw [Nat.add_comm, ← List.getElem?_tail]; exact hi)
  have hlen : wordsL.tail.length = 16 := rfl
  have hmem : ∀ x ∈ wordsL.tail, ∀ b ∈ x, b < 256 := fun x hx => words_ok x (List.mem_of_mem_tail hx)
  unfold wordI wordIdx
  generalize wordsL.tail = L at *
  have HC := Lib.hid hcell
  have HM := Lib.hid hmem
  have HLN := Lib.hid hlen
  clear hcell hmem hlen hw
  obtain ⟨X, hX⟩ : ∃ X, (match L.findIdx? (· == l) with | some i => (i : Int) | none => -1) = X := ⟨_, rfl⟩
  rw [hX]
  have HX := Lib.hid hX
  clear hX
  go_enter Tryd.func28, Tryd.ntmps28
  go_wp2_with fail
  go_loopw [8] (fun iv wr => ∃ i : Nat, iv = .int .i64 i ∧ i ≤ 16 ∧ Hid (∀ x ∈ L.take i, x ≠ l) ∧ wr = w) (fun iv _ => 16 - (intOf iv).toNat)
  case atStart => exact ⟨0, rfl, by omega, Lib.hid (by intro x hx; simp at hx), rfl⟩
  case round =>
    obtain ⟨i, rfl, hi, hno, rfl⟩ := hrel
    by_cases hlt : i < 16
    · obtain ⟨x, hx⟩ : ∃ x, L[i]? = some x := ⟨_, List.getElem?_eq_getElem (by rw [HLN.out]; exact hlt)⟩
      have c0 := HC.out i x hx
      have hq : ((toB l).toList == (toB x).toList) = decide (x = l) := by
        rw [Bool.eq_iff_iff, beq_iff_eq, decide_eq_true_iff]
        refine ⟨fun e => ?_, fun e => by rw [e]⟩
        rw [ByteArray.toList_eq, ByteArray.toList_eq] at e
        have := congrArg sb (ByteArray.ext (Array.toList_inj.1 e))
        rw [sb_toB _ hl, sb_toB _ (HM.out x (List.mem_of_getElem? hx))] at this
        exact this.symm
      by_cases he : x = l
      · have hv : X = (i : Int) := by
          rw [← HX.out]
          have : L.findIdx? (· == l) = some i := by
            obtain ⟨h1, h2⟩ := List.getElem?_eq_some_iff.1 hx
            rw [List.findIdx?_eq_some_iff_getElem]
            refine ⟨h1, by rw [h2, he]; simp, fun j hj => ?_⟩
            have := hno.out L[j] (List.mem_take_iff_getElem.2 ⟨j, by omega, rfl⟩)
            simpa using this
          rw [this]
        rw [decide_eq_true he] at hq
        have HV := Lib.hid hv
        clear hv hx he hno
        go_wp2_with fail
        go_ret
        exact ⟨ret_i HV.out.symm, rfl⟩
      · rw [decide_eq_false he] at hq
        have hno2 : Hid (∀ y ∈ L.take (i + 1), y ≠ l) := Lib.hid (by
          obtain ⟨h1, h2⟩ := List.getElem?_eq_some_iff.1 hx
          intro y hy
          rw [List.take_succ_eq_append_getElem h1, List.mem_append] at hy
          rcases hy with hy | hy
          · exact hno.out y hy
          · rw [List.mem_singleton.1 hy, h2]; exact he)
        clear hx he hno
        go_wp2_with fail
        exact ⟨⟨i + 1, by go_num, by omega, hno2, trivial⟩, by simp [intOf]; omega⟩
    · have hie : i = 16 := by omega
      subst hie
      have hv : X = -1 := by
        rw [← HX.out]
        have : L.findIdx? (· == l) = none := by
          rw [List.findIdx?_eq_none_iff]
          intro y hy
          have := hno.out y (by rw [List.take_of_length_le (by rw [HLN.out]; decide)]; exact hy)
          simpa using this
        rw [this]
      have HV := Lib.hid hv
      clear hv hno
      go_wp2_with fail
      go_ret
      exact ⟨ret_i HV.out.symm, rfl⟩
end Go.Proofs.YtbjjpplhnibjdaaDoor

/- Package text: an operation. -/
namespace Go.Proofs.YtbjjpplhnibjdaaDoor
open Go Go.RowKit

/-- An operation that is read. -/
structure OpT where
  kind : Nat
  path : List Nat
  other : List Nat
  handle : Int
  from_ : Int
  n : Int
  data : List Nat
def zeroT (k : Nat) : OpT := ⟨k, [], [], 0, 0, 0, []⟩
def tPart (l : List Nat) (p : Nat) (o : OpT) (a : Nat) : Except Nat (OpT × Nat) :=
  match tNeed l a 32 with
  | .error e => .error e
  | .ok b =>
    if p = 112 then (match tQuoted l b with | .error e => .error e | .ok (x, c) => .ok ({ o with path := x }, c))
    else if p = 111 then (match tQuoted l b with | .error e => .error e | .ok (x, c) => .ok ({ o with other := x }, c))
    else if p = 104 then (match tNumber l b with | .error e => .error e | .ok (x, c) => .ok ({ o with handle := x }, c))
    else if p = 102 then (match tNumber l b with | .error e => .error e | .ok (x, c) => .ok ({ o with from_ := x }, c))
    else if p = 110 then (match tNumber l b with | .error e => .error e | .ok (x, c) => .ok ({ o with n := x }, c))
    else if p = 100 then (match tQuoted l b with | .error e => .error e | .ok (x, c) => .ok ({ o with data := x }, c))
    else .ok (o, b)
def tParts (l : List Nat) : List Nat → OpT → Nat → Except Nat (OpT × Nat)
  | [], o, a => .ok (o, a)
  | p :: ps, o, a =>
    match tPart l p o a with
    | .error e => .error e
    | .ok (o', b) => tParts l ps o' b
/-- A line ends behind its fields. -/
def opEnd (l : List Nat) : Except Nat (OpT × Nat) → Except Nat OpT
  | .error k => .error k
  | .ok (o, b) => if b < l.length then .error 2 else .ok o
def tOp (l : List Nat) : Except Nat OpT :=
  match wordIdx (runL 97 122 l 0) with
  | none => .error 28
  | some i => opEnd l (tParts l (partsL (i + 1)) (zeroT (i + 1)) (runN 97 122 l))

/-! Where a reader stands stays within its line. -/
theorem tNeed_ok {l : List Nat} {a c b : Nat} (h : tNeed l a c = .ok b) : b = a + 1 ∧ a < l.length := by
  unfold tNeed at h
  split at h
  · rename_i hl
    split at h
    · injection h with h; exact ⟨h.symm, hl⟩
    · cases h
  · cases h
theorem quotedGo_le {l : List Nat} : ∀ (k a : Nat) (acc x : List Nat) (c : Nat), quotedGo l k a acc = .ok (x, c) → c ≤ l.length ∧ x.length ≤ acc.length + k
  | 0, _, _, _, _, h => by cases h
  | k + 1, a, acc, x, c, h => by
    rw [quotedGo] at h
    split at h
    · rename_i hl
      split at h
      · injection h with h; injection h with h1 h2; subst h1; exact ⟨by omega, by omega⟩
      · split at h
        · split at h
          · cases h
          · split at h
            · cases h
            · split at h
              · cases h
              · have := quotedGo_le k _ _ _ _ h
                simp at this
                omega
        · split at h
          · have := quotedGo_le k _ _ _ _ h
            simp at this
            omega
          · cases h
    · cases h
theorem tQuoted_le {l : List Nat} {a c : Nat} {x : List Nat} (h : tQuoted l a = .ok (x, c)) : c ≤ l.length ∧ x.length ≤ l.length + 1 := by
  unfold tQuoted at h
  split at h
  · cases h
  · have := quotedGo_le _ _ _ _ _ h
    simp at this
    omega
theorem numD_le {m : Bool} {l : List Nat} {a c : Nat} {x : Int} (h : numD m l a = .ok (x, c)) (ha : a ≤ l.length) : c ≤ l.length := by
  unfold numD at h
  have := runN_le 48 57 (l.drop a)
  rw [List.length_drop] at this
  split at h
  · split at h <;> cases h
  · split at h
    · cases h
    · split at h
      · cases h
      · injection h with h; injection h with h1 h2; omega
theorem tNumber_le {l : List Nat} {a c : Nat} {x : Int} (h : tNumber l a = .ok (x, c)) (ha : a ≤ l.length) : c ≤ l.length := by
  unfold tNumber at h
  split at h
  · rename_i hm
    unfold minusB at hm
    rw [Bool.and_eq_true, decide_eq_true_iff] at hm
    exact numD_le h (by omega)
  · exact numD_le h ha

/-- 'next' of a range over a string, wherever the iterator stands. -/
theorem run_next_at {P : Program} (w : World) (g : Nat) (s : ByteArray) (pos : Nat) (ty : TypeId) (hg : w.heap[g]? = some (.stringIter s pos)) (h : pos < s.size) (ha : (s[pos]'h).toNat < 128) :
    (Instr.next (.pointer (some ⟨g, 0, none⟩)) true ty).run P w = .ok (.tuple #[.bool true, .int .i64 pos, .int .i32 (s[pos]'h).toNat]) { w with heap := w.heap.setIfInBounds g (.stringIter s (pos + 1)) } := by
  simp only [Instr.next, getObj, setObj, Sem.run_bind, Sem.run, hg, Result.andThen, h, if_true, decode_ascii s pos h ha]
  simp [goInt, Sem.run, hg]
theorem run_next_over {P : Program} (w : World) (g : Nat) (s : ByteArray) (pos : Nat) (ty : TypeId) (hg : w.heap[g]? = some (.stringIter s pos)) (h : ¬ pos < s.size) :
    (Instr.next (.pointer (some ⟨g, 0, none⟩)) true ty).run P w = .ok (.tuple #[.bool false]) w := by
  simp [Instr.next, getObj, Sem.run, hg, h]
/-- The world behind it. -/
def iterSet (w : World) (g : Nat) (o : Obj) : World := { w with heap := w.heap.setIfInBounds g o }
theorem iterSet_at {w : World} {g : Nat} {o x : Obj} (h : w.heap[g]? = some x) : (iterSet w g o).heap[g]? = some o := by
  have := (Array.getElem?_eq_some_iff.1 h).1
  unfold iterSet
  simp [Array.getElem?_setIfInBounds, this]
theorem iterSet_old {w : World} {g k : Nat} {o x : Obj} (hn : k ≠ g) (h : w.heap[k]? = some x) : (iterSet w g o).heap[k]? = some x := by
  unfold iterSet
  simp [Array.getElem?_setIfInBounds, Ne.symm hn, h]
theorem grown_iter {w v : World} {row : Option Nat} (h : w.grownBy v row) {g : Nat} (hg : w.heap.size ≤ g) (o : Obj) : w.grownBy (iterSet v g o) row :=
  ⟨h.os, h.tape, h.output, by unfold iterSet; simp [h.size], fun k hk hr => by
    have := h.block k hk hr
    unfold iterSet
    rw [← this]
    simp [Array.getElem?_setIfInBounds]
    intro e; omega⟩

theorem grown_sets {w : World} {row : Option Nat} {g : Nat} (hg : w.heap.size ≤ g) : ∀ (vs : List Value) (W : World) (k : Nat), w.grownBy W row → w.grownBy (sets W g k vs) row
  | [], _, _, h => h
  | v :: vs, W, k, h => grown_sets hg vs _ _ ⟨h.os, h.tape, h.output, by simpa [World.setCell] using h.size, fun q hq hr => (Below.heap_setCell _ _ _ _ (by show q ≠ g; omega)).trans (h.block q hq hr)⟩
/-- An operation's cells. -/
def OpT.cells (o : OpT) (v : Value) : Array Value := #[bv o.kind, .string (toB o.path), .string (toB o.other), i64 o.handle, i64 o.from_, i64 o.n, v]
/-- The state of an operation's reading. -/
structure OpSt (w : World) (r pr po it : Nat) (s P : ByteArray) (wr : World) (a j : Nat) (o : OpT) (v : Value) : Prop where
  rd : RdT wr r s a
  res : wr.heap[pr]? = some (.cells #[.int .u8 0, .string ByteArray.empty, .string ByteArray.empty, i64 0, i64 0, i64 0, .slice none 0 0] 25 (0, 0))
  op : wr.heap[po]? = some (.cells (o.cells v) 25 (0, 0))
  iter : wr.heap[it]? = some (.stringIter P j)
  own : wr.ownsRow (it + 1) 5 1 v o.data.length (o.data.map bv)
  grown : w.grownBy wr (some r)
  l0 : r < w.heap.size
  l1 : w.heap.size ≤ pr
  l2 : pr < po
  l3 : po < it
theorem OpSt.call {w : World} {r pr po it : Nat} {s P : ByteArray} {wr W : World} {a a' j : Nat} {o : OpT} {v : Value} (h : OpSt w r pr po it s P wr a j o v) (hg : wr.grownBy W (some r)) (hr : RdT W r s a') : OpSt w r pr po it s P W a' j o v := by
  have l0 := h.l0; have l1 := h.l1; have l2 := h.l2; have l3 := h.l3
  have keep : ∀ (g : Nat) (x : Obj), pr ≤ g → wr.heap[g]? = some x → W.heap[g]? = some x := fun g x hb hx => (hg.block g (Array.getElem?_eq_some_iff.1 hx).1 (fun e => by injection e with e; omega)).trans hx
  exact ⟨hr, keep _ _ (Nat.le_refl _) h.res, keep _ _ (by omega) h.op, keep _ _ (by omega) h.iter, own_keepG h.own (fun g x hb hx => keep g x (by omega) hx), grown_trans h.grown hg, l0, l1, l2, l3⟩
theorem OpSt.next {w : World} {r pr po it : Nat} {s P : ByteArray} {wr : World} {a j : Nat} {o : OpT} {v : Value} (h : OpSt w r pr po it s P wr a j o v) : OpSt w r pr po it s P (iterSet wr it (.stringIter P (j + 1))) a (j + 1) o v := by
  have l0 := h.l0; have l1 := h.l1; have l2 := h.l2; have l3 := h.l3
  exact ⟨iterSet_old (by omega) h.rd, iterSet_old (by omega) h.res, iterSet_old (by omega) h.op, iterSet_at h.iter, own_keepG h.own (fun g x hb hx => iterSet_old (by omega) hx), grown_iter h.grown (by omega) _, l0, l1, l2, l3⟩
theorem OpSt.set {w : World} {r pr po it : Nat} {s P : ByteArray} {wr : World} {a j : Nat} {o : OpT} {v : Value} (h : OpSt w r pr po it s P wr a j o v) (k : Nat) (x : Value) (o' : OpT) (v' : Value) (hc : (o.cells v).setIfInBounds k x = o'.cells v')
    (ho : (wr.setCell ⟨po, k, none⟩ x).ownsRow (it + 1) 5 1 v' o'.data.length (o'.data.map bv)) : OpSt w r pr po it s P (wr.setCell ⟨po, k, none⟩ x) a j o' v' := by
  have l0 := h.l0; have l1 := h.l1; have l2 := h.l2; have l3 := h.l3
  refine ⟨blk_set h.rd _ _ (by omega), blk_set h.res _ _ (by omega), hc ▸ heap_setCell h.op k x, blk_set h.iter _ _ (by omega), ho, ?_, l0, l1, l2, l3⟩
  exact ⟨h.grown.os, h.grown.tape, h.grown.output, by simpa [World.setCell] using h.grown.size, fun q hq hr => (Below.heap_setCell _ _ _ _ (by show q ≠ po; omega)).trans (h.grown.block q hq hr)⟩
theorem OpSt.own_set {w : World} {r pr po it : Nat} {s P : ByteArray} {wr : World} {a j : Nat} {o : OpT} {v : Value} (h : OpSt w r pr po it s P wr a j o v) (k : Nat) (x : Value) : (wr.setCell ⟨po, k, none⟩ x).ownsRow (it + 1) 5 1 v o.data.length (o.data.map bv) :=
  own_keepG h.own fun g y hb hy => blk_set hy _ _ (by have := h.l3; omega)
end Go.Proofs.YtbjjpplhnibjdaaDoor

