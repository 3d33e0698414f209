/- The document's device: bytes as bits. -/
import Derived.Test.YtnmeaminfoopmaaGreatDoorNorQ
import Derived.Test.YtnmeaminfoopmaaGreatDoorNorN
import Derived.Test.YtnmeaminfoopmaaGreatDoorMg9
namespace Go.Proofs.YtnmeaminfoopmaaGreatDoor
open Go.RowKit Flo

def bitB (x i : Nat) : Bool := x / 2 ^ i % 2 == 1
/-- What the bits of both come to. -/
def rBits (old other mask : Nat) (down : Bool) : Nat := if down then pUp other mask old else eUp mask old
def oneB (old other mask : Nat) (down : Bool) (i : Nat) : Bool := if bitB mask i then (if down then bitB old i && bitB other i else true) else bitB old i
theorem bitB_test (x i : Nat) : bitB x i = x.testBit i := by
  unfold bitB
  rw [Nat.testBit_eq_decide_div_mod_eq]
  by_cases h : x / 2 ^ i % 2 = 1 <;> simp [h]
theorem rBits_bit (old other mask : Nat) (down : Bool) (i : Nat) (hi : i < 8) (hm : mask < 256) : (rBits old other mask down).testBit i = oneB old other mask down i := by
  unfold rBits oneB
  simp only [bitB_test]
  cases down
  · simp only [Bool.false_eq_true, if_false]
    unfold eUp
    rw [Nat.testBit_or]
    cases old.testBit i <;> cases mask.testBit i <;> rfl
  · simp only [if_true]
    unfold pUp
    rw [Nat.testBit_and, Nat.testBit_or, show 255 - mask = 2 ^ 8 - (mask + 1) by omega, Nat.testBit_two_pow_sub_succ (show mask < 2 ^ 8 from hm)]
    simp only [hi, decide_true, Bool.true_and]
    cases old.testBit i <;> cases mask.testBit i <;> cases other.testBit i <;> rfl
theorem low_step (x i : Nat) : x % 2 ^ (i + 1) = x % 2 ^ i + (if x.testBit i then 2 ^ i else 0) := by
  rw [Nat.testBit_eq_decide_div_mod_eq, Nat.pow_succ, Nat.mod_mul]
  have : x / 2 ^ i % 2 < 2 := Nat.mod_lt _ (by decide)
  rcases (by omega : x / 2 ^ i % 2 = 0 ∨ x / 2 ^ i % 2 = 1) with h | h
  · simp [h]
  · simp [h]

end Go.Proofs.YtnmeaminfoopmaaGreatDoor

/- The chapter's example of nor. -/
namespace Go.Proofs.YtnmeaminfoopmaaGreatDoor
open Go.RowKit Flo

theorem far_new {O : Nat → Prop} {w : World} (h : ∀ k, O k → k < w.heap.size) {g : Nat} (hg : w.heap.size ≤ g) (o n c : Nat) : Far O (.slice (some ⟨g, o, none⟩) n c) := by
  intro b off n' c' e ho
  injection e with e
  injection e with e
  injection e with e
  subst e
  have := h _ ho
  omega
theorem part0 : part? 0 = some 0 := by
  have h : near 0 = 0 := by decide
  rw [← h]
  exact part_some (nearest_Whole (n := 0) (by decide))

theorem prog_fresh {N : Nor} {a b k o : Nat} {lb l : List Nat} (hoff : N.off = false) (hlb : lb.length ≠ 0) (ha : part? a = some k) (hb : part? b = some o) (hk : k < N.S) (hin : o + lb.length ≤ N.Z) (hbad : N.bad = []) (hcut : N.cut = none) (hl : N.data[k]? = some l) :
    N.prog a b lb = (0, { N with acts := N.acts + 1, data := N.data.set k (stepRow (fun i m old => pUp (lb.getD i 0) m old) o l lb.length) }) := by
  unfold Nor.prog
  rw [if_neg (by rw [hoff]; decide), if_neg hlb, within_yes ha hb, if_neg (by simp; omega), ha, hb]
  have hb2 : N.isBad ((some k).getD 0) = false := by unfold Nor.isBad; rw [hbad]; rfl
  rw [if_neg (by rw [hb2]; decide)]
  unfold Nor.act
  rw [hcut]
  have : N.data.getD ((some k).getD 0) [] = l := by rw [List.getD_eq_getElem?_getD]; show (N.data[k]?).getD [] = l; rw [hl]; rfl
  rw [this]
  rfl

/-- As the example stands between its acts. -/
structure Ex (N : Nor) (row : List Nat) (n : Nat) : Prop where
  off : N.off = false
  S : N.S = 6
  Z : N.Z = 512
  bad : N.bad = []
  cut : N.cut = none
  data : N.data[0]? = some row
  acts : N.acts = n
  offs : N.offs = 0
theorem Ex.prog {N : Nor} {row : List Nat} {n : Nat} (h : Ex N row n) (x : Nat) : ∃ N', N.prog 0 4613937818241073152 [x] = (0, N') ∧ ptrD N' = ptrD N ∧ Ex N' (row.set 3 (pUp x 255 (row.getD 3 0))) (n + 1) := by
  have hp3 : part? 4613937818241073152 = some 3 := by rw [← near3]; exact part3
  have hp := prog_fresh (N := N) (lb := [x]) (l := row) h.off (by simp) part0 hp3 (by rw [h.S]; decide) (by rw [h.Z]; simp) h.bad h.cut h.data
  refine ⟨_, hp, rfl, ⟨h.off, h.S, h.Z, h.bad, h.cut, ?_, by show N.acts + 1 = _; rw [h.acts], h.offs⟩⟩
  have h0 : 0 < N.data.length := (List.getElem?_eq_some_iff.1 h.data).1
  show (N.data.set 0 _)[0]? = _
  rw [List.getElem?_set_self h0]
  rfl
theorem Ex.got {N : Nor} {row : List Nat} {n x : Nat} (h : Ex N row n) (hx : row[3]? = some x) : N.got 0 4613937818241073152 1 = ([x], 0) := by
  unfold Nor.got
  rw [if_neg (by rw [h.off]; decide), within_yes part0 (by rw [← near3]; exact part3), if_pos (by rw [h.S, h.Z]; decide), part0, show part? 4613937818241073152 = some 3 by rw [← near3]; exact part3]
  show (((N.data.getD 0 []).drop 3).take 1, 0) = _
  have : N.data.getD 0 [] = row := by rw [List.getD_eq_getElem?_getD, h.data]; rfl
  rw [this, List.drop_eq_getElem_cons (List.getElem?_eq_some_iff.1 hx).1]
  rw [(List.getElem?_eq_some_iff.1 hx).2]
  rfl

end Go.Proofs.YtnmeaminfoopmaaGreatDoor

/- The document's device in memory: off, cut, spoilt. -/
namespace Go.Proofs.YtnmeaminfoopmaaGreatDoor
open Go.RowKit Flo

theorem info_boolV : (Tryz.prog.info? 4).map (fun i => (i.zero, i.size, i.bytes)) = some (some (.bool false), 1, 1) := by kernel_rfl
structure RV where
  dA : Option Addr
  wA : Option Addr
  bA : Option Addr
  dc : Nat
  wc : Nat
  bc : Nat
  left : Nat
  whole : Nat
  mask : Nat
  rows : List Value
def RV.cells (R : RV) (N : Nor) : Array Value := #[i64 N.S, i64 N.Z, .slice R.dA N.S R.dc, .slice R.wA N.S R.wc, .slice R.bA N.S R.bc, .bool N.off, i64 N.offs, i64 N.acts, .bool N.cut.isSome, i64 R.left, i64 R.whole, .int .u8 R.mask]
abbrev RV.val (R : RV) (N : Nor) : Value := .agg (R.cells N)
/-- The document's device, that lies in none of the blocks O, says the same. -/
structure RefR (O : Nat → Prop) (w : World) (R : RV) (N : Nor) : Prop where
  cut : ∀ c, N.cut = some c → R.left = c.1 ∧ R.whole = c.2.1 ∧ R.mask = c.2.2
  data : Sl w 1 (.slice R.dA N.S R.dc) (R.rows.map fun r => [r])
  dfar : Far O (.slice R.dA N.S R.dc)
  len : R.rows.length = N.S
  row : ∀ (i : Nat) (r : Value) (l : List Nat), R.rows[i]? = some r → N.data[i]? = some l → Byt w r l ∧ Far O r ∧ ∃ ad n c, r = .slice (some ad) n c
  wear : Ints w (.slice R.wA N.S R.wc) (N.wear.map fun n : Nat => (n : Int))
  wfar : Far O (.slice R.wA N.S R.wc)
  bad : Sl w 1 (.slice R.bA N.S R.bc) ((List.range N.S).map fun i => [Value.bool (N.isBad i)])
  bfar : Far O (.slice R.bA N.S R.bc)
  dl : N.data.length = N.S
  wl : N.wear.length = N.S
  all : ∀ l ∈ N.data, l.length = N.Z ∧ ∀ b ∈ l, b < 256
  geo : geoB N.S N.Z = true
  badn : (N.bad.map Prod.fst).Nodup
theorem RefR.out {O : Nat → Prop} {w w' : World} {R : RV} {N : Nor} (h : RefR O w R N) (hb : Out O w w') : RefR O w' R N :=
  { h with data := Sl.out h.data h.dfar hb, row := fun i r l h1 h2 => by { obtain ⟨a, b, c⟩ := h.row i r l h1 h2; exact ⟨Sl.out a b hb, b, c⟩ }, wear := Sl.out h.wear h.wfar hb, bad := Sl.out h.bad h.bfar hb }
theorem RefR.below {O : Nat → Prop} {w w' : World} {R : RV} {N : Nor} (h : RefR O w R N) (hb : Below w.heap.size w w') : RefR O w' R N := h.out (Out.of_below hb)
/-- The blocks may be fewer, or more that are new. -/
theorem Far.sub {O Q : Nat → Prop} {v : Value} (h : Far O v) (hq : ∀ k, Q k → O k) : Far Q v := fun b off n c e hb => h b off n c e (hq b hb)

theorem RefR.turn {O : Nat → Prop} {w : World} {R : RV} {N : Nor} (h : RefR O w R N) : RefR O w R N.turn := by
  unfold Nor.turn
  split
  · exact h
  · exact { h with cut := fun c hc => by cases hc }

theorem RefR.cutAt {O : Nat → Prop} {w : World} {R : RV} {N : Nor} (h : RefR O w R N) (a b : Int) (m g : Nat) : RefR O w { R with left := a.toNat, whole := b.toNat, mask := m } (N.cutAt a b m g) :=
  { h with cut := fun c hc => by { injection hc with hc; subst hc; exact ⟨rfl, rfl, rfl⟩ } }

theorem isBad_spoil (N : Nor) (hn : (N.bad.map Prod.fst).Nodup) (s : Int) (i : Nat) : (N.spoil s).isBad i = (decide ((i : Int) = s) || N.isBad i) := by
  unfold Nor.isBad Nor.spoil
  simp only []
  rw [mget_mput hn]
  by_cases h : (i : Int) = s
  · simp [h]
  · simp [h]

/-- One cell each. -/
theorem Sl.src1 {w : World} {ad : Addr} {n cap : Nat} {xs : List Value} (h : Sl w 1 (.slice (some ad) n cap) (xs.map fun x => [x])) : ∀ j u, xs[j]? = some u → w.cell? (ad.add j) = some u := by
  intro j u hj
  have hn := h.len
  rw [List.length_map] at hn
  have hjl := (List.getElem?_eq_some_iff.1 hj).1
  obtain ⟨b, off, hA, hb, hx⟩ := h.at (by omega)
  injection hA with hA
  subst hA
  have := (hx j [u] (by rw [List.getElem?_map, hj]; rfl)).2 0 u rfl
  rw [Addr.add_lit, show off + j = off + j * 1 + 0 by omega]
  exact this
theorem Sl.some {w : World} {A : Option Addr} {k n cap : Nat} {xs : List (List Value)} (h : Sl w k (.slice A n cap) xs) (hp : 0 < n) : ∃ ad, A = some ad := by
  obtain ⟨b, off, hA, _⟩ := h.at hp
  exact ⟨_, hA⟩
theorem RefR.bad' {O : Nat → Prop} {w w' : World} {R : RV} {N : Nor} (h : RefR O w R N) (s : Int) (lim : ∀ k, O k → k < w.heap.size) (hb : Below w.heap.size w w') {g cp : Nat} {D : List Value} (hg : w'.heap[g]? = some (.cells D.toArray 4 (0, 0)))
    (hD : D.take N.S = (List.range N.S).map fun i => Value.bool ((N.spoil s).isBad i)) (n1 : w.heap.size ≤ g) (hc : N.S ≤ cp) (hm : cp ≤ maxLen) :
    RefR O w' { R with bA := some ⟨g, 0, none⟩, bc := cp } (N.spoil s) := by
  have hw := h.below hb
  refine { hw with bad := ?_, bfar := far_new lim n1 _ _ _, badn := mput_nodup h.badn s _ }
  have := Sl.of_blk hg hD (by simp) hc hm
  rw [List.map_map] at this
  exact this

end Go.Proofs.YtnmeaminfoopmaaGreatDoor

/- The document's device: an act. -/
namespace Go.Proofs.YtnmeaminfoopmaaGreatDoor
open Go.RowKit Flo

/-- Which bits of a byte are done. -/
def rMask (c : Bool) (whole mask i : Nat) : Nat := if c then (if i = whole then mask else if whole < i then 0 else 255) else 255
theorem rMask_lt {c : Bool} {whole mask : Nat} (i : Nat) (h : mask < 256) : rMask c whole mask i < 256 := by unfold rMask; split <;> (try split) <;> (try split) <;> omega
theorem rBits_lt {old other mask : Nat} (down : Bool) (h : old < 256) (hm : mask < 256) : rBits old other mask down < 256 := by
  unfold rBits; split
  · exact pUp_lt h
  · exact eUp_lt h hm
/-- A sector's row, so far. -/
def rRow (lb : List Nat) (down c : Bool) (whole mask p : Nat) (l : List Nat) : Nat → List Nat
  | 0 => l
  | j + 1 => (rRow lb down c whole mask p l j).set (p + j) (rBits ((rRow lb down c whole mask p l j).getD (p + j) 0) (lb.getD j 0) (rMask c whole mask j) down)
theorem rRow_len (lb : List Nat) (down c : Bool) (whole mask p : Nat) (l : List Nat) : ∀ j, (rRow lb down c whole mask p l j).length = l.length
  | 0 => rfl
  | j + 1 => by rw [rRow, List.length_set]; exact rRow_len lb down c whole mask p l j
theorem getD_lt {l : List Nat} (h : ∀ x ∈ l, x < 256) (i : Nat) : l.getD i 0 < 256 := by
  rw [List.getD_eq_getElem?_getD]
  cases hi : l[i]? with
  | none => decide
  | some x => exact h x (List.mem_of_getElem? hi)
theorem rRow_lt {lb : List Nat} {down c : Bool} {whole mask p : Nat} {l : List Nat} (h : ∀ x ∈ l, x < 256) (hm : mask < 256) : ∀ j, ∀ x ∈ rRow lb down c whole mask p l j, x < 256
  | 0 => h
  | j + 1 => by
    intro x hx
    rcases List.mem_or_eq_of_mem_set hx with h1 | h1
    · exact rRow_lt h hm j x h1
    · subst h1; exact rBits_lt down (getD_lt (rRow_lt h hm j) _) (rMask_lt j hm)
theorem and255 {x : Nat} (h : x < 256) : x &&& 255 = x := Nat.and_two_pow_sub_one_of_lt_two_pow (n := 8) h
theorem or255 {x : Nat} (h : x < 256) : x ||| 255 = 255 := by
  apply Nat.eq_of_testBit_eq
  intro i
  rw [Nat.testBit_or, show (255 : Nat) = 2 ^ 8 - 1 by decide, Nat.testBit_two_pow_sub_one]
  by_cases hi : i < 8
  · simp [hi]
  · have : x.testBit i = false := Nat.testBit_lt_two_pow (Nat.lt_of_lt_of_le (show x < 2 ^ 8 from h) (Nat.pow_le_pow_right (by decide) (by omega)))
    simp [hi, this]
theorem rBits_id {old x : Nat} (down : Bool) (h : old < 256) (hx : x < 256) : rBits old x 0 down = old := by
  unfold rBits
  split
  · unfold pUp; rw [show 255 - 0 = 255 from rfl, or255 hx, and255 h]
  · unfold eUp; rw [Nat.or_zero]
theorem set_getD (l : List Nat) (i : Nat) : l.set i (l.getD i 0) = l := by
  by_cases hi : i < l.length
  · rw [List.getD_eq_getElem?_getD, List.getElem?_eq_getElem hi]
    exact List.set_getElem_self ..
  · exact List.set_eq_of_length_le (by omega)
abbrev rUpd (lb : List Nat) (down : Bool) : Nat → Nat → Nat → Nat := fun i m old => rBits old (lb.getD i 0) m down
theorem rRow_step (lb : List Nat) (down : Bool) (whole mask p : Nat) (l : List Nat) : ∀ j, rRow lb down false whole mask p l j = stepRow (rUpd lb down) p l j
  | 0 => rfl
  | j + 1 => by rw [rRow, stepRow, rRow_step lb down whole mask p l j]; rfl
theorem rRow_pre (lb : List Nat) (down : Bool) (whole mask p : Nat) (l : List Nat) : ∀ j, j ≤ whole → rRow lb down true whole mask p l j = stepRow (rUpd lb down) p l j
  | 0, _ => rfl
  | j + 1, h => by
    rw [rRow, stepRow, rRow_pre lb down whole mask p l j (by omega)]
    have : rMask true whole mask j = 255 := by unfold rMask; rw [if_pos rfl, if_neg (by omega), if_neg (by omega)]
    rw [this]
theorem rRow_post {lb : List Nat} (down : Bool) (whole : Nat) {mask : Nat} (p : Nat) {l : List Nat} (h : ∀ x ∈ l, x < 256) (hb : ∀ x ∈ lb, x < 256) (hm : mask < 256) :
    ∀ k, rRow lb down true whole mask p l (whole + 1 + k) = (stepRow (rUpd lb down) p l whole).set (p + whole) (rUpd lb down whole mask ((stepRow (rUpd lb down) p l whole).getD (p + whole) 0))
  | 0 => by
    rw [Nat.add_zero, rRow, rRow_pre lb down whole mask p l whole (Nat.le_refl _)]
    have : rMask true whole mask whole = mask := by unfold rMask; rw [if_pos rfl, if_pos rfl]
    rw [this]
  | k + 1 => by
    rw [← Nat.add_assoc, rRow]
    have : rMask true whole mask (whole + 1 + k) = 0 := by unfold rMask; rw [if_pos rfl, if_neg (by omega), if_pos (by omega)]
    rw [this, rBits_id down (getD_lt (rRow_lt h hm _) _) (getD_lt hb _), set_getD]
    exact rRow_post down whole p h hb hm k
theorem rRow_cut {lb : List Nat} (down : Bool) (whole : Nat) {mask : Nat} (p : Nat) {l : List Nat} (h : ∀ x ∈ l, x < 256) (hb : ∀ x ∈ lb, x < 256) (hm : mask < 256) (n : Nat) :
    rRow lb down true whole mask p l n = cutRow (rUpd lb down) p l n whole mask := by
  unfold cutRow
  split
  · rename_i hlt
    rw [show n = whole + 1 + (n - whole - 1) by omega]
    exact rRow_post down whole p h hb hm _
  · exact rRow_pre lb down whole mask p l n (by omega)
/-- A byte of what is to be done. -/
theorem Byt.at1 {w : World} {A : Option Addr} {n cap : Nat} {l : List Nat} (h : Byt w (.slice A n cap) l) (hp : 0 < l.length) :
    ∃ b off, A = some ⟨b, off, none⟩ ∧ b < w.heap.size ∧ ∀ j x, l[j]? = some x → w.cell? ⟨b, off + j, none⟩ = some (bv x) := by
  obtain ⟨b, off, hA, hb, hx⟩ := Byt.cell h hp
  refine ⟨b, off, hA, hb, fun j x hj => ?_⟩
  have := hx j (bv x) (by rw [List.getElem?_map, hj]; rfl)
  rwa [Addr.add_lit] at this
theorem byt_blk {W : World} {g cap : Nat} {row : List Nat} {junk : List Value} (h : W.heap[g]? = some (Obj.cells (row.map bv ++ junk).toArray 5 (0, 0))) (hc : row.length ≤ cap) (hm : cap ≤ maxLen) : Byt W (.slice (some ⟨g, 0, none⟩) row.length cap) row := by
  have := Sl.of_blk h (xs := row.map bv) (n := row.length) (List.take_left' (by simp)) (by simp) hc hm
  rw [List.map_map] at this
  exact this
/-- The reference's device behind an act. -/
theorem RefR.act' {O : Nat → Prop} {w W : World} {R R' : RV} {N N' : Nor} (h : RefR O w R N) (lim : ∀ k, O k → k < w.heap.size) (hb : Below w.heap.size w W) {g cp2 L cp s : Nat} {C : List Value} {row : List Nat} {junk : List Value}
    (hg : W.heap[g]? = some (Obj.cells C.toArray 95 (0, 0))) (hC : C.take N.S = R.rows.set s (.slice (some ⟨L, 0, none⟩) N.Z cp)) (n1 : w.heap.size ≤ g) (hc : N.S ≤ cp2) (hm : cp2 ≤ maxLen)
    (hL : W.heap[L]? = some (Obj.cells (row.map bv ++ junk).toArray 5 (0, 0))) (n2 : w.heap.size ≤ L) (hrl : row.length = N.Z) (hr8 : ∀ x ∈ row, x < 256) (hcp : N.Z ≤ cp) (hcm : cp ≤ maxLen) (hs : s < N.S)
    (hR : R' = { R with dA := some ⟨g, 0, none⟩, dc := cp2, rows := R.rows.set s (.slice (some ⟨L, 0, none⟩) N.Z cp), left := R'.left })
    (hN : N' = { N with off := N'.off, offs := N'.offs, acts := N'.acts, cut := N'.cut, data := N.data.set s row })
    (hcut : ∀ c, N'.cut = some c → R'.left = c.1 ∧ R.whole = c.2.1 ∧ R.mask = c.2.2) : RefR O W R' N' := by
  have hw := h.below hb
  rw [hR, hN]
  rw [hR, hN] at hcut
  refine { cut := hcut, data := ?_, dfar := far_new lim n1 _ _ _, len := by rw [List.length_set]; exact h.len, row := ?_, wear := hw.wear, wfar := h.wfar, bad := hw.bad, bfar := h.bfar, dl := by rw [List.length_set]; exact h.dl, wl := h.wl, all := ?_, geo := h.geo, badn := h.badn }
  · exact Sl.of_blk hg hC (by rw [List.length_set]; exact h.len) hc hm
  · intro i r l hr hl
    simp only [List.getElem?_set] at hr hl
    by_cases he : s = i
    · subst he
      rw [if_pos rfl, if_pos (by rw [h.len]; exact hs)] at hr
      rw [if_pos rfl, if_pos (by rw [h.dl]; exact hs)] at hl
      injection hr with hr
      injection hl with hl
      subst hr; subst hl
      have := byt_blk hL (by omega) hcm
      rw [hrl] at this
      exact ⟨this, far_new lim n2 _ _ _, _, _, _, rfl⟩
    · rw [if_neg he] at hr hl
      exact hw.row i r l hr hl
  · intro l hl
    rcases List.mem_or_eq_of_mem_set hl with h1 | h1
    · exact h.all l h1
    · subst h1; exact ⟨hrl, hr8⟩
theorem info_u8E : (Tryz.prog.info? 5).map (fun i => (i.zero, i.size, i.bytes)) = some (some (.int .u8 0), 1, 1) := by kernel_rfl
theorem rRow_next {lb : List Nat} {down c : Bool} {whole mask p : Nat} {l : List Nat} {j x m old : Nat} (hx : lb[j]? = some x) (hm : rMask c whole mask j = m) (ho : (rRow lb down c whole mask p l j).getD (p + j) 0 = old) :
    rRow lb down c whole mask p l (j + 1) = (rRow lb down c whole mask p l j).set (p + j) (rBits old x m down) := by
  rw [rRow, hm, ho, List.getD_eq_getElem?_getD, hx]; rfl
end Go.Proofs.YtnmeaminfoopmaaGreatDoor

/- The document's device: programmed, erased. -/
namespace Go.Proofs.YtnmeaminfoopmaaGreatDoor
open Go.RowKit Flo

abbrev RefPost (O : Nat → Prop) (w : World) (R : RV) (p : Nat × Nor) (e : Ending) (w' : World) : Prop :=
  ∃ R' : RV, e = .returned (.tuple #[i64 p.1, R'.val p.2]) ∧ RefR O w' R' p.2 ∧ Below w.heap.size w w' ∧ R'.mask = R.mask ∧ R'.left ≤ R.left
theorem RefR.badAt {O : Nat → Prop} {w : World} {R : RV} {N : Nor} (h : RefR O w R N) (k : Nat) (hk : k < N.S) : ∃ ad : Addr, R.bA = some ad ∧ ad.block < w.heap.size ∧ w.cell? (ad.add k) = some (.bool (N.isBad k)) := by
  have hbd := h.bad
  obtain ⟨b, off, hA, hb, hx⟩ := hbd.at (by omega)
  refine ⟨⟨b, off, none⟩, hA, hb, ?_⟩
  have := (hx k [.bool (N.isBad k)] (by simp [hk])).2 0 _ rfl
  rw [Addr.add_lit, show off + k = off + k * 1 + 0 by omega]
  exact this
/-- What is written may be more, where none of it is read. -/
theorem RefR.wider {O Q : Nat → Prop} {w : World} {R : RV} {N : Nor} (h : RefR O w R N) (hq : ∀ k, Q k → O k ∨ w.heap.size ≤ k) : RefR Q w R N := by
  have hg := geoB_yes h.geo
  have far : ∀ {k n cap : Nat} {A : Option Addr} {xs : List (List Value)}, Sl w k (.slice A n cap) xs → 0 < n → Far O (.slice A n cap) → Far Q (.slice A n cap) := by
    intro k n cap A xs hs hn hf b off n' c' he hQ
    rcases hq b hQ with h1 | h1
    · exact hf b off n' c' he h1
    · obtain ⟨b', off', hA, hb, _⟩ := hs.at hn
      injection he with he
      rw [hA] at he
      injection he with he
      injection he with he
      omega
  refine { h with dfar := far h.data (by omega) h.dfar, row := ?_, wfar := far h.wear (by omega) h.wfar, bfar := far h.bad (by omega) h.bfar }
  intro i r l h1 h2
  obtain ⟨a1, a2, ad, n, c, rfl⟩ := h.row i r l h1 h2
  refine ⟨a1, ?_, _, _, _, rfl⟩
  have hn := a1.len
  rw [List.length_map, (h.all l (List.mem_of_getElem? h2)).1] at hn
  exact far a1 (by omega) a2
theorem RefR.sub {O Q : Nat → Prop} {w : World} {R : RV} {N : Nor} (h : RefR O w R N) (hq : ∀ k, Q k → O k) : RefR Q w R N :=
  h.wider (fun k hk => .inl (hq k hk))
theorem sets_out {Q : Nat → Prop} {g : Nat} (hg : Q g) : ∀ (vs : List Value) (W W' : World) (k : Nat), Out Q W W' → Out Q W (sets W' g k vs)
  | [], _, _, _, h => h
  | v :: vs, W, _, k, h => sets_out hg vs W _ _ (h.set hg k v)

end Go.Proofs.YtnmeaminfoopmaaGreatDoor

/- The document's device erased. -/
namespace Go.Proofs.YtnmeaminfoopmaaGreatDoor
open Go.RowKit Flo

theorem RefR.wear' {O : Nat → Prop} {w W : World} {R : RV} {N : Nor} (h : RefR O w R N) (hb : Below w.heap.size w W) {g cp k x : Nat} {C : List Value}
    (hg : W.heap[g]? = some (Obj.cells C.toArray 3 (0, 0))) (hC : C.take N.S = (N.wear.set k x).map fun n : Nat => i64 n) (n1 : ¬ O g) (hc : N.S ≤ cp) (hm : cp ≤ maxLen) :
    RefR O W { R with wA := some ⟨g, 0, none⟩, wc := cp } { N with wear := N.wear.set k x } := by
  have hw := h.below hb
  refine { hw with wear := ?_, wfar := (by intro b off n c e; injection e with e; injection e with e; injection e with e; rw [← e]; exact n1), wl := by rw [List.length_set]; exact h.wl }
  have := Sl.of_blk hg hC (by rw [List.length_map, List.length_set]; exact h.wl) hc hm
  rw [List.map_map] at this
  show Sl _ _ _ _
  rw [List.map_map]
  exact this
end Go.Proofs.YtnmeaminfoopmaaGreatDoor

/- The operations of the law: as many as are gone through. -/
namespace Go.Proofs.YtnmeaminfoopmaaGreatDoor
open Go.RowKit Flo

structure OpV where
  kind : Int
  sector : Int
  offset : Int
  A : Option Addr
  bn : Nat
  bc : Nat
  n : Int
  k : Int
  mask : Nat
def OpV.row (o : OpV) : List Value := [i64 o.kind, i64 o.sector, i64 o.offset, .slice o.A o.bn o.bc, i64 o.n, i64 o.k, bv o.mask]
abbrev OpV.val (o : OpV) : Value := .agg #[i64 o.kind, i64 o.sector, i64 o.offset, .slice o.A o.bn o.bc, i64 o.n, i64 o.k, bv o.mask]
abbrev Ops (w : World) (v : Value) (l : List OpV) : Prop := Sl w 7 v (l.map OpV.row)
def cutGo : Nat → Nat → List Nat → Nat
  | i, _, [] => i
  | i, n, x :: xs => if 60 ≤ i ∨ 6000 < n + min x 90000 then i else cutGo (i + 1) (n + min x 90000) xs
theorem cutGo_le : ∀ (l : List Nat) (i n : Nat), cutGo i n l ≤ i + l.length
  | [], i, n => Nat.le_refl _
  | x :: xs, i, n => by
    unfold cutGo
    split
    · simp
    · have := cutGo_le xs (i + 1) (n + min x 90000)
      simp only [List.length_cons]; omega
theorem cutGo_ge : ∀ (l : List Nat) (i n : Nat), i ≤ cutGo i n l
  | [], i, n => Nat.le_refl _
  | x :: xs, i, n => by
    unfold cutGo
    split
    · exact Nat.le_refl _
    · have := cutGo_ge xs (i + 1) (n + min x 90000)
      omega
/-- What is gone through is short. -/
theorem cutGo_small : ∀ (l : List Nat) (i n j : Nat), j < cutGo i n l - i → ∃ x, l[j]? = some x ∧ x ≤ 6000
  | [], i, n, j, h => by simp [cutGo] at h
  | x :: xs, i, n, j, h => by
    unfold cutGo at h
    split at h
    · omega
    · rename_i hc
      cases j with
      | zero => exact ⟨x, rfl, by omega⟩
      | succ j =>
        have := cutGo_ge xs (i + 1) (n + min x 90000)
        have h2 : j < cutGo (i + 1) (n + min x 90000) xs - (i + 1) := by omega
        simpa using cutGo_small xs (i + 1) _ j h2
theorem cutGo_60 : ∀ (l : List Nat) (i n : Nat), i ≤ 60 → cutGo i n l ≤ 60
  | [], i, n, h => h
  | x :: xs, i, n, h => by
    unfold cutGo
    split
    · exact h
    · rename_i hc
      exact cutGo_60 xs (i + 1) _ (by omega)

theorem cutGo_stop {l : List Nat} {j n x : Nat} (hx : l[j]? = some x) (h : 60 ≤ j ∨ 6000 < n + min x 90000) : cutGo j n (l.drop j) = j := by
  rw [List.drop_eq_getElem_cons (List.getElem?_eq_some_iff.1 hx).1, (List.getElem?_eq_some_iff.1 hx).2]
  unfold cutGo
  rw [if_pos h]
theorem cutGo_next {l : List Nat} {j n x : Nat} (hx : l[j]? = some x) (h : ¬ (60 ≤ j ∨ 6000 < n + min x 90000)) : cutGo j n (l.drop j) = cutGo (j + 1) (n + min x 90000) (l.drop (j + 1)) := by
  rw [List.drop_eq_getElem_cons (List.getElem?_eq_some_iff.1 hx).1, (List.getElem?_eq_some_iff.1 hx).2]
  conv => lhs; unfold cutGo
  rw [if_neg h]
theorem Ops.at {w : World} {A : Option Addr} {n cap : Nat} {l : List OpV} (h : Ops w (.slice A n cap) l) (hp : 0 < l.length) :
    ∃ b off, A = some ⟨b, off, none⟩ ∧ b < w.heap.size ∧ ∀ (i : Nat) (o : OpV), l[i]? = some o → ∀ (j : Nat) (u : Value), o.row[j]? = some u → w.cell? ⟨b, off + i * 7 + j, none⟩ = some u := by
  have hn := h.len
  rw [List.length_map] at hn
  obtain ⟨b, off, hA, hb, hx⟩ := Sl.at h (by omega)
  refine ⟨b, off, hA, hb, fun i o ho j u hj => (hx i o.row (by rw [List.getElem?_map, ho]; rfl)).2 j u hj⟩

end Go.Proofs.YtnmeaminfoopmaaGreatDoor

/- The walk of NorNil: whatever is asked of a nil device. -/
namespace Go.Proofs.YtnmeaminfoopmaaGreatDoor
open Go.RowKit Flo

noncomputable def ofPl (a b : Int) : Nat × Nat := if a < 0 ∨ 2147483647 < a ∨ b < 0 ∨ 2147483647 < b then (0, 0) else (near a, near b)
theorem of_any (a b : Int) (w : World) : Gives 56 #[i64 a, i64 b] w (cx (ofPl a b).1 (ofPl a b).2) := by
  unfold ofPl
  split
  · rename_i h; exact of_out a b w h
  · rename_i h; exact of_in a b w (by omega) (by omega) (by omega) (by omega)
theorem rof_any (a b : Int) (w : World) : Gives 106 #[i64 a, i64 b] w (cx (ofPl a b).1 (ofPl a b).2) := by
  unfold ofPl
  split
  · rename_i h; exact rof_out a b w h
  · rename_i h; exact rof_in a b w (by omega) (by omega) (by omega) (by omega)

end Go.Proofs.YtnmeaminfoopmaaGreatDoor

