/- The document's device: an act. -/
import Derived.Test.YtokpoogcoeodkaaGreatDoorMg14
namespace Go.Proofs.YtokpoogcoeodkaaGreatDoor
open Go.RowKit Flo

/-- Which bits of a byte are done. -/
def rMask (c : Bool) (whole mask i : Nat) : Nat := if c then (if i = whole then mask else if whole < i then 0 else 255) else 255
theorem rMask_lt {c : Bool} {whole mask : Nat} (i : Nat) (h : mask < 256) : rMask c whole mask i < 256 := by unfold rMask; split <;> (try split) <;> (try split) <;> omega
theorem rBits_lt {old other mask : Nat} (down : Bool) (h : old < 256) (hm : mask < 256) : rBits old other mask down < 256 := by
  unfold rBits; split
  · exact pUp_lt h
  · exact eUp_lt h hm
/-- A sector's row, so far. -/
def rRow (lb : List Nat) (down c : Bool) (whole mask p : Nat) (l : List Nat) : Nat → List Nat
  | 0 => l
  | j + 1 => (rRow lb down c whole mask p l j).set (p + j) (rBits ((rRow lb down c whole mask p l j).getD (p + j) 0) (lb.getD j 0) (rMask c whole mask j) down)
theorem rRow_len (lb : List Nat) (down c : Bool) (whole mask p : Nat) (l : List Nat) : ∀ j, (rRow lb down c whole mask p l j).length = l.length
  | 0 => rfl
  | j + 1 => by rw [rRow, List.length_set]; exact rRow_len lb down c whole mask p l j
theorem getD_lt {l : List Nat} (h : ∀ x ∈ l, x < 256) (i : Nat) : l.getD i 0 < 256 := by
  rw [List.getD_eq_getElem?_getD]
  cases hi : l[i]? with
  | none => decide
  | some x => exact h x (List.mem_of_getElem? hi)
theorem rRow_lt {lb : List Nat} {down c : Bool} {whole mask p : Nat} {l : List Nat} (h : ∀ x ∈ l, x < 256) (hm : mask < 256) : ∀ j, ∀ x ∈ rRow lb down c whole mask p l j, x < 256
  | 0 => h
  | j + 1 => by
    intro x hx
    rcases List.mem_or_eq_of_mem_set hx with h1 | h1
    · exact rRow_lt h hm j x h1
    · subst h1; exact rBits_lt down (getD_lt (rRow_lt h hm j) _) (rMask_lt j hm)
theorem and255 {x : Nat} (h : x < 256) : x &&& 255 = x := Nat.and_two_pow_sub_one_of_lt_two_pow (n := 8) h
theorem or255 {x : Nat} (h : x < 256) : x ||| 255 = 255 := by
  apply Nat.eq_of_testBit_eq
  intro i
  rw [Nat.testBit_or, show (255 : Nat) = 2 ^ 8 - 1 by decide, Nat.testBit_two_pow_sub_one]
  by_cases hi : i < 8
  · simp [hi]
  · have : x.testBit i = false := Nat.testBit_lt_two_pow (Nat.lt_of_lt_of_le (show x < 2 ^ 8 from h) (Nat.pow_le_pow_right (by decide) (by omega)))
    simp [hi, this]
theorem rBits_id {old x : Nat} (down : Bool) (h : old < 256) (hx : x < 256) : rBits old x 0 down = old := by
  unfold rBits
  split
  · unfold pUp; rw [show 255 - 0 = 255 from rfl, or255 hx, and255 h]
  · unfold eUp; rw [Nat.or_zero]
theorem set_getD (l : List Nat) (i : Nat) : l.set i (l.getD i 0) = l := by
  by_cases hi : i < l.length
  · rw [List.getD_eq_getElem?_getD, List.getElem?_eq_getElem hi]
    exact List.set_getElem_self ..
  · exact List.set_eq_of_length_le (by omega)
abbrev rUpd (lb : List Nat) (down : Bool) : Nat → Nat → Nat → Nat := fun i m old => rBits old (lb.getD i 0) m down
theorem rRow_step (lb : List Nat) (down : Bool) (whole mask p : Nat) (l : List Nat) : ∀ j, rRow lb down false whole mask p l j = stepRow (rUpd lb down) p l j
  | 0 => rfl
  | j + 1 => by rw [rRow, stepRow, rRow_step lb down whole mask p l j]; rfl
theorem rRow_pre (lb : List Nat) (down : Bool) (whole mask p : Nat) (l : List Nat) : ∀ j, j ≤ whole → rRow lb down true whole mask p l j = stepRow (rUpd lb down) p l j
  | 0, _ => rfl
  | j + 1, h => by
    rw [rRow, stepRow, rRow_pre lb down whole mask p l j (by omega)]
    have : rMask true whole mask j = 255 := by unfold rMask; rw [if_pos rfl, if_neg (by omega), if_neg (by omega)]
    rw [this]
theorem rRow_post {lb : List Nat} (down : Bool) (whole : Nat) {mask : Nat} (p : Nat) {l : List Nat} (h : ∀ x ∈ l, x < 256) (hb : ∀ x ∈ lb, x < 256) (hm : mask < 256) :
    ∀ k, rRow lb down true whole mask p l (whole + 1 + k) = (stepRow (rUpd lb down) p l whole).set (p + whole) (rUpd lb down whole mask ((stepRow (rUpd lb down) p l whole).getD (p + whole) 0))
  | 0 => by
    rw [Nat.add_zero, rRow, rRow_pre lb down whole mask p l whole (Nat.le_refl _)]
    have : rMask true whole mask whole = mask := by unfold rMask; rw [if_pos rfl, if_pos rfl]
    rw [this]
  | k + 1 => by
    rw [← Nat.add_assoc, rRow]
    have : rMask true whole mask (whole + 1 + k) = 0 := by unfold rMask; rw [if_pos rfl, if_neg (by omega), if_pos (by omega)]
    rw [this, rBits_id down (getD_lt (rRow_lt h hm _) _) (getD_lt hb _), set_getD]
    exact rRow_post down whole p h hb hm k
theorem rRow_cut {lb : List Nat} (down : Bool) (whole : Nat) {mask : Nat} (p : Nat) {l : List Nat} (h : ∀ x ∈ l, x < 256) (hb : ∀ x ∈ lb, x < 256) (hm : mask < 256) (n : Nat) :
    rRow lb down true whole mask p l n = cutRow (rUpd lb down) p l n whole mask := by
  unfold cutRow
  split
  · rename_i hlt
    rw [show n = whole + 1 + (n - whole - 1) by omega]
    exact rRow_post down whole p h hb hm _
  · exact rRow_pre lb down whole mask p l n (by omega)
/-- A byte of what is to be done. -/
theorem Byt.at1 {w : World} {A : Option Addr} {n cap : Nat} {l : List Nat} (h : Byt w (.slice A n cap) l) (hp : 0 < l.length) :
    ∃ b off, A = some ⟨b, off, none⟩ ∧ b < w.heap.size ∧ ∀ j x, l[j]? = some x → w.cell? ⟨b, off + j, none⟩ = some (bv x) := by
  obtain ⟨b, off, hA, hb, hx⟩ := Byt.cell h hp
  refine ⟨b, off, hA, hb, fun j x hj => ?_⟩
  have := hx j (bv x) (by rw [List.getElem?_map, hj]; rfl)
  rwa [Addr.add_lit] at this
/-- An act under way. -/
structure ActSt (w : World) (D Zc : Array Value) (row : List Nat) (junk : List Value) (W : World) : Prop where
  hd : W.heap[w.heap.size]? = some (Obj.cells D 33 (0, 0))
  hz : W.heap[w.heap.size + 1]? = some (Obj.cells Zc 33 (0, 0))
  hl : W.heap[w.heap.size + 1 + 1 + 1]? = some (Obj.cells (row.map bv ++ junk).toArray 5 (0, 0))
  below : Below w.heap.size w W
theorem ActSt.start (w : World) (D Zc E : Array Value) (row : List Nat) (junk : List Value) : ActSt w D Zc row junk ((((w.alloc (.cells D 33)).alloc (.cells Zc 33)).alloc (.cells E 5)).alloc (.cells (row.map bv ++ junk).toArray 5)).drew :=
  ⟨blk_old (blk_old (blk_old (blk_new w _))), blk_old (blk_old (blk_new1 w _ _)), blk_new3 w _ _ _ _, Base.dr (Base.al (Base.al (Base.al (Base.al (Below.refl _ _) _) _) _) _)⟩
theorem ActSt.set {w W : World} {D Zc : Array Value} {row : List Nat} {junk : List Value} (h : ActSt w D Zc row junk W) (i x : Nat) (hi : i < row.length) : ActSt w D Zc (row.set i x) junk (W.setCell ⟨w.heap.size + 1 + 1 + 1, i, none⟩ (bv x)).drew := by
  refine ⟨blk_set h.hd _ _ (by show _ ≠ _ + 1 + 1 + 1; omega), blk_set h.hz _ _ (by show _ ≠ _ + 1 + 1 + 1; omega), ?_, ?_⟩
  · have := heap_setCell h.hl i (bv x)
    refine Eq.trans this ?_
    congr 2
    apply Array.ext'
    simp only [Array.toList_setIfInBounds]
    rw [List.set_append_left _ _ (by rw [List.length_map]; exact hi), List.map_set]
  · exact Base.dr (h.below.trans ⟨rfl, rfl, rfl, by simp [World.setCell], fun k hk => Below.heap_setCell _ _ _ _ (by show k ≠ w.heap.size + 1 + 1 + 1; omega)⟩)
theorem ActSt.end {w W : World} {D Zc : Array Value} {row : List Nat} {junk : List Value} (h : ActSt w D Zc row junk W) (V : Value) (E C : Array Value) :
    ActSt w (D.setIfInBounds 2 V) Zc row junk (((W.setCell ⟨w.heap.size, 2, none⟩ V).alloc (.cells E 38)).alloc (.cells C 38)).drew ∧
    (((W.setCell ⟨w.heap.size, 2, none⟩ V).alloc (.cells E 38)).alloc (.cells C 38)).drew.heap[W.heap.size + 1]? = some (Obj.cells C 38 (0, 0)) := by
  have hb : Below w.heap.size w (W.setCell ⟨w.heap.size, 2, none⟩ V) := h.below.trans ⟨rfl, rfl, rfl, by simp [World.setCell], fun k hk => Below.heap_setCell _ _ _ _ (by show k ≠ w.heap.size; omega)⟩
  refine ⟨⟨blk_old (blk_old (heap_setCell h.hd 2 V)), blk_old (blk_old (blk_set h.hz _ _ (by show _ + 1 ≠ _; omega))), blk_old (blk_old (blk_set h.hl _ _ (by show _ + 1 + 1 + 1 ≠ _; omega))), Base.dr (Base.al (Base.al hb _) _)⟩, ?_⟩
  have := blk_new1 (W.setCell ⟨w.heap.size, 2, none⟩ V) (.cells E 38) (.cells C 38)
  rwa [show (W.setCell ⟨w.heap.size, 2, none⟩ V).heap.size = W.heap.size by simp [World.setCell]] at this
theorem ActSt.size {w W : World} {D Zc : Array Value} {row : List Nat} {junk : List Value} (h : ActSt w D Zc row junk W) : w.heap.size + 1 + 1 + 1 < W.heap.size := (Array.getElem?_eq_some_iff.1 h.hl).1
theorem ActSt.below' {w W W' : World} {D Zc : Array Value} {row : List Nat} {junk : List Value} (h : ActSt w D Zc row junk W) (hb : Below W.heap.size W W') : ActSt w D Zc row junk W' :=
  ⟨blk_below h.hd hb, blk_below h.hz hb, blk_below h.hl hb, Base.tr h.below hb⟩
theorem byt_blk {W : World} {g cap : Nat} {row : List Nat} {junk : List Value} (h : W.heap[g]? = some (Obj.cells (row.map bv ++ junk).toArray 5 (0, 0))) (hc : row.length ≤ cap) (hm : cap ≤ maxLen) : Byt W (.slice (some ⟨g, 0, none⟩) row.length cap) row := by
  have := Sl.of_blk h (xs := row.map bv) (n := row.length) (List.take_left' (by simp)) (by simp) hc hm
  rw [List.map_map] at this
  exact this
/-- The reference's device behind an act. -/
theorem RefR.act' {O : Nat → Prop} {w W : World} {R R' : RV} {N N' : Nor} (h : RefR O w R N) (lim : ∀ k, O k → k < w.heap.size) (hb : Below w.heap.size w W) {g cp2 L cp s : Nat} {C : List Value} {row : List Nat} {junk : List Value}
    (hg : W.heap[g]? = some (Obj.cells C.toArray 38 (0, 0))) (hC : C.take N.S = R.rows.set s (.slice (some ⟨L, 0, none⟩) N.Z cp)) (n1 : w.heap.size ≤ g) (hc : N.S ≤ cp2) (hm : cp2 ≤ maxLen)
    (hL : W.heap[L]? = some (Obj.cells (row.map bv ++ junk).toArray 5 (0, 0))) (n2 : w.heap.size ≤ L) (hrl : row.length = N.Z) (hr8 : ∀ x ∈ row, x < 256) (hcp : N.Z ≤ cp) (hcm : cp ≤ maxLen) (hs : s < N.S)
    (hR : R' = { R with dA := some ⟨g, 0, none⟩, dc := cp2, rows := R.rows.set s (.slice (some ⟨L, 0, none⟩) N.Z cp), left := R'.left })
    (hN : N' = { N with off := N'.off, offs := N'.offs, acts := N'.acts, cut := N'.cut, data := N.data.set s row })
    (hcut : ∀ c, N'.cut = some c → R'.left = c.1 ∧ R.whole = c.2.1 ∧ R.mask = c.2.2) : RefR O W R' N' := by
  have hw := h.below hb
  rw [hR, hN]
  rw [hR, hN] at hcut
  refine { cut := hcut, data := ?_, dfar := far_new lim n1 _ _ _, len := by rw [List.length_set]; exact h.len, row := ?_, wear := hw.wear, wfar := h.wfar, bad := hw.bad, bfar := h.bfar, dl := by rw [List.length_set]; exact h.dl, wl := h.wl, all := ?_, geo := h.geo, badn := h.badn }
  · exact Sl.of_blk hg hC (by rw [List.length_set]; exact h.len) hc hm
  · intro i r l hr hl
    simp only [List.getElem?_set] at hr hl
    by_cases he : s = i
    · subst he
      rw [if_pos rfl, if_pos (by rw [h.len]; exact hs)] at hr
      rw [if_pos rfl, if_pos (by rw [h.dl]; exact hs)] at hl
      injection hr with hr
      injection hl with hl
      subst hr; subst hl
      have := byt_blk hL (by omega) hcm
      rw [hrl] at this
      exact ⟨this, far_new lim n2 _ _ _, _, _, _, rfl⟩
    · rw [if_neg he] at hr hl
      exact hw.row i r l hr hl
  · intro l hl
    rcases List.mem_or_eq_of_mem_set hl with h1 | h1
    · exact h.all l h1
    · subst h1; exact ⟨hrl, hr8⟩
theorem info_u8E : (Tryz.prog.info? 5).map (fun i => (i.zero, i.size, i.bytes)) = some (some (.int .u8 0), 1, 1) := by kernel_rfl
theorem rRow_next {lb : List Nat} {down c : Bool} {whole mask p : Nat} {l : List Nat} {j x m old : Nat} (hx : lb[j]? = some x) (hm : rMask c whole mask j = m) (ho : (rRow lb down c whole mask p l j).getD (p + j) 0 = old) :
    rRow lb down c whole mask p l (j + 1) = (rRow lb down c whole mask p l j).set (p + j) (rBits old x m down) := by
  rw [rRow, hm, ho, List.getD_eq_getElem?_getD, hx]; rfl
set_option maxHeartbeats 3000000 in
set_option maxRecDepth 100000 in
theorem ract_any {O : Nat → Prop} {w : World} {R : RV} {N : Nor} (h : RefR O w R N) (lim : ∀ k, O k → k < w.heap.size) (hon : N.off = false) (h1 : N.acts ≤ 1000000) (h2 : N.offs ≤ 1000000) (s p : Nat) (hs : s < N.S) (A : Option Addr) (n cap : Nat) (lb : List Nat) (hy : Byt w (.slice A n cap) lb) (hl8 : ∀ x ∈ lb, x < 256) (hz : p + lb.length ≤ N.Z) (down : Bool) (hm8 : R.mask < 256) (hcm3 : R.left ≤ 9223372036854775807) :
    Calls Tryz.prog 29 #[R.val N, i64 s, i64 p, .slice A n cap, .bool down] w fun e w' => ∃ R', e = .returned (.tuple #[i64 (N.act s p n (rUpd lb down)).1, R'.val (N.act s p n (rUpd lb down)).2]) ∧ RefR O w' R' (N.act s p n (rUpd lb down)).2 ∧ Below w.heap.size w w' ∧ R'.mask = R.mask ∧ R'.left ≤ R.left := by
  have hg := geoB_yes h.geo
  have hn := hy.len
  rw [List.length_map] at hn
  subst hn
  have hsd : s < N.data.length := by rw [h.dl]; exact hs
  obtain ⟨l, hl⟩ : ∃ l, N.data[s]? = some l := ⟨_, List.getElem?_eq_getElem hsd⟩
  have hsr : s < R.rows.length := by rw [h.len]; exact hs
  obtain ⟨r, hr⟩ : ∃ r, R.rows[s]? = some r := ⟨_, List.getElem?_eq_getElem hsr⟩
  obtain ⟨hby, hfar, ad, rn, rc, rfl⟩ := h.row s r l hr hl
  have hll : l.length = N.Z := (h.all _ (List.mem_of_getElem? hl)).1
  have hl256 := (h.all _ (List.mem_of_getElem? hl)).2
  have hrn := hby.len
  rw [List.length_map] at hrn
  subst hrn
  obtain ⟨db, doff, hdA, hdb, hdx⟩ := h.data.at (by omega)
  have hcr : ∀ W, Below w.heap.size w W → W.cell? ⟨db, doff + s, none⟩ = some (.slice (some ad) l.length rc) := by
    intro W hW
    rw [hW.cell hdb]
    have := (hdx s [.slice (some ad) l.length rc] (by rw [List.getElem?_map, hr]; rfl)).2 0 _ rfl
    simpa using this
  obtain ⟨i1, hi, hz0, hz1, hz2⟩ := info_parts info_u8E
  have hsrc : ∀ W, Below w.heap.size w W → ∀ j u, (l.map bv)[j]? = some u → W.cell? (ad.add j) = some u := by
    intro W hW j u hj
    have := Sl.src1 (w := W) (ad := ad) (n := l.length) (cap := rc) (xs := l.map bv) (by have := Sl.below hby hW; rw [List.map_map]; exact this) j u hj
    exact this
  have hdata := h.data
  rw [hdA] at hdata
  unfold RV.val RV.cells
  rw [hdA]
  have hc0 : ∀ X Y Z, (((w.alloc X).alloc Y).alloc Z).cell? ⟨db, doff + s, none⟩ = some (.slice (some ad) l.length rc) := fun X Y Z => hcr _ (Base.al (Base.al (Base.al (Below.refl _ _) X) Y) Z)
  have hgd : N.data.getD s [] = l := by rw [List.getD_eq_getElem?_getD, hl]; rfl
  cases hcs : N.cut with
  | none =>
    simp only [Option.isSome_none]
    have hv : N.act s p lb.length (rUpd lb down) = (0, { N with acts := N.acts + 1, data := N.data.set s (rRow lb down false R.whole R.mask p l lb.length) }) := by unfold Nor.act; rw [hcs, hgd, rRow_step]
    have HV := Lib.hid hv
    clear hv
    go_enter Tryz.func29, Tryz.ntmps29
    go_wp2_with (at_builtin; refine wpList_append_fresh _ rfl _ _ 38 rfl 5 i1 _ Tryz.underlying38 hi hz0 hz1 ?c2 ⟨w.heap.size + 1 + 1, 0, none⟩ rfl ad N.Z rc (l.map bv) rfl ?c0 ?c1 ?c3 ?c4 ?_)
    case c2 => omega
    case c0 => simp [hll]
    case c1 => omega
    case c3 => omega
    case c4 => exact hsrc _ (Base.al (Base.al (Base.al (Below.refl _ _) _) _) _)
    intro cp junk hcp hcm
    go_wp2_with fail
    have st0 : Hid (ActSt w #[i64 N.S, i64 N.Z, .slice (some ⟨db, doff, none⟩) N.S R.dc, .slice R.wA N.S R.wc, .slice R.bA N.S R.bc, .bool false, i64 N.offs, .int .i64 ((N.acts : Int) + 1), .bool false, i64 R.left, i64 R.whole, .int .u8 R.mask] #[.int .i64 0, .int .i64 0, .slice none 0 0, .slice none 0 0, .slice none 0 0, .bool false, .int .i64 0, .int .i64 0, .bool false, .int .i64 0, .int .i64 0, .int .u8 0] (rRow lb down false R.whole R.mask p l 0) junk _) := Lib.hid (ActSt.start w _ _ #[] l junk)
    generalize ((((w.alloc _).alloc _).alloc _).alloc _).drew = w4 at *
    clear hc0 hsrc hcr
    go_loopw [14, 15, 49] (fun _ _ i wr => ∃ j : Nat, j ≤ lb.length ∧ i = .int .i64 j ∧ Hid (ActSt w #[i64 N.S, i64 N.Z, .slice (some ⟨db, doff, none⟩) N.S R.dc, .slice R.wA N.S R.wc, .slice R.bA N.S R.bc, .bool false, i64 N.offs, .int .i64 ((N.acts : Int) + 1), .bool false, i64 R.left, i64 R.whole, .int .u8 R.mask] #[.int .i64 0, .int .i64 0, .slice none 0 0, .slice none 0 0, .slice none 0 0, .bool false, .int .i64 0, .int .i64 0, .bool false, .int .i64 0, .int .i64 0, .int .u8 0] (rRow lb down false R.whole R.mask p l j) junk wr)) (fun _ _ i _ => lb.length - (intOf i).toNat)
    case atStart => exact ⟨0, Nat.zero_le _, rfl, st0⟩
    case round =>
      obtain ⟨j, hj, rfl, st⟩ := hrel
      clear st0
      have hrl := rRow_len lb down false R.whole R.mask p l j
      by_cases hlt : j < lb.length
      · obtain ⟨bb, bo, rfl, hbb, hbx⟩ := Byt.at1 (Sl.below hy st.out.below) (by omega)
        obtain ⟨x, hx⟩ : ∃ x, lb[j]? = some x := ⟨_, List.getElem?_eq_getElem hlt⟩
        have hcx := hbx j _ hx
        obtain ⟨old, hold⟩ : ∃ old, (rRow lb down false R.whole R.mask p l j).getD (p + j) 0 = old := ⟨_, rfl⟩
        have hold8 : old < 256 := by rw [← hold]; exact getD_lt (rRow_lt hl256 hm8 j) _
        have hpr : p + j < (rRow lb down false R.whole R.mask p l j).length := by omega
        have hco : wr.cell? ⟨w.heap.size + 1 + 1 + 1, p + j, none⟩ = some (bv old) := by
          rw [cell_blk st.out.hl, List.getElem?_toArray, List.getElem?_append_left (by rw [List.length_map]; exact hpr), List.getElem?_map, ← hold, List.getD_eq_getElem?_getD, List.getElem?_eq_getElem hpr]; rfl
        have hfz := frozen_blk st.out.hl (p + j)
        have z1 : w.heap.size + 1 + 1 + 1 < wr.heap.size := (Array.getElem?_eq_some_iff.1 st.out.hl).1
        have q1 := fun q => on_cell (w := wr) z1 hco q
        have q2 := fun q => on_cell (w := wr) hbb hcx q
        have kw : IntKind.i64.wrap ((p : Int) + (j : Int)) = (p : Int) + (j : Int) := by rw [IntKind.wrap_i64]; omega
        have hpz : p + j < N.Z := by omega
        have kx : (p : Int) + (j : Int) < (N.Z : Int) := by omega
        have k0 : (0 : Int) ≤ (p : Int) + (j : Int) := by omega
        have kt : ((p : Int) + (j : Int)).toNat = p + j := by omega
        have fd := cell_blk st.out.hd
        have f10 : wr.cell? ⟨w.heap.size, 10, none⟩ = some (i64 R.whole) := fd 10
        have f11 : wr.cell? ⟨w.heap.size, 11, none⟩ = some (.int .u8 R.mask) := fd 11
        clear fd hbx
        have G : ∀ W, Hid (Gives 55 #[.int .u8 old, .int .u8 x, .int .u8 255, .bool down] W (.int .u8 (rBits old x 255 down))) := fun W => Lib.hid (rbits_any old x 255 down W hold8 (by decide))
        have HST := Lib.hid (st.out.set (p + j) (rBits old x 255 down) hpr)
        rw [← rRow_next (lb := lb) (down := down) (c := false) (whole := R.whole) (mask := R.mask) (m := 255) hx (rfl) hold] at HST
        go_wp2_with fail
        refine wp_region_ph (D := fun w' => ∃ p : OnOf _, w' = p.v) 18 [] (by kernel_rfl) (by kernel_rfl) ⟨⟨_, Base.dr (Below.refl _ _)⟩, rfl⟩ ?_
        simp only [List.take_succ_cons, List.take_zero, List.drop_succ_cons, List.drop_zero]
        have on0 := @on_rd0; have on1 := @on_rd1; have on2 := @on_rd2; have on3 := @on_new1; have on4 := @on_new2
        repeat (first | ((with_reducible refine head_quiet ?_ ?_); (focus rfl); (intro K hK); go_simp; first | ((with_reducible refine hK _ ?_); clear hK K) | (rw [if_neg (by intro h; cases h)]; (with_reducible refine hK _ ?_); clear hK K) | (apply Exists.intro; refine ⟨fun _ => ?_, hK _ ?_⟩; ((with_reducible exact (G _).out)); clear hK K)))
        clear on0 on1 on2 on3 on4
        with_reducible refine head_nil ?_
        rintro _ rfl
        clear q1 q2 G st
        go_wp2_with fail
        exact ⟨⟨j + 1, by omega, by go_num, HST⟩, by simp [intOf]; omega⟩
      · obtain rfl : j = lb.length := by omega
        have fd := cell_blk st.out.hd
        have f2 : wr.cell? ⟨w.heap.size, 2, none⟩ = some (.slice (some ⟨db, doff, none⟩) N.S R.dc) := fd 2
        have zf := frozen_blk st.out.hd 2
        have z0 : w.heap.size < wr.heap.size := (Array.getElem?_eq_some_iff.1 st.out.hd).1
        clear fd
        obtain ⟨i2, hi', hz0', hz1', hz2'⟩ := info_parts info_bytesE
        go_wp2_with (at_builtin; refine wpList_append_fresh _ rfl _ _ 29 rfl 38 i2 _ Tryz.underlying29 hi' hz0' hz1' ?d2 ⟨wr.heap.size, 0, none⟩ rfl ⟨db, doff, none⟩ N.S R.dc R.rows rfl ?d0 ?d1 ?d3 ?d4 ?_)
        case d2 => omega
        case d0 => exact h.len
        case d1 => omega
        case d3 => omega
        case d4 => exact Sl.src1 (Sl.below hdata (Base.al st.out.below _))
        intro cp2 junk2 hcp2 hcm2
        obtain ⟨C, hC⟩ : ∃ C, R.rows ++ junk2 = C := ⟨_, rfl⟩
        rw [hC]
        have hCt : C.take N.S = R.rows := by rw [← hC]; exact List.take_left' h.len
        have hck : C[s]? = some (.slice (some ad) N.Z rc) := by rw [← hC, List.getElem?_append_left hsr, ← hll]; exact hr
        have HCT := Lib.hid hCt
        clear hC hCt
        go_wp2_with fail
        have st6 := st.out.size
        have b4s := st.out.below.size
        obtain ⟨en, hgC⟩ := st.out.end (.slice (some ⟨wr.heap.size + 1, 0, none⟩) N.S cp2) #[] (C.set s (.slice (some ⟨w.heap.size + 1 + 1 + 1, 0, none⟩) N.Z cp)).toArray
        have EN := Lib.hid (And.intro en hgC)
        have fd := cell_blk en.hd
        have zd : w.heap.size < _ := (Array.getElem?_eq_some_iff.1 en.hd).1
        have zz : w.heap.size + 1 < _ := (Array.getElem?_eq_some_iff.1 en.hz).1
        have fy := cell_blk en.hz
        have zy := fun i => frozen_blk en.hz i
        clear en hgC st f2 zf z0 hi' hz0' hz1' hz2' hi hz0 hz1 hz2 hck
        generalize (((wr.setCell _ _).alloc _).alloc _).drew = w5 at *
        have g0 := fd 0
        have y0 := fy 0
        have g1 := fd 1
        have y1 := fy 1
        have g2 := fd 2
        have y2 := fy 2
        have g3 := fd 3
        have y3 := fy 3
        have g4 := fd 4
        have y4 := fy 4
        have g5 := fd 5
        have y5 := fy 5
        have g6 := fd 6
        have y6 := fy 6
        have g7 := fd 7
        have y7 := fy 7
        have g8 := fd 8
        have y8 := fy 8
        have g9 := fd 9
        have y9 := fy 9
        have g10 := fd 10
        have y10 := fy 10
        have g11 := fd 11
        have y11 := fy 11
        simp at g0 g1 g2 g3 g4 g5 g6 g7 g8 g9 g10 g11 y0 y1 y2 y3 y4 y5 y6 y7 y8 y9 y10 y11
        clear fd fy
        have q0 := fun q => on_cell (w := w5) zd g0 q
        have q1 := fun q => on_cell (w := w5) zd g1 q
        have q2 := fun q => on_cell (w := w5) zd g2 q
        have q3 := fun q => on_cell (w := w5) zd g3 q
        have q4 := fun q => on_cell (w := w5) zd g4 q
        have q5 := fun q => on_cell (w := w5) zd g5 q
        have q6 := fun q => on_cell (w := w5) zd g6 q
        have q7 := fun q => on_cell (w := w5) zd g7 q
        have q8 := fun q => on_cell (w := w5) zd g8 q
        have q9 := fun q => on_cell (w := w5) zd g9 q
        have q10 := fun q => on_cell (w := w5) zd g10 q
        have q11 := fun q => on_cell (w := w5) zd g11 q
        refine wp_region_ph (D := fun w' => ∃ p : OnOf _, w' = p.v) 2 [] (by kernel_rfl) (by kernel_rfl) ⟨⟨_, Base.dr (Below.refl _ _)⟩, rfl⟩ ?_
        simp only [List.take_succ_cons, List.take_zero, List.drop_succ_cons, List.drop_zero]
        have on0 := @on_rd0; have on1 := @on_rd1; have on2 := @on_rd2; have on3 := @on_new1; have on4 := @on_new2
        repeat (first | ((with_reducible refine head_quiet ?_ ?_); (focus rfl); (intro K hK); go_simp; first | ((with_reducible refine hK _ ?_); clear hK K) | (rw [if_neg (by intro h; cases h)]; (with_reducible refine hK _ ?_); clear hK K) | (apply Exists.intro; refine ⟨fun _ => ?_, hK _ ?_⟩; (fail); clear hK K)))
        clear on0 on1 on2 on3 on4
        with_reducible refine head_nil ?_
        rintro _ rfl
        clear q0 q1 q2 q3 q4 q5 q6 q7 q8 q9 q10 q11
        go_wp2_with fail
        have hs12 : ((((((((((((w5.setCell ⟨w.heap.size + 1, 0, none⟩ (i64 N.S)).setCell ⟨w.heap.size + 1, 1, none⟩ (i64 N.Z)).setCell ⟨w.heap.size + 1, 2, none⟩ (.slice (some ⟨wr.heap.size + 1, 0, none⟩) N.S cp2)).setCell ⟨w.heap.size + 1, 3, none⟩ (.slice R.wA N.S R.wc)).setCell ⟨w.heap.size + 1, 4, none⟩ (.slice R.bA N.S R.bc)).setCell ⟨w.heap.size + 1, 5, none⟩ (.bool false)).setCell ⟨w.heap.size + 1, 6, none⟩ (i64 N.offs)).setCell ⟨w.heap.size + 1, 7, none⟩ (.int .i64 ((N.acts : Int) + 1))).setCell ⟨w.heap.size + 1, 8, none⟩ (.bool false)).setCell ⟨w.heap.size + 1, 9, none⟩ (i64 R.left)).setCell ⟨w.heap.size + 1, 10, none⟩ (i64 R.whole)).setCell ⟨w.heap.size + 1, 11, none⟩ (.int .u8 R.mask)) = sets w5 (w.heap.size + 1) 0 [i64 N.S, i64 N.Z, .slice (some ⟨wr.heap.size + 1, 0, none⟩) N.S cp2, .slice R.wA N.S R.wc, .slice R.bA N.S R.bc, .bool false, i64 N.offs, .int .i64 ((N.acts : Int) + 1), .bool false, i64 R.left, i64 R.whole, .int .u8 R.mask] := rfl
        rw [hs12]
        have e12 := sets_at EN.out.1.hz [i64 N.S, i64 N.Z, .slice (some ⟨wr.heap.size + 1, 0, none⟩) N.S cp2, .slice R.wA N.S R.wc, .slice R.bA N.S R.bc, .bool false, i64 N.offs, .int .i64 ((N.acts : Int) + 1), .bool false, i64 R.left, i64 R.whole, .int .u8 R.mask] rfl
        have b12 := sets_below (Nat.le_succ _) [i64 N.S, i64 N.Z, .slice (some ⟨wr.heap.size + 1, 0, none⟩) N.S cp2, .slice R.wA N.S R.wc, .slice R.bA N.S R.bc, .bool false, i64 N.offs, .int .i64 ((N.acts : Int) + 1), .bool false, i64 R.left, i64 R.whole, .int .u8 R.mask] _ 0 EN.out.1.below
        have c12 := sets_old (g := w.heap.size + 1) (by have := st6; omega) [i64 N.S, i64 N.Z, .slice (some ⟨wr.heap.size + 1, 0, none⟩) N.S cp2, .slice R.wA N.S R.wc, .slice R.bA N.S R.bc, .bool false, i64 N.offs, .int .i64 ((N.acts : Int) + 1), .bool false, i64 R.left, i64 R.whole, .int .u8 R.mask] _ 0 EN.out.2
        have l12 := sets_old (g := w.heap.size + 1) (by omega) [i64 N.S, i64 N.Z, .slice (some ⟨wr.heap.size + 1, 0, none⟩) N.S cp2, .slice R.wA N.S R.wc, .slice R.bA N.S R.bc, .bool false, i64 N.offs, .int .i64 ((N.acts : Int) + 1), .bool false, i64 R.left, i64 R.whole, .int .u8 R.mask] _ 0 EN.out.1.hl
        clear hs12
        generalize sets w5 (w.heap.size + 1) 0 [i64 N.S, i64 N.Z, .slice (some ⟨wr.heap.size + 1, 0, none⟩) N.S cp2, .slice R.wA N.S R.wc, .slice R.bA N.S R.bc, .bool false, i64 N.offs, .int .i64 ((N.acts : Int) + 1), .bool false, i64 R.left, i64 R.whole, .int .u8 R.mask] = w6 at *
        have e := cell_blk e12
        clear g0 g1 g2 g3 g4 g5 g6 g7 g8 g9 g10 g11 y0 y1 y2 y3 y4 y5 y6 y7 y8 y9 y10 y11 zd zz zy
        have e0 : w6.cell? ⟨w.heap.size + 1, 0, none⟩ = some (i64 N.S) := e 0
        have e1 : w6.cell? ⟨w.heap.size + 1, 1, none⟩ = some (i64 N.Z) := e 1
        have e2 : w6.cell? ⟨w.heap.size + 1, 2, none⟩ = some (.slice (some ⟨wr.heap.size + 1, 0, none⟩) N.S cp2) := e 2
        have e3 : w6.cell? ⟨w.heap.size + 1, 3, none⟩ = some (.slice R.wA N.S R.wc) := e 3
        have e4 : w6.cell? ⟨w.heap.size + 1, 4, none⟩ = some (.slice R.bA N.S R.bc) := e 4
        have e5 : w6.cell? ⟨w.heap.size + 1, 5, none⟩ = some (.bool false) := e 5
        have e6 : w6.cell? ⟨w.heap.size + 1, 6, none⟩ = some (i64 N.offs) := e 6
        have e7 : w6.cell? ⟨w.heap.size + 1, 7, none⟩ = some (.int .i64 ((N.acts : Int) + 1)) := e 7
        have e8 : w6.cell? ⟨w.heap.size + 1, 8, none⟩ = some (.bool false) := e 8
        have e9 : w6.cell? ⟨w.heap.size + 1, 9, none⟩ = some (i64 R.left) := e 9
        have e10 : w6.cell? ⟨w.heap.size + 1, 10, none⟩ = some (i64 R.whole) := e 10
        have e11 : w6.cell? ⟨w.heap.size + 1, 11, none⟩ = some (.int .u8 R.mask) := e 11
        refine bodyPost_ret (v := .tuple #[i64 0, .agg #[i64 N.S, i64 N.Z, .slice (some ⟨wr.heap.size + 1, 0, none⟩) N.S cp2, .slice R.wA N.S R.wc, .slice R.bA N.S R.bc, .bool false, i64 N.offs, .int .i64 ((N.acts : Int) + 1), .bool false, i64 R.left, i64 R.whole, .int .u8 R.mask]]) (by simp [results, Tryz.results29, go_sem, e0, e1, e2, e3, e4, e5, e6, e7, e8, e9, e10, e11]) rfl ⟨{ R with dA := some ⟨wr.heap.size + 1, 0, none⟩, dc := cp2, rows := R.rows.set s (.slice (some ⟨w.heap.size + 1 + 1 + 1, 0, none⟩) N.Z cp), left := R.left }, ?_, ?_, ?_, rfl, by show R.left ≤ R.left; omega⟩
        · rw [HV.out]; simp only [RV.val, RV.cells]; rw [hon, hcs]; rfl
        · rw [HV.out]
          refine RefR.act' h lim (Base.dr b12) c12 (by rw [List.take_set, HCT.out]) (by have := b4s; omega) hcp2 hcm2 l12 (by omega) (by rw [rRow_len]; exact hll) (rRow_lt hl256 hm8 _) hcp hcm hs rfl rfl ?_
          intro c hc; rw [hcs] at hc; cases hc
        · exact Base.dr b12
  | some c =>
    obtain ⟨c, b, m⟩ := c
    obtain ⟨e1, e2, e3⟩ := h.cut _ hcs
    simp only [] at e1 e2 e3
    subst e1; subst e2; subst e3
    simp only [Option.isSome_some]
    by_cases hpos : 0 < R.left
    · obtain ⟨k, hk⟩ : ∃ k, R.left = k + 1 := ⟨R.left - 1, by omega⟩
      have hk3 : R.left ≤ 9223372036854775807 := hcm3
      have hv : N.act s p lb.length (rUpd lb down) = (0, { N with acts := N.acts + 1, cut := some (k, R.whole, R.mask), data := N.data.set s (rRow lb down false R.whole R.mask p l lb.length) }) := by
        unfold Nor.act
        rw [hcs, hgd, rRow_step]
        simp only []
        rw [if_pos (by omega), show R.left - 1 = k by omega]
      have HV := Lib.hid hv
      have hw : wrap64 ((R.left : Int) - 1) = (k : Int) := by unfold wrap64; omega
      have hq0 : ((R.left : Int) == 0) = false := by rw [beq_eq_false_iff_ne]; omega
      have hq1 : decide ((0 : Int) < (R.left : Int)) = true := by rw [decide_eq_true_eq]; omega
      clear hv hk3
      go_enter Tryz.func29, Tryz.ntmps29
      go_wp2_with (at_builtin; refine wpList_append_fresh _ rfl _ _ 38 rfl 5 i1 _ Tryz.underlying38 hi hz0 hz1 ?c2 ⟨w.heap.size + 1 + 1, 0, none⟩ rfl ad N.Z rc (l.map bv) rfl ?c0 ?c1 ?c3 ?c4 ?_)
      case c2 => omega
      case c0 => simp [hll]
      case c1 => omega
      case c3 => omega
      case c4 => exact hsrc _ (Base.al (Base.al (Base.al (Below.refl _ _) _) _) _)
      intro cp junk hcp hcm
      go_wp2_with fail
      have st0 : Hid (ActSt w #[i64 N.S, i64 N.Z, .slice (some ⟨db, doff, none⟩) N.S R.dc, .slice R.wA N.S R.wc, .slice R.bA N.S R.bc, .bool false, i64 N.offs, .int .i64 ((N.acts : Int) + 1), .bool true, i64 k, i64 R.whole, .int .u8 R.mask] #[.int .i64 0, .int .i64 0, .slice none 0 0, .slice none 0 0, .slice none 0 0, .bool false, .int .i64 0, .int .i64 0, .bool false, .int .i64 0, .int .i64 0, .int .u8 0] (rRow lb down false R.whole R.mask p l 0) junk _) := Lib.hid (ActSt.start w _ _ #[] l junk)
      generalize ((((w.alloc _).alloc _).alloc _).alloc _).drew = w4 at *
      clear hc0 hsrc hcr
      go_loopw [14, 15, 49] (fun _ _ i wr => ∃ j : Nat, j ≤ lb.length ∧ i = .int .i64 j ∧ Hid (ActSt w #[i64 N.S, i64 N.Z, .slice (some ⟨db, doff, none⟩) N.S R.dc, .slice R.wA N.S R.wc, .slice R.bA N.S R.bc, .bool false, i64 N.offs, .int .i64 ((N.acts : Int) + 1), .bool true, i64 k, i64 R.whole, .int .u8 R.mask] #[.int .i64 0, .int .i64 0, .slice none 0 0, .slice none 0 0, .slice none 0 0, .bool false, .int .i64 0, .int .i64 0, .bool false, .int .i64 0, .int .i64 0, .int .u8 0] (rRow lb down false R.whole R.mask p l j) junk wr)) (fun _ _ i _ => lb.length - (intOf i).toNat)
      case atStart => exact ⟨0, Nat.zero_le _, rfl, st0⟩
      case round =>
        obtain ⟨j, hj, rfl, st⟩ := hrel
        clear st0
        have hrl := rRow_len lb down false R.whole R.mask p l j
        by_cases hlt : j < lb.length
        · obtain ⟨bb, bo, rfl, hbb, hbx⟩ := Byt.at1 (Sl.below hy st.out.below) (by omega)
          obtain ⟨x, hx⟩ : ∃ x, lb[j]? = some x := ⟨_, List.getElem?_eq_getElem hlt⟩
          have hcx := hbx j _ hx
          obtain ⟨old, hold⟩ : ∃ old, (rRow lb down false R.whole R.mask p l j).getD (p + j) 0 = old := ⟨_, rfl⟩
          have hold8 : old < 256 := by rw [← hold]; exact getD_lt (rRow_lt hl256 hm8 j) _
          have hpr : p + j < (rRow lb down false R.whole R.mask p l j).length := by omega
          have hco : wr.cell? ⟨w.heap.size + 1 + 1 + 1, p + j, none⟩ = some (bv old) := by
            rw [cell_blk st.out.hl, List.getElem?_toArray, List.getElem?_append_left (by rw [List.length_map]; exact hpr), List.getElem?_map, ← hold, List.getD_eq_getElem?_getD, List.getElem?_eq_getElem hpr]; rfl
          have hfz := frozen_blk st.out.hl (p + j)
          have z1 : w.heap.size + 1 + 1 + 1 < wr.heap.size := (Array.getElem?_eq_some_iff.1 st.out.hl).1
          have q1 := fun q => on_cell (w := wr) z1 hco q
          have q2 := fun q => on_cell (w := wr) hbb hcx q
          have kw : IntKind.i64.wrap ((p : Int) + (j : Int)) = (p : Int) + (j : Int) := by rw [IntKind.wrap_i64]; omega
          have hpz : p + j < N.Z := by omega
          have kx : (p : Int) + (j : Int) < (N.Z : Int) := by omega
          have k0 : (0 : Int) ≤ (p : Int) + (j : Int) := by omega
          have kt : ((p : Int) + (j : Int)).toNat = p + j := by omega
          have fd := cell_blk st.out.hd
          have f10 : wr.cell? ⟨w.heap.size, 10, none⟩ = some (i64 R.whole) := fd 10
          have f11 : wr.cell? ⟨w.heap.size, 11, none⟩ = some (.int .u8 R.mask) := fd 11
          clear fd hbx
          have G : ∀ W, Hid (Gives 55 #[.int .u8 old, .int .u8 x, .int .u8 255, .bool down] W (.int .u8 (rBits old x 255 down))) := fun W => Lib.hid (rbits_any old x 255 down W hold8 (by decide))
          have HST := Lib.hid (st.out.set (p + j) (rBits old x 255 down) hpr)
          rw [← rRow_next (lb := lb) (down := down) (c := false) (whole := R.whole) (mask := R.mask) (m := 255) hx (rfl) hold] at HST
          go_wp2_with fail
          refine wp_region_ph (D := fun w' => ∃ p : OnOf _, w' = p.v) 18 [] (by kernel_rfl) (by kernel_rfl) ⟨⟨_, Base.dr (Below.refl _ _)⟩, rfl⟩ ?_
          simp only [List.take_succ_cons, List.take_zero, List.drop_succ_cons, List.drop_zero]
          have on0 := @on_rd0; have on1 := @on_rd1; have on2 := @on_rd2; have on3 := @on_new1; have on4 := @on_new2
          repeat (first | ((with_reducible refine head_quiet ?_ ?_); (focus rfl); (intro K hK); go_simp; first | ((with_reducible refine hK _ ?_); clear hK K) | (rw [if_neg (by intro h; cases h)]; (with_reducible refine hK _ ?_); clear hK K) | (apply Exists.intro; refine ⟨fun _ => ?_, hK _ ?_⟩; ((with_reducible exact (G _).out)); clear hK K)))
          clear on0 on1 on2 on3 on4
          with_reducible refine head_nil ?_
          rintro _ rfl
          clear q1 q2 G st
          go_wp2_with fail
          exact ⟨⟨j + 1, by omega, by go_num, HST⟩, by simp [intOf]; omega⟩
        · obtain rfl : j = lb.length := by omega
          have fd := cell_blk st.out.hd
          have f2 : wr.cell? ⟨w.heap.size, 2, none⟩ = some (.slice (some ⟨db, doff, none⟩) N.S R.dc) := fd 2
          have zf := frozen_blk st.out.hd 2
          have z0 : w.heap.size < wr.heap.size := (Array.getElem?_eq_some_iff.1 st.out.hd).1
          clear fd
          obtain ⟨i2, hi', hz0', hz1', hz2'⟩ := info_parts info_bytesE
          go_wp2_with (at_builtin; refine wpList_append_fresh _ rfl _ _ 29 rfl 38 i2 _ Tryz.underlying29 hi' hz0' hz1' ?d2 ⟨wr.heap.size, 0, none⟩ rfl ⟨db, doff, none⟩ N.S R.dc R.rows rfl ?d0 ?d1 ?d3 ?d4 ?_)
          case d2 => omega
          case d0 => exact h.len
          case d1 => omega
          case d3 => omega
          case d4 => exact Sl.src1 (Sl.below hdata (Base.al st.out.below _))
          intro cp2 junk2 hcp2 hcm2
          obtain ⟨C, hC⟩ : ∃ C, R.rows ++ junk2 = C := ⟨_, rfl⟩
          rw [hC]
          have hCt : C.take N.S = R.rows := by rw [← hC]; exact List.take_left' h.len
          have hck : C[s]? = some (.slice (some ad) N.Z rc) := by rw [← hC, List.getElem?_append_left hsr, ← hll]; exact hr
          have HCT := Lib.hid hCt
          clear hC hCt
          go_wp2_with fail
          have st6 := st.out.size
          have b4s := st.out.below.size
          obtain ⟨en, hgC⟩ := st.out.end (.slice (some ⟨wr.heap.size + 1, 0, none⟩) N.S cp2) #[] (C.set s (.slice (some ⟨w.heap.size + 1 + 1 + 1, 0, none⟩) N.Z cp)).toArray
          have EN := Lib.hid (And.intro en hgC)
          have fd := cell_blk en.hd
          have zd : w.heap.size < _ := (Array.getElem?_eq_some_iff.1 en.hd).1
          have zz : w.heap.size + 1 < _ := (Array.getElem?_eq_some_iff.1 en.hz).1
          have fy := cell_blk en.hz
          have zy := fun i => frozen_blk en.hz i
          clear en hgC st f2 zf z0 hi' hz0' hz1' hz2' hi hz0 hz1 hz2 hck
          generalize (((wr.setCell _ _).alloc _).alloc _).drew = w5 at *
          have g0 := fd 0
          have y0 := fy 0
          have g1 := fd 1
          have y1 := fy 1
          have g2 := fd 2
          have y2 := fy 2
          have g3 := fd 3
          have y3 := fy 3
          have g4 := fd 4
          have y4 := fy 4
          have g5 := fd 5
          have y5 := fy 5
          have g6 := fd 6
          have y6 := fy 6
          have g7 := fd 7
          have y7 := fy 7
          have g8 := fd 8
          have y8 := fy 8
          have g9 := fd 9
          have y9 := fy 9
          have g10 := fd 10
          have y10 := fy 10
          have g11 := fd 11
          have y11 := fy 11
          simp at g0 g1 g2 g3 g4 g5 g6 g7 g8 g9 g10 g11 y0 y1 y2 y3 y4 y5 y6 y7 y8 y9 y10 y11
          clear fd fy
          have q0 := fun q => on_cell (w := w5) zd g0 q
          have q1 := fun q => on_cell (w := w5) zd g1 q
          have q2 := fun q => on_cell (w := w5) zd g2 q
          have q3 := fun q => on_cell (w := w5) zd g3 q
          have q4 := fun q => on_cell (w := w5) zd g4 q
          have q5 := fun q => on_cell (w := w5) zd g5 q
          have q6 := fun q => on_cell (w := w5) zd g6 q
          have q7 := fun q => on_cell (w := w5) zd g7 q
          have q8 := fun q => on_cell (w := w5) zd g8 q
          have q9 := fun q => on_cell (w := w5) zd g9 q
          have q10 := fun q => on_cell (w := w5) zd g10 q
          have q11 := fun q => on_cell (w := w5) zd g11 q
          refine wp_region_ph (D := fun w' => ∃ p : OnOf _, w' = p.v) 2 [] (by kernel_rfl) (by kernel_rfl) ⟨⟨_, Base.dr (Below.refl _ _)⟩, rfl⟩ ?_
          simp only [List.take_succ_cons, List.take_zero, List.drop_succ_cons, List.drop_zero]
          have on0 := @on_rd0; have on1 := @on_rd1; have on2 := @on_rd2; have on3 := @on_new1; have on4 := @on_new2
          repeat (first | ((with_reducible refine head_quiet ?_ ?_); (focus rfl); (intro K hK); go_simp; first | ((with_reducible refine hK _ ?_); clear hK K) | (rw [if_neg (by intro h; cases h)]; (with_reducible refine hK _ ?_); clear hK K) | (apply Exists.intro; refine ⟨fun _ => ?_, hK _ ?_⟩; (fail); clear hK K)))
          clear on0 on1 on2 on3 on4
          with_reducible refine head_nil ?_
          rintro _ rfl
          clear q0 q1 q2 q3 q4 q5 q6 q7 q8 q9 q10 q11
          go_wp2_with fail
          have hs12 : ((((((((((((w5.setCell ⟨w.heap.size + 1, 0, none⟩ (i64 N.S)).setCell ⟨w.heap.size + 1, 1, none⟩ (i64 N.Z)).setCell ⟨w.heap.size + 1, 2, none⟩ (.slice (some ⟨wr.heap.size + 1, 0, none⟩) N.S cp2)).setCell ⟨w.heap.size + 1, 3, none⟩ (.slice R.wA N.S R.wc)).setCell ⟨w.heap.size + 1, 4, none⟩ (.slice R.bA N.S R.bc)).setCell ⟨w.heap.size + 1, 5, none⟩ (.bool false)).setCell ⟨w.heap.size + 1, 6, none⟩ (i64 N.offs)).setCell ⟨w.heap.size + 1, 7, none⟩ (.int .i64 ((N.acts : Int) + 1))).setCell ⟨w.heap.size + 1, 8, none⟩ (.bool true)).setCell ⟨w.heap.size + 1, 9, none⟩ (i64 k)).setCell ⟨w.heap.size + 1, 10, none⟩ (i64 R.whole)).setCell ⟨w.heap.size + 1, 11, none⟩ (.int .u8 R.mask)) = sets w5 (w.heap.size + 1) 0 [i64 N.S, i64 N.Z, .slice (some ⟨wr.heap.size + 1, 0, none⟩) N.S cp2, .slice R.wA N.S R.wc, .slice R.bA N.S R.bc, .bool false, i64 N.offs, .int .i64 ((N.acts : Int) + 1), .bool true, i64 k, i64 R.whole, .int .u8 R.mask] := rfl
          rw [hs12]
          have e12 := sets_at EN.out.1.hz [i64 N.S, i64 N.Z, .slice (some ⟨wr.heap.size + 1, 0, none⟩) N.S cp2, .slice R.wA N.S R.wc, .slice R.bA N.S R.bc, .bool false, i64 N.offs, .int .i64 ((N.acts : Int) + 1), .bool true, i64 k, i64 R.whole, .int .u8 R.mask] rfl
          have b12 := sets_below (Nat.le_succ _) [i64 N.S, i64 N.Z, .slice (some ⟨wr.heap.size + 1, 0, none⟩) N.S cp2, .slice R.wA N.S R.wc, .slice R.bA N.S R.bc, .bool false, i64 N.offs, .int .i64 ((N.acts : Int) + 1), .bool true, i64 k, i64 R.whole, .int .u8 R.mask] _ 0 EN.out.1.below
          have c12 := sets_old (g := w.heap.size + 1) (by have := st6; omega) [i64 N.S, i64 N.Z, .slice (some ⟨wr.heap.size + 1, 0, none⟩) N.S cp2, .slice R.wA N.S R.wc, .slice R.bA N.S R.bc, .bool false, i64 N.offs, .int .i64 ((N.acts : Int) + 1), .bool true, i64 k, i64 R.whole, .int .u8 R.mask] _ 0 EN.out.2
          have l12 := sets_old (g := w.heap.size + 1) (by omega) [i64 N.S, i64 N.Z, .slice (some ⟨wr.heap.size + 1, 0, none⟩) N.S cp2, .slice R.wA N.S R.wc, .slice R.bA N.S R.bc, .bool false, i64 N.offs, .int .i64 ((N.acts : Int) + 1), .bool true, i64 k, i64 R.whole, .int .u8 R.mask] _ 0 EN.out.1.hl
          clear hs12
          generalize sets w5 (w.heap.size + 1) 0 [i64 N.S, i64 N.Z, .slice (some ⟨wr.heap.size + 1, 0, none⟩) N.S cp2, .slice R.wA N.S R.wc, .slice R.bA N.S R.bc, .bool false, i64 N.offs, .int .i64 ((N.acts : Int) + 1), .bool true, i64 k, i64 R.whole, .int .u8 R.mask] = w6 at *
          have e := cell_blk e12
          clear g0 g1 g2 g3 g4 g5 g6 g7 g8 g9 g10 g11 y0 y1 y2 y3 y4 y5 y6 y7 y8 y9 y10 y11 zd zz zy
          have e0 : w6.cell? ⟨w.heap.size + 1, 0, none⟩ = some (i64 N.S) := e 0
          have e1 : w6.cell? ⟨w.heap.size + 1, 1, none⟩ = some (i64 N.Z) := e 1
          have e2 : w6.cell? ⟨w.heap.size + 1, 2, none⟩ = some (.slice (some ⟨wr.heap.size + 1, 0, none⟩) N.S cp2) := e 2
          have e3 : w6.cell? ⟨w.heap.size + 1, 3, none⟩ = some (.slice R.wA N.S R.wc) := e 3
          have e4 : w6.cell? ⟨w.heap.size + 1, 4, none⟩ = some (.slice R.bA N.S R.bc) := e 4
          have e5 : w6.cell? ⟨w.heap.size + 1, 5, none⟩ = some (.bool false) := e 5
          have e6 : w6.cell? ⟨w.heap.size + 1, 6, none⟩ = some (i64 N.offs) := e 6
          have e7 : w6.cell? ⟨w.heap.size + 1, 7, none⟩ = some (.int .i64 ((N.acts : Int) + 1)) := e 7
          have e8 : w6.cell? ⟨w.heap.size + 1, 8, none⟩ = some (.bool true) := e 8
          have e9 : w6.cell? ⟨w.heap.size + 1, 9, none⟩ = some (i64 k) := e 9
          have e10 : w6.cell? ⟨w.heap.size + 1, 10, none⟩ = some (i64 R.whole) := e 10
          have e11 : w6.cell? ⟨w.heap.size + 1, 11, none⟩ = some (.int .u8 R.mask) := e 11
          refine bodyPost_ret (v := .tuple #[i64 0, .agg #[i64 N.S, i64 N.Z, .slice (some ⟨wr.heap.size + 1, 0, none⟩) N.S cp2, .slice R.wA N.S R.wc, .slice R.bA N.S R.bc, .bool false, i64 N.offs, .int .i64 ((N.acts : Int) + 1), .bool true, i64 k, i64 R.whole, .int .u8 R.mask]]) (by simp [results, Tryz.results29, go_sem, e0, e1, e2, e3, e4, e5, e6, e7, e8, e9, e10, e11]) rfl ⟨{ R with dA := some ⟨wr.heap.size + 1, 0, none⟩, dc := cp2, rows := R.rows.set s (.slice (some ⟨w.heap.size + 1 + 1 + 1, 0, none⟩) N.Z cp), left := k }, ?_, ?_, ?_, rfl, by show k ≤ R.left; omega⟩
          · rw [HV.out]; simp only [RV.val, RV.cells]; rw [hon]; rfl
          · rw [HV.out]
            refine RefR.act' h lim (Base.dr b12) c12 (by rw [List.take_set, HCT.out]) (by have := b4s; omega) hcp2 hcm2 l12 (by omega) (by rw [rRow_len]; exact hll) (rRow_lt hl256 hm8 _) hcp hcm hs rfl rfl ?_
            intro c hc; injection hc with hc; subst hc; exact ⟨rfl, rfl, rfl⟩
          · exact Base.dr b12
    · have hv : N.act s p lb.length (rUpd lb down) = (7, { N with acts := N.acts + 1, off := true, cut := none, offs := N.offs + 1, data := N.data.set s (rRow lb down true R.whole R.mask p l lb.length) }) := by
        unfold Nor.act
        rw [hcs, hgd, rRow_cut down R.whole p hl256 hl8 hm8]
        simp only []
        rw [if_neg hpos]
      have HV := Lib.hid hv
      have hq0 : ((R.left : Int) == 0) = true := by rw [beq_iff_eq]; omega
      have hq1 : decide (0 < R.left) = false := by rw [decide_eq_false_iff_not]; omega
      clear hv hpos
      go_enter Tryz.func29, Tryz.ntmps29
      go_wp2_with (at_builtin; refine wpList_append_fresh _ rfl _ _ 38 rfl 5 i1 _ Tryz.underlying38 hi hz0 hz1 ?c2 ⟨w.heap.size + 1 + 1, 0, none⟩ rfl ad N.Z rc (l.map bv) rfl ?c0 ?c1 ?c3 ?c4 ?_)
      case c2 => omega
      case c0 => simp [hll]
      case c1 => omega
      case c3 => omega
      case c4 => exact hsrc _ (Base.al (Base.al (Base.al (Below.refl _ _) _) _) _)
      intro cp junk hcp hcm
      go_wp2_with fail
      have st0 : Hid (ActSt w #[i64 N.S, i64 N.Z, .slice (some ⟨db, doff, none⟩) N.S R.dc, .slice R.wA N.S R.wc, .slice R.bA N.S R.bc, .bool false, i64 N.offs, .int .i64 ((N.acts : Int) + 1), .bool true, i64 R.left, i64 R.whole, .int .u8 R.mask] #[.int .i64 0, .int .i64 0, .slice none 0 0, .slice none 0 0, .slice none 0 0, .bool false, .int .i64 0, .int .i64 0, .bool false, .int .i64 0, .int .i64 0, .int .u8 0] (rRow lb down true R.whole R.mask p l 0) junk _) := Lib.hid (ActSt.start w _ _ #[] l junk)
      generalize ((((w.alloc _).alloc _).alloc _).alloc _).drew = w4 at *
      clear hc0 hsrc hcr
      go_loopw [14, 15, 49] (fun _ _ i wr => ∃ j : Nat, j ≤ lb.length ∧ i = .int .i64 j ∧ Hid (ActSt w #[i64 N.S, i64 N.Z, .slice (some ⟨db, doff, none⟩) N.S R.dc, .slice R.wA N.S R.wc, .slice R.bA N.S R.bc, .bool false, i64 N.offs, .int .i64 ((N.acts : Int) + 1), .bool true, i64 R.left, i64 R.whole, .int .u8 R.mask] #[.int .i64 0, .int .i64 0, .slice none 0 0, .slice none 0 0, .slice none 0 0, .bool false, .int .i64 0, .int .i64 0, .bool false, .int .i64 0, .int .i64 0, .int .u8 0] (rRow lb down true R.whole R.mask p l j) junk wr)) (fun _ _ i _ => lb.length - (intOf i).toNat)
      case atStart => exact ⟨0, Nat.zero_le _, rfl, st0⟩
      case round =>
        obtain ⟨j, hj, rfl, st⟩ := hrel
        clear st0
        have hrl := rRow_len lb down true R.whole R.mask p l j
        by_cases hlt : j < lb.length
        · obtain ⟨bb, bo, rfl, hbb, hbx⟩ := Byt.at1 (Sl.below hy st.out.below) (by omega)
          obtain ⟨x, hx⟩ : ∃ x, lb[j]? = some x := ⟨_, List.getElem?_eq_getElem hlt⟩
          have hcx := hbx j _ hx
          obtain ⟨old, hold⟩ : ∃ old, (rRow lb down true R.whole R.mask p l j).getD (p + j) 0 = old := ⟨_, rfl⟩
          have hold8 : old < 256 := by rw [← hold]; exact getD_lt (rRow_lt hl256 hm8 j) _
          have hpr : p + j < (rRow lb down true R.whole R.mask p l j).length := by omega
          have hco : wr.cell? ⟨w.heap.size + 1 + 1 + 1, p + j, none⟩ = some (bv old) := by
            rw [cell_blk st.out.hl, List.getElem?_toArray, List.getElem?_append_left (by rw [List.length_map]; exact hpr), List.getElem?_map, ← hold, List.getD_eq_getElem?_getD, List.getElem?_eq_getElem hpr]; rfl
          have hfz := frozen_blk st.out.hl (p + j)
          have z1 : w.heap.size + 1 + 1 + 1 < wr.heap.size := (Array.getElem?_eq_some_iff.1 st.out.hl).1
          have q1 := fun q => on_cell (w := wr) z1 hco q
          have q2 := fun q => on_cell (w := wr) hbb hcx q
          have kw : IntKind.i64.wrap ((p : Int) + (j : Int)) = (p : Int) + (j : Int) := by rw [IntKind.wrap_i64]; omega
          have hpz : p + j < N.Z := by omega
          have kx : (p : Int) + (j : Int) < (N.Z : Int) := by omega
          have k0 : (0 : Int) ≤ (p : Int) + (j : Int) := by omega
          have kt : ((p : Int) + (j : Int)).toNat = p + j := by omega
          have fd := cell_blk st.out.hd
          have f10 : wr.cell? ⟨w.heap.size, 10, none⟩ = some (i64 R.whole) := fd 10
          have f11 : wr.cell? ⟨w.heap.size, 11, none⟩ = some (.int .u8 R.mask) := fd 11
          clear fd hbx
          rcases Nat.lt_trichotomy j R.whole with hq | hq | hq
          · have G : ∀ W, Hid (Gives 55 #[.int .u8 old, .int .u8 x, .int .u8 255, .bool down] W (.int .u8 (rBits old x 255 down))) := fun W => Lib.hid (rbits_any old x 255 down W hold8 (by decide))
            have HST := Lib.hid (st.out.set (p + j) (rBits old x 255 down) hpr)
            rw [← rRow_next (lb := lb) (down := down) (c := true) (whole := R.whole) (mask := R.mask) (m := 255) hx (by unfold rMask; rw [if_pos rfl, if_neg (by omega), if_neg (by omega)]) hold] at HST
            go_wp2_with fail
            refine wp_region_ph (D := fun w' => ∃ p : OnOf _, w' = p.v) 18 [] (by kernel_rfl) (by kernel_rfl) ⟨⟨_, Base.dr (Below.refl _ _)⟩, rfl⟩ ?_
            simp only [List.take_succ_cons, List.take_zero, List.drop_succ_cons, List.drop_zero]
            have on0 := @on_rd0; have on1 := @on_rd1; have on2 := @on_rd2; have on3 := @on_new1; have on4 := @on_new2
            repeat (first | ((with_reducible refine head_quiet ?_ ?_); (focus rfl); (intro K hK); go_simp; first | ((with_reducible refine hK _ ?_); clear hK K) | (rw [if_neg (by intro h; cases h)]; (with_reducible refine hK _ ?_); clear hK K) | (apply Exists.intro; refine ⟨fun _ => ?_, hK _ ?_⟩; ((with_reducible exact (G _).out)); clear hK K)))
            clear on0 on1 on2 on3 on4
            with_reducible refine head_nil ?_
            rintro _ rfl
            clear q1 q2 G st
            go_wp2_with fail
            exact ⟨⟨j + 1, by omega, by go_num, HST⟩, by simp [intOf]; omega⟩
          · subst hq
            have G : ∀ W, Hid (Gives 55 #[.int .u8 old, .int .u8 x, .int .u8 R.mask, .bool down] W (.int .u8 (rBits old x R.mask down))) := fun W => Lib.hid (rbits_any old x R.mask down W hold8 (hm8))
            have HST := Lib.hid (st.out.set (p + R.whole) (rBits old x R.mask down) hpr)
            rw [← rRow_next (lb := lb) (down := down) (c := true) (whole := R.whole) (mask := R.mask) (m := R.mask) hx (by unfold rMask; rw [if_pos rfl, if_pos rfl]) hold] at HST
            go_wp2_with fail
            refine wp_region_ph (D := fun w' => ∃ p : OnOf _, w' = p.v) 18 [] (by kernel_rfl) (by kernel_rfl) ⟨⟨_, Base.dr (Below.refl _ _)⟩, rfl⟩ ?_
            simp only [List.take_succ_cons, List.take_zero, List.drop_succ_cons, List.drop_zero]
            have on0 := @on_rd0; have on1 := @on_rd1; have on2 := @on_rd2; have on3 := @on_new1; have on4 := @on_new2
            repeat (first | ((with_reducible refine head_quiet ?_ ?_); (focus rfl); (intro K hK); go_simp; first | ((with_reducible refine hK _ ?_); clear hK K) | (rw [if_neg (by intro h; cases h)]; (with_reducible refine hK _ ?_); clear hK K) | (apply Exists.intro; refine ⟨fun _ => ?_, hK _ ?_⟩; ((with_reducible exact (G _).out)); clear hK K)))
            clear on0 on1 on2 on3 on4
            with_reducible refine head_nil ?_
            rintro _ rfl
            clear q1 q2 G st
            go_wp2_with fail
            exact ⟨⟨R.whole + 1, by omega, by go_num, HST⟩, by simp [intOf]; omega⟩
          · have G : ∀ W, Hid (Gives 55 #[.int .u8 old, .int .u8 x, .int .u8 0, .bool down] W (.int .u8 (rBits old x 0 down))) := fun W => Lib.hid (rbits_any old x 0 down W hold8 (by decide))
            have HST := Lib.hid (st.out.set (p + j) (rBits old x 0 down) hpr)
            rw [← rRow_next (lb := lb) (down := down) (c := true) (whole := R.whole) (mask := R.mask) (m := 0) hx (by unfold rMask; rw [if_pos rfl, if_neg (by omega), if_pos (by omega)]) hold] at HST
            go_wp2_with fail
            refine wp_region_ph (D := fun w' => ∃ p : OnOf _, w' = p.v) 18 [] (by kernel_rfl) (by kernel_rfl) ⟨⟨_, Base.dr (Below.refl _ _)⟩, rfl⟩ ?_
            simp only [List.take_succ_cons, List.take_zero, List.drop_succ_cons, List.drop_zero]
            have on0 := @on_rd0; have on1 := @on_rd1; have on2 := @on_rd2; have on3 := @on_new1; have on4 := @on_new2
            repeat (first | ((with_reducible refine head_quiet ?_ ?_); (focus rfl); (intro K hK); go_simp; first | ((with_reducible refine hK _ ?_); clear hK K) | (rw [if_neg (by intro h; cases h)]; (with_reducible refine hK _ ?_); clear hK K) | (apply Exists.intro; refine ⟨fun _ => ?_, hK _ ?_⟩; ((with_reducible exact (G _).out)); clear hK K)))
            clear on0 on1 on2 on3 on4
            with_reducible refine head_nil ?_
            rintro _ rfl
            clear q1 q2 G st
            go_wp2_with fail
            exact ⟨⟨j + 1, by omega, by go_num, HST⟩, by simp [intOf]; omega⟩
        · obtain rfl : j = lb.length := by omega
          have fd := cell_blk st.out.hd
          have f0 : wr.cell? ⟨w.heap.size, 0, none⟩ = some (i64 N.S) := fd 0
          have f1 : wr.cell? ⟨w.heap.size, 1, none⟩ = some (i64 N.Z) := fd 1
          have f2 : wr.cell? ⟨w.heap.size, 2, none⟩ = some (.slice (some ⟨db, doff, none⟩) N.S R.dc) := fd 2
          have f3 : wr.cell? ⟨w.heap.size, 3, none⟩ = some (.slice R.wA N.S R.wc) := fd 3
          have f4 : wr.cell? ⟨w.heap.size, 4, none⟩ = some (.slice R.bA N.S R.bc) := fd 4
          have f5 : wr.cell? ⟨w.heap.size, 5, none⟩ = some (.bool false) := fd 5
          have f6 : wr.cell? ⟨w.heap.size, 6, none⟩ = some (i64 N.offs) := fd 6
          have f7 : wr.cell? ⟨w.heap.size, 7, none⟩ = some (.int .i64 ((N.acts : Int) + 1)) := fd 7
          have f8 : wr.cell? ⟨w.heap.size, 8, none⟩ = some (.bool true) := fd 8
          have f9 : wr.cell? ⟨w.heap.size, 9, none⟩ = some (i64 R.left) := fd 9
          have f10 : wr.cell? ⟨w.heap.size, 10, none⟩ = some (i64 R.whole) := fd 10
          have f11 : wr.cell? ⟨w.heap.size, 11, none⟩ = some (.int .u8 R.mask) := fd 11
          have zf := frozen_blk st.out.hd 2
          have z0 : w.heap.size < wr.heap.size := (Array.getElem?_eq_some_iff.1 st.out.hd).1
          clear fd
          obtain ⟨i2, hi', hz0', hz1', hz2'⟩ := info_parts info_bytesE
          go_wp2_with (at_builtin; refine wpList_append_fresh _ rfl _ _ 29 rfl 38 i2 _ Tryz.underlying29 hi' hz0' hz1' ?d2 ⟨wr.heap.size, 0, none⟩ rfl ⟨db, doff, none⟩ N.S R.dc R.rows rfl ?d0 ?d1 ?d3 ?d4 ?_)
          case d2 => omega
          case d0 => exact h.len
          case d1 => omega
          case d3 => omega
          case d4 => exact Sl.src1 (Sl.below hdata (Base.al st.out.below _))
          intro cp2 junk2 hcp2 hcm2
          obtain ⟨C, hC⟩ : ∃ C, R.rows ++ junk2 = C := ⟨_, rfl⟩
          rw [hC]
          have hCt : C.take N.S = R.rows := by rw [← hC]; exact List.take_left' h.len
          have hck : C[s]? = some (.slice (some ad) N.Z rc) := by rw [← hC, List.getElem?_append_left hsr, ← hll]; exact hr
          have HCT := Lib.hid hCt
          clear hC hCt
          go_wp2_with fail
          have st6 := st.out.size
          have b4s := st.out.below.size
          obtain ⟨en, hgC⟩ := st.out.end (.slice (some ⟨wr.heap.size + 1, 0, none⟩) N.S cp2) #[] (C.set s (.slice (some ⟨w.heap.size + 1 + 1 + 1, 0, none⟩) N.Z cp)).toArray
          have EN := Lib.hid (And.intro en hgC)
          have fd := cell_blk en.hd
          have zd : w.heap.size < _ := (Array.getElem?_eq_some_iff.1 en.hd).1
          have zz : w.heap.size + 1 < _ := (Array.getElem?_eq_some_iff.1 en.hz).1
          have fy : True := trivial
          clear en hgC st f0 f1 f2 f3 f4 f5 f6 f7 f8 f9 f10 f11 zf z0 hi' hz0' hz1' hz2' hi hz0 hz1 hz2 hck
          have T : ∀ W, Hid (Calls Tryz.prog 37 #[.agg #[i64 N.S, i64 N.Z, .slice (some ⟨wr.heap.size + 1, 0, none⟩) N.S cp2, .slice R.wA N.S R.wc, .slice R.bA N.S R.bc, .bool false, i64 N.offs, .int .i64 ((N.acts : Int) + 1), .bool true, i64 R.left, i64 R.whole, .int .u8 R.mask]] W fun e w' => e = .returned (.agg #[i64 N.S, i64 N.Z, .slice (some ⟨wr.heap.size + 1, 0, none⟩) N.S cp2, .slice R.wA N.S R.wc, .slice R.bA N.S R.bc, .bool true, .int .i64 ((N.offs : Int) + 1), .int .i64 ((N.acts : Int) + 1), .bool false, i64 R.left, i64 R.whole, .int .u8 R.mask]) ∧ Below W.heap.size W w') := by
            intro W
            have := rturn_any (w := W) (R := { R with dA := some ⟨wr.heap.size + 1, 0, none⟩, dc := cp2 }) (N := { N with acts := N.acts + 1 }) h2
            unfold Nor.turn at this
            simp only [RV.val, RV.cells, hon, hcs, Option.isSome_some, Option.isSome_none, Bool.false_eq_true, if_false] at this
            exact Lib.hid this
          generalize (((wr.setCell _ _).alloc _).alloc _).drew = w5 at *
          have g0 := fd 0
          have g1 := fd 1
          have g2 := fd 2
          have g3 := fd 3
          have g4 := fd 4
          have g5 := fd 5
          have g6 := fd 6
          have g7 := fd 7
          have g8 := fd 8
          have g9 := fd 9
          have g10 := fd 10
          have g11 := fd 11
          simp at g0 g1 g2 g3 g4 g5 g6 g7 g8 g9 g10 g11
          clear fd fy
          (with_reducible refine (T w5).out.mono ?_); rintro e w7 ⟨rfl, hb7⟩
          have EN7 := Lib.hid (And.intro (ActSt.below' EN.out.1 hb7) (blk_below EN.out.2 hb7))
          clear EN
          have fy := cell_blk EN7.out.1.hz
          have zy := fun i => frozen_blk EN7.out.1.hz i
          have z7 : w.heap.size + 1 < w7.heap.size := (Array.getElem?_eq_some_iff.1 EN7.out.1.hz).1
          have y0 := fy 0
          have y1 := fy 1
          have y2 := fy 2
          have y3 := fy 3
          have y4 := fy 4
          have y5 := fy 5
          have y6 := fy 6
          have y7 := fy 7
          have y8 := fy 8
          have y9 := fy 9
          have y10 := fy 10
          have y11 := fy 11
          simp at y0 y1 y2 y3 y4 y5 y6 y7 y8 y9 y10 y11
          clear fy
          go_wp2_with fail
          have hs12 : ((((((((((((w7.setCell ⟨w.heap.size + 1, 0, none⟩ (i64 N.S)).setCell ⟨w.heap.size + 1, 1, none⟩ (i64 N.Z)).setCell ⟨w.heap.size + 1, 2, none⟩ (.slice (some ⟨wr.heap.size + 1, 0, none⟩) N.S cp2)).setCell ⟨w.heap.size + 1, 3, none⟩ (.slice R.wA N.S R.wc)).setCell ⟨w.heap.size + 1, 4, none⟩ (.slice R.bA N.S R.bc)).setCell ⟨w.heap.size + 1, 5, none⟩ (.bool true)).setCell ⟨w.heap.size + 1, 6, none⟩ (.int .i64 ((N.offs : Int) + 1))).setCell ⟨w.heap.size + 1, 7, none⟩ (.int .i64 ((N.acts : Int) + 1))).setCell ⟨w.heap.size + 1, 8, none⟩ (.bool false)).setCell ⟨w.heap.size + 1, 9, none⟩ (i64 R.left)).setCell ⟨w.heap.size + 1, 10, none⟩ (i64 R.whole)).setCell ⟨w.heap.size + 1, 11, none⟩ (.int .u8 R.mask)) = sets w7 (w.heap.size + 1) 0 [i64 N.S, i64 N.Z, .slice (some ⟨wr.heap.size + 1, 0, none⟩) N.S cp2, .slice R.wA N.S R.wc, .slice R.bA N.S R.bc, .bool true, .int .i64 ((N.offs : Int) + 1), .int .i64 ((N.acts : Int) + 1), .bool false, i64 R.left, i64 R.whole, .int .u8 R.mask] := rfl
          rw [hs12]
          have e12 := sets_at EN7.out.1.hz [i64 N.S, i64 N.Z, .slice (some ⟨wr.heap.size + 1, 0, none⟩) N.S cp2, .slice R.wA N.S R.wc, .slice R.bA N.S R.bc, .bool true, .int .i64 ((N.offs : Int) + 1), .int .i64 ((N.acts : Int) + 1), .bool false, i64 R.left, i64 R.whole, .int .u8 R.mask] rfl
          have b12 := sets_below (Nat.le_succ _) [i64 N.S, i64 N.Z, .slice (some ⟨wr.heap.size + 1, 0, none⟩) N.S cp2, .slice R.wA N.S R.wc, .slice R.bA N.S R.bc, .bool true, .int .i64 ((N.offs : Int) + 1), .int .i64 ((N.acts : Int) + 1), .bool false, i64 R.left, i64 R.whole, .int .u8 R.mask] _ 0 EN7.out.1.below
          have c12 := sets_old (g := w.heap.size + 1) (by have := st6; omega) [i64 N.S, i64 N.Z, .slice (some ⟨wr.heap.size + 1, 0, none⟩) N.S cp2, .slice R.wA N.S R.wc, .slice R.bA N.S R.bc, .bool true, .int .i64 ((N.offs : Int) + 1), .int .i64 ((N.acts : Int) + 1), .bool false, i64 R.left, i64 R.whole, .int .u8 R.mask] _ 0 EN7.out.2
          have l12 := sets_old (g := w.heap.size + 1) (by omega) [i64 N.S, i64 N.Z, .slice (some ⟨wr.heap.size + 1, 0, none⟩) N.S cp2, .slice R.wA N.S R.wc, .slice R.bA N.S R.bc, .bool true, .int .i64 ((N.offs : Int) + 1), .int .i64 ((N.acts : Int) + 1), .bool false, i64 R.left, i64 R.whole, .int .u8 R.mask] _ 0 EN7.out.1.hl
          clear hs12
          generalize sets w7 (w.heap.size + 1) 0 [i64 N.S, i64 N.Z, .slice (some ⟨wr.heap.size + 1, 0, none⟩) N.S cp2, .slice R.wA N.S R.wc, .slice R.bA N.S R.bc, .bool true, .int .i64 ((N.offs : Int) + 1), .int .i64 ((N.acts : Int) + 1), .bool false, i64 R.left, i64 R.whole, .int .u8 R.mask] = w6 at *
          have e := cell_blk e12
          clear y0 y1 y2 y3 y4 y5 y6 y7 y8 y9 y10 y11 zy
          have e0 : w6.cell? ⟨w.heap.size + 1, 0, none⟩ = some (i64 N.S) := e 0
          have e1 : w6.cell? ⟨w.heap.size + 1, 1, none⟩ = some (i64 N.Z) := e 1
          have e2 : w6.cell? ⟨w.heap.size + 1, 2, none⟩ = some (.slice (some ⟨wr.heap.size + 1, 0, none⟩) N.S cp2) := e 2
          have e3 : w6.cell? ⟨w.heap.size + 1, 3, none⟩ = some (.slice R.wA N.S R.wc) := e 3
          have e4 : w6.cell? ⟨w.heap.size + 1, 4, none⟩ = some (.slice R.bA N.S R.bc) := e 4
          have e5 : w6.cell? ⟨w.heap.size + 1, 5, none⟩ = some (.bool true) := e 5
          have e6 : w6.cell? ⟨w.heap.size + 1, 6, none⟩ = some (.int .i64 ((N.offs : Int) + 1)) := e 6
          have e7 : w6.cell? ⟨w.heap.size + 1, 7, none⟩ = some (.int .i64 ((N.acts : Int) + 1)) := e 7
          have e8 : w6.cell? ⟨w.heap.size + 1, 8, none⟩ = some (.bool false) := e 8
          have e9 : w6.cell? ⟨w.heap.size + 1, 9, none⟩ = some (i64 R.left) := e 9
          have e10 : w6.cell? ⟨w.heap.size + 1, 10, none⟩ = some (i64 R.whole) := e 10
          have e11 : w6.cell? ⟨w.heap.size + 1, 11, none⟩ = some (.int .u8 R.mask) := e 11
          refine bodyPost_ret (v := .tuple #[i64 7, .agg #[i64 N.S, i64 N.Z, .slice (some ⟨wr.heap.size + 1, 0, none⟩) N.S cp2, .slice R.wA N.S R.wc, .slice R.bA N.S R.bc, .bool true, .int .i64 ((N.offs : Int) + 1), .int .i64 ((N.acts : Int) + 1), .bool false, i64 R.left, i64 R.whole, .int .u8 R.mask]]) (by simp [results, Tryz.results29, go_sem, e0, e1, e2, e3, e4, e5, e6, e7, e8, e9, e10, e11]) rfl ⟨{ R with dA := some ⟨wr.heap.size + 1, 0, none⟩, dc := cp2, rows := R.rows.set s (.slice (some ⟨w.heap.size + 1 + 1 + 1, 0, none⟩) N.Z cp), left := R.left }, ?_, ?_, ?_, rfl, by show R.left ≤ R.left; omega⟩
          · rw [HV.out]; rfl
          · rw [HV.out]
            refine RefR.act' h lim (b12) c12 (by rw [List.take_set, HCT.out]) (by have := b4s; omega) hcp2 hcm2 l12 (by omega) (by rw [rRow_len]; exact hll) (rRow_lt hl256 hm8 _) hcp hcm hs rfl rfl ?_
            intro c hc; cases hc
          · exact b12
end Go.Proofs.YtokpoogcoeodkaaGreatDoor
