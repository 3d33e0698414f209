/- The document's device: an act. -/
import Derived.Test.YthiimpleljaimaaGreatDoorMg16
namespace Go.Proofs.YthiimpleljaimaaGreatDoor
open Go.RowKit Flo

/-- Which bits of a byte are done. -/
def rMask (c : Bool) (whole mask i : Nat) : Nat := if c then (if i = whole then mask else if whole < i then 0 else 255) else 255
theorem rMask_lt {c : Bool} {whole mask : Nat} (i : Nat) (h : mask < 256) : rMask c whole mask i < 256 := by unfold rMask; split <;> (try split) <;> (try split) <;> omega
theorem rBits_lt {old other mask : Nat} (down : Bool) (h : old < 256) (hm : mask < 256) : rBits old other mask down < 256 := by
  unfold rBits; split
  · exact pUp_lt h
  · exact eUp_lt h hm
/-- A sector's row, so far. -/
def rRow (lb : List Nat) (down c : Bool) (whole mask p : Nat) (l : List Nat) : Nat → List Nat
  | 0 => l
  | j + 1 => (rRow lb down c whole mask p l j).set (p + j) (rBits ((rRow lb down c whole mask p l j).getD (p + j) 0) (lb.getD j 0) (rMask c whole mask j) down)
theorem rRow_len (lb : List Nat) (down c : Bool) (whole mask p : Nat) (l : List Nat) : ∀ j, (rRow lb down c whole mask p l j).length = l.length
  | 0 => rfl
  | j + 1 => by rw [rRow, List.length_set]; exact rRow_len lb down c whole mask p l j
theorem getD_lt {l : List Nat} (h : ∀ x ∈ l, x < 256) (i : Nat) : l.getD i 0 < 256 := by
  rw [List.getD_eq_getElem?_getD]
  cases hi : l[i]? with
  | none => decide
  | some x => exact h x (List.mem_of_getElem? hi)
theorem rRow_lt {lb : List Nat} {down c : Bool} {whole mask p : Nat} {l : List Nat} (h : ∀ x ∈ l, x < 256) (hm : mask < 256) : ∀ j, ∀ x ∈ rRow lb down c whole mask p l j, x < 256
  | 0 => h
  | j + 1 => by
    intro x hx
    rcases List.mem_or_eq_of_mem_set hx with h1 | h1
    · exact rRow_lt h hm j x h1
    · subst h1; exact rBits_lt down (getD_lt (rRow_lt h hm j) _) (rMask_lt j hm)
theorem and255 {x : Nat} (h : x < 256) : x &&& 255 = x := Nat.and_two_pow_sub_one_of_lt_two_pow (n := 8) h
theorem or255 {x : Nat} (h : x < 256) : x ||| 255 = 255 := by
  apply Nat.eq_of_testBit_eq
  intro i
  rw [Nat.testBit_or, show (255 : Nat) = 2 ^ 8 - 1 by decide, Nat.testBit_two_pow_sub_one]
  by_cases hi : i < 8
  · simp [hi]
  · have : x.testBit i = false := Nat.testBit_lt_two_pow (Nat.lt_of_lt_of_le (show x < 2 ^ 8 from h) (Nat.pow_le_pow_right (by decide) (by omega)))
    simp [hi, this]
theorem rBits_id {old x : Nat} (down : Bool) (h : old < 256) (hx : x < 256) : rBits old x 0 down = old := by
  unfold rBits
  split
  · unfold pUp; rw [show 255 - 0 = 255 from rfl, or255 hx, and255 h]
  · unfold eUp; rw [Nat.or_zero]
theorem set_getD (l : List Nat) (i : Nat) : l.set i (l.getD i 0) = l := by
  by_cases hi : i < l.length
  · rw [List.getD_eq_getElem?_getD, List.getElem?_eq_getElem hi]
    exact List.set_getElem_self ..
  · exact List.set_eq_of_length_le (by omega)
abbrev rUpd (lb : List Nat) (down : Bool) : Nat → Nat → Nat → Nat := fun i m old => rBits old (lb.getD i 0) m down
theorem rRow_step (lb : List Nat) (down : Bool) (whole mask p : Nat) (l : List Nat) : ∀ j, rRow lb down false whole mask p l j = stepRow (rUpd lb down) p l j
  | 0 => rfl
  | j + 1 => by rw [rRow, stepRow, rRow_step lb down whole mask p l j]; rfl
theorem rRow_pre (lb : List Nat) (down : Bool) (whole mask p : Nat) (l : List Nat) : ∀ j, j ≤ whole → rRow lb down true whole mask p l j = stepRow (rUpd lb down) p l j
  | 0, _ => rfl
  | j + 1, h => by
    rw [rRow, stepRow, rRow_pre lb down whole mask p l j (by omega)]
    have : rMask true whole mask j = 255 := by unfold rMask; rw [if_pos rfl, if_neg (by omega), if_neg (by omega)]
    rw [this]
theorem rRow_post {lb : List Nat} (down : Bool) (whole : Nat) {mask : Nat} (p : Nat) {l : List Nat} (h : ∀ x ∈ l, x < 256) (hb : ∀ x ∈ lb, x < 256) (hm : mask < 256) :
    ∀ k, rRow lb down true whole mask p l (whole + 1 + k) = (stepRow (rUpd lb down) p l whole).set (p + whole) (rUpd lb down whole mask ((stepRow (rUpd lb down) p l whole).getD (p + whole) 0))
  | 0 => by
    rw [Nat.add_zero, rRow, rRow_pre lb down whole mask p l whole (Nat.le_refl _)]
    have : rMask true whole mask whole = mask := by unfold rMask; rw [if_pos rfl, if_pos rfl]
    rw [this]
  | k + 1 => by
    rw [← Nat.add_assoc, rRow]
    have : rMask true whole mask (whole + 1 + k) = 0 := by unfold rMask; rw [if_pos rfl, if_neg (by omega), if_pos (by omega)]
    rw [this, rBits_id down (getD_lt (rRow_lt h hm _) _) (getD_lt hb _), set_getD]
    exact rRow_post down whole p h hb hm k
theorem rRow_cut {lb : List Nat} (down : Bool) (whole : Nat) {mask : Nat} (p : Nat) {l : List Nat} (h : ∀ x ∈ l, x < 256) (hb : ∀ x ∈ lb, x < 256) (hm : mask < 256) (n : Nat) :
    rRow lb down true whole mask p l n = cutRow (rUpd lb down) p l n whole mask := by
  unfold cutRow
  split
  · rename_i hlt
    rw [show n = whole + 1 + (n - whole - 1) by omega]
    exact rRow_post down whole p h hb hm _
  · exact rRow_pre lb down whole mask p l n (by omega)
/-- A byte of what is to be done. -/
theorem Byt.at1 {w : World} {A : Option Addr} {n cap : Nat} {l : List Nat} (h : Byt w (.slice A n cap) l) (hp : 0 < l.length) :
    ∃ b off, A = some ⟨b, off, none⟩ ∧ b < w.heap.size ∧ ∀ j x, l[j]? = some x → w.cell? ⟨b, off + j, none⟩ = some (bv x) := by
  obtain ⟨b, off, hA, hb, hx⟩ := Byt.cell h hp
  refine ⟨b, off, hA, hb, fun j x hj => ?_⟩
  have := hx j (bv x) (by rw [List.getElem?_map, hj]; rfl)
  rwa [Addr.add_lit] at this
theorem byt_blk {W : World} {g cap : Nat} {row : List Nat} {junk : List Value} (h : W.heap[g]? = some (Obj.cells (row.map bv ++ junk).toArray 5 (0, 0))) (hc : row.length ≤ cap) (hm : cap ≤ maxLen) : Byt W (.slice (some ⟨g, 0, none⟩) row.length cap) row := by
  have := Sl.of_blk h (xs := row.map bv) (n := row.length) (List.take_left' (by simp)) (by simp) hc hm
  rw [List.map_map] at this
  exact this
/-- The reference's device behind an act. -/
theorem RefR.act' {O : Nat → Prop} {w W : World} {R R' : RV} {N N' : Nor} (h : RefR O w R N) (lim : ∀ k, O k → k < w.heap.size) (hb : Below w.heap.size w W) {g cp2 L cp s : Nat} {C : List Value} {row : List Nat} {junk : List Value}
    (hg : W.heap[g]? = some (Obj.cells C.toArray 22 (0, 0))) (hC : C.take N.S = R.rows.set s (.slice (some ⟨L, 0, none⟩) N.Z cp)) (n1 : w.heap.size ≤ g) (hc : N.S ≤ cp2) (hm : cp2 ≤ maxLen)
    (hL : W.heap[L]? = some (Obj.cells (row.map bv ++ junk).toArray 5 (0, 0))) (n2 : w.heap.size ≤ L) (hrl : row.length = N.Z) (hr8 : ∀ x ∈ row, x < 256) (hcp : N.Z ≤ cp) (hcm : cp ≤ maxLen) (hs : s < N.S)
    (hR : R' = { R with dA := some ⟨g, 0, none⟩, dc := cp2, rows := R.rows.set s (.slice (some ⟨L, 0, none⟩) N.Z cp), left := R'.left })
    (hN : N' = { N with off := N'.off, offs := N'.offs, acts := N'.acts, cut := N'.cut, data := N.data.set s row })
    (hcut : ∀ c, N'.cut = some c → R'.left = c.1 ∧ R.whole = c.2.1 ∧ R.mask = c.2.2) : RefR O W R' N' := by
  have hw := h.below hb
  rw [hR, hN]
  rw [hR, hN] at hcut
  refine { cut := hcut, data := ?_, dfar := far_new lim n1 _ _ _, len := by rw [List.length_set]; exact h.len, row := ?_, wear := hw.wear, wfar := h.wfar, bad := hw.bad, bfar := h.bfar, dl := by rw [List.length_set]; exact h.dl, wl := h.wl, all := ?_, geo := h.geo, badn := h.badn }
  · exact Sl.of_blk hg hC (by rw [List.length_set]; exact h.len) hc hm
  · intro i r l hr hl
    simp only [List.getElem?_set] at hr hl
    by_cases he : s = i
    · subst he
      rw [if_pos rfl, if_pos (by rw [h.len]; exact hs)] at hr
      rw [if_pos rfl, if_pos (by rw [h.dl]; exact hs)] at hl
      injection hr with hr
      injection hl with hl
      subst hr; subst hl
      have := byt_blk hL (by omega) hcm
      rw [hrl] at this
      exact ⟨this, far_new lim n2 _ _ _, _, _, _, rfl⟩
    · rw [if_neg he] at hr hl
      exact hw.row i r l hr hl
  · intro l hl
    rcases List.mem_or_eq_of_mem_set hl with h1 | h1
    · exact h.all l h1
    · subst h1; exact ⟨hrl, hr8⟩
theorem info_u8E : (Tryz.prog.info? 5).map (fun i => (i.zero, i.size, i.bytes)) = some (some (.int .u8 0), 1, 1) := by kernel_rfl
theorem rRow_next {lb : List Nat} {down c : Bool} {whole mask p : Nat} {l : List Nat} {j x m old : Nat} (hx : lb[j]? = some x) (hm : rMask c whole mask j = m) (ho : (rRow lb down c whole mask p l j).getD (p + j) 0 = old) :
    rRow lb down c whole mask p l (j + 1) = (rRow lb down c whole mask p l j).set (p + j) (rBits old x m down) := by
  rw [rRow, hm, ho, List.getD_eq_getElem?_getD, hx]; rfl
end Go.Proofs.YthiimpleljaimaaGreatDoor

/- The document's device: programmed, erased. -/
namespace Go.Proofs.YthiimpleljaimaaGreatDoor
open Go.RowKit Flo

abbrev RefPost (O : Nat → Prop) (w : World) (R : RV) (p : Nat × Nor) (e : Ending) (w' : World) : Prop :=
  ∃ R' : RV, e = .returned (.tuple #[i64 p.1, R'.val p.2]) ∧ RefR O w' R' p.2 ∧ Below w.heap.size w w' ∧ R'.mask = R.mask ∧ R'.left ≤ R.left
theorem RefR.badAt {O : Nat → Prop} {w : World} {R : RV} {N : Nor} (h : RefR O w R N) (k : Nat) (hk : k < N.S) : ∃ ad : Addr, R.bA = some ad ∧ ad.block < w.heap.size ∧ w.cell? (ad.add k) = some (.bool (N.isBad k)) := by
  have hbd := h.bad
  obtain ⟨b, off, hA, hb, hx⟩ := hbd.at (by omega)
  refine ⟨⟨b, off, none⟩, hA, hb, ?_⟩
  have := (hx k [.bool (N.isBad k)] (by simp [hk])).2 0 _ rfl
  rw [Addr.add_lit, show off + k = off + k * 1 + 0 by omega]
  exact this
/-- What is written may be more, where none of it is read. -/
theorem RefR.wider {O Q : Nat → Prop} {w : World} {R : RV} {N : Nor} (h : RefR O w R N) (hq : ∀ k, Q k → O k ∨ w.heap.size ≤ k) : RefR Q w R N := by
  have hg := geoB_yes h.geo
  have far : ∀ {k n cap : Nat} {A : Option Addr} {xs : List (List Value)}, Sl w k (.slice A n cap) xs → 0 < n → Far O (.slice A n cap) → Far Q (.slice A n cap) := by
    intro k n cap A xs hs hn hf b off n' c' he hQ
    rcases hq b hQ with h1 | h1
    · exact hf b off n' c' he h1
    · obtain ⟨b', off', hA, hb, _⟩ := hs.at hn
      injection he with he
      rw [hA] at he
      injection he with he
      injection he with he
      omega
  refine { h with dfar := far h.data (by omega) h.dfar, row := ?_, wfar := far h.wear (by omega) h.wfar, bfar := far h.bad (by omega) h.bfar }
  intro i r l h1 h2
  obtain ⟨a1, a2, ad, n, c, rfl⟩ := h.row i r l h1 h2
  refine ⟨a1, ?_, _, _, _, rfl⟩
  have hn := a1.len
  rw [List.length_map, (h.all l (List.mem_of_getElem? h2)).1] at hn
  exact far a1 (by omega) a2
theorem RefR.sub {O Q : Nat → Prop} {w : World} {R : RV} {N : Nor} (h : RefR O w R N) (hq : ∀ k, Q k → O k) : RefR Q w R N :=
  h.wider (fun k hk => .inl (hq k hk))
theorem sets_out {Q : Nat → Prop} {g : Nat} (hg : Q g) : ∀ (vs : List Value) (W W' : World) (k : Nat), Out Q W W' → Out Q W (sets W' g k vs)
  | [], _, _, _, h => h
  | v :: vs, W, _, k, h => sets_out hg vs W _ _ (h.set hg k v)

end Go.Proofs.YthiimpleljaimaaGreatDoor

/- The document's device erased. -/
namespace Go.Proofs.YthiimpleljaimaaGreatDoor
open Go.RowKit Flo

theorem RefR.wear' {O : Nat → Prop} {w W : World} {R : RV} {N : Nor} (h : RefR O w R N) (hb : Below w.heap.size w W) {g cp k x : Nat} {C : List Value}
    (hg : W.heap[g]? = some (Obj.cells C.toArray 3 (0, 0))) (hC : C.take N.S = (N.wear.set k x).map fun n : Nat => i64 n) (n1 : ¬ O g) (hc : N.S ≤ cp) (hm : cp ≤ maxLen) :
    RefR O W { R with wA := some ⟨g, 0, none⟩, wc := cp } { N with wear := N.wear.set k x } := by
  have hw := h.below hb
  refine { hw with wear := ?_, wfar := (by intro b off n c e; injection e with e; injection e with e; injection e with e; rw [← e]; exact n1), wl := by rw [List.length_set]; exact h.wl }
  have := Sl.of_blk hg hC (by rw [List.length_map, List.length_set]; exact h.wl) hc hm
  rw [List.map_map] at this
  show Sl _ _ _ _
  rw [List.map_map]
  exact this
end Go.Proofs.YthiimpleljaimaaGreatDoor

/- The document's device made. -/
namespace Go.Proofs.YthiimpleljaimaaGreatDoor
open Go.RowKit Flo

/-! ### Blocks told apart by their elements' type -/
theorem keepT {W W' : World} {e : TypeId} {base n : Nat} {v : Value} {xs : List Value} (own : W.ownsRow base e 1 v n xs) (hg : W.grownBy W' v.ownBlock) {g : Nat} {c : Array Value} {t : TypeId} {f : Nat × Nat} (hx : W.heap[g]? = some (.cells c t f)) (hne : t ≠ e) : W'.heap[g]? = some (.cells c t f) := by
  rw [hg.block g (Array.getElem?_eq_some_iff.1 hx).1 ?_]
  · exact hx
  · intro he
    rcases own.2 with ⟨h1, _⟩ | ⟨g', cap, cur, h1, _, hgg, _⟩
    · rw [h1] at he; cases he
    · rw [h1] at he
      injection he with he
      subst he
      rw [hx] at hgg
      injection hgg with hgg
      injection hgg with _ h2
      exact hne h2
theorem keepS {W : World} {d g : Nat} {c c' : Array Value} {t T : TypeId} {f f' : Nat × Nat} (hd : W.heap[d]? = some (.cells c' T f')) (hx : W.heap[g]? = some (.cells c t f)) (hne : t ≠ T) (o : Nat) (v : Value) : (W.setCell ⟨d, o, none⟩ v).heap[g]? = some (.cells c t f) := by
  refine blk_set hx o v (fun e => ?_)
  subst e
  rw [hx] at hd
  injection hd with hd
  injection hd with _ h2
  exact hne h2
theorem own_keep {W W' : World} {base n : Nat} {e2 : TypeId} {v : Value} {xs : List Value} (h : W.ownsRow base e2 1 v n xs) (hk : ∀ (g : Nat) (c : Array Value), W.heap[g]? = some (Obj.cells c e2 (0, 0)) → W'.heap[g]? = some (Obj.cells c e2 (0, 0))) : W'.ownsRow base e2 1 v n xs := by
  refine ⟨h.1, ?_⟩
  rcases h.2 with hn | ⟨g, cap, cur, rfl, hbg, hgg, rest⟩
  · exact .inl hn
  · exact .inr ⟨g, cap, cur, rfl, hbg, hk g cur hgg, rest⟩

theorem below_grown {w W W' : World} {e : TypeId} {base n : Nat} {v : Value} {xs : List Value} (h : Below w.heap.size w W) (own : W.ownsRow base e 1 v n xs) (hg : W.grownBy W' v.ownBlock) (hB : w.heap.size ≤ base) : Below w.heap.size w W' :=
  Base.gr h hg (fun k hk => by have := (own.lt k hk).1; omega)
theorem own_val {W : World} {base : Nat} {e : TypeId} {v : Value} {n : Nat} {xs : List Value} (h : W.ownsRow base e 1 v n xs) : ∃ A cap, v = .slice A n cap := by
  rcases h.2 with ⟨h1, h2⟩ | ⟨g, cap, cur, h1, _⟩
  · exact ⟨none, 0, by rw [h1, h2]⟩
  · exact ⟨_, _, h1⟩
theorem news_set (w : World) (p : Addr) (v : Value) (cs : List Value) (t : TypeId) : ∀ j u, cs[j]? = some u → ((w.setCell p v).alloc (.cells cs.toArray t)).cell? ((⟨w.heap.size, 0, none⟩ : Addr).add j) = some u := by
  have := news_of (w.setCell p v) cs t
  rwa [show (w.setCell p v).heap.size = w.heap.size by simp [World.setCell]] at this
theorem own_lit (wo : World) (e : TypeId) : (wo.alloc (.cells #[] e)).ownsRow wo.heap.size e 1 (.slice (some ⟨wo.heap.size, 0, none⟩) 0 0) 0 [] :=
  ⟨rfl, .inr ⟨wo.heap.size, 0, #[], rfl, Nat.le_refl _, blk_new _ _, Nat.le_refl _, Nat.zero_le _, rfl, rfl⟩⟩

end Go.Proofs.YthiimpleljaimaaGreatDoor

/- An operation of the law: what it makes of a device, and of the document's. -/
namespace Go.Proofs.YthiimpleljaimaaGreatDoor
open Go.RowKit Flo

/-- What is left of a device. -/
noncomputable def Nor.doo (N : Nor) (o : OpV) (lb : List Nat) (g : Nat) : Nor :=
  if o.kind = 0 then (N.prog (ofPl o.sector o.offset).1 (ofPl o.sector o.offset).2 lb).2
  else if o.kind = 1 then (N.erase o.sector).2
  else if o.kind = 2 then N
  else if o.kind = 3 then N.cutAt o.n o.k o.mask g
  else if o.kind = 4 then N.turn
  else if o.kind = 5 then { N with off := false }
  else N.spoil o.sector
/-- The operation as it stands in memory. -/
structure OpFit (O : Nat → Prop) (w : World) (o : OpV) (lb : List Nat) : Prop where
  bytes : Byt w (.slice o.A o.bn o.bc) lb
  lt : ∀ x ∈ lb, x < 256
  far : 0 < lb.length → Far O (.slice o.A o.bn o.bc)
  small : lb.length ≤ 6000
  n64 : -9223372036854775808 ≤ o.n ∧ o.n ≤ 9223372036854775807
  k64 : -9223372036854775808 ≤ o.k ∧ o.k ≤ 9223372036854775807
  mask : o.mask < 256
theorem Sl.out0 {O : Nat → Prop} {w w' : World} {k : Nat} {v : Value} {xs : List (List Value)} (h : Sl w k v xs) (hf : 0 < xs.length → Far O v) (hb : Out O w w') : Sl w' k v xs := by
  by_cases h0 : 0 < xs.length
  · exact Sl.out h (hf h0) hb
  · obtain ⟨A, cap, hv, hl, hm, hn, _⟩ := h
    exact ⟨A, cap, hv, hl, hm, hn, fun h1 => absurd h1 h0⟩
theorem OpFit.out {O : Nat → Prop} {w w' : World} {o : OpV} {lb : List Nat} (h : OpFit O w o lb) (hb : Out O w w') : OpFit O w' o lb :=
  { h with bytes := Sl.out0 h.bytes (by rw [List.length_map]; exact h.far) hb }
structure Bd (N : Nor) (j : Nat) : Prop where
  acts : N.acts ≤ j
  offs : N.offs ≤ j
  wear : ∀ n ∈ N.wear, n ≤ j
  cut : ∀ c, N.cut = some c → c.1 ≤ 9223372036854775807
/-- What an operation comes to. -/
abbrev DoPost (O E : Nat → Prop) (w : World) (N M : Nor) (o : OpV) (lb : List Nat) (e : Ending) (w' : World) : Prop :=
  ∃ (bb : Bool) (R' : RV) (O' : Nat → Prop) (g : Nat), e = .returned (.tuple #[.bool bb, R'.val (M.doo o lb g)]) ∧ (N = M → bb = true) ∧ DevR O' w' (N.doo o lb g) ∧ RefR (fun k => O' k ∨ E k) w' R' (M.doo o lb g) ∧ Out O w w' ∧ (∀ k, O' k → O k ∨ w.heap.size ≤ k) ∧ R'.mask < 256 ∧ R'.left ≤ 9223372036854775807
structure DoFit (O E : Nat → Prop) (w : World) (N M : Nor) (R : RV) (o : OpV) (lb : List Nat) : Prop where
  dev : DevR O w N
  ref : RefR (fun k => O k ∨ E k) w R M
  limE : ∀ k, E k → k < w.heap.size
  S : M.S = N.S
  Z : M.Z = N.Z
  bN : Bd N 1000
  bM : Bd M 1000
  mask : R.mask < 256
  left : R.left ≤ 9223372036854775807
  op : OpFit O w o lb

/-- Where nothing of it was written, a device is as it was. -/
theorem DevR.keep {O : Nat → Prop} {w w' : World} {N : Nor} (h : DevR O w N) (hs : w.heap.size ≤ w'.heap.size) (hk : ∀ k, O k → w'.heap[k]? = w.heap[k]?) : DevR O w' N where
  lim k hk2 := Nat.lt_of_lt_of_le (h.lim k hk2) hs
  hD := by rw [hk _ h.ownD]; exact h.hD
  hA := by obtain ⟨arr, h1, h2⟩ := h.hA; exact ⟨arr, by rw [hk _ h.ownA]; exact h1, h2⟩
  hW := by rw [hk _ h.ownW]; exact h.hW
  hM := h.hM.of_block (hk _ h.ownM)
  hR i l hl := by obtain ⟨b, j, h1, h2⟩ := h.hR i l hl; exact ⟨b, j, h1, by rw [hk _ (h.ownR b (List.mem_of_getElem? h1))]; exact h2⟩
  hC c hc := by rw [hk _ (h.ownC c hc)]; exact h.hC c hc
  bkl := h.bkl
  dl := h.dl
  wl := h.wl
  row := h.row
  geo := h.geo
  badt := h.badt
  cdl := h.cdl
  mask := h.mask
  ownD := h.ownD
  ownA := h.ownA
  ownW := h.ownW
  ownM := h.ownM
  ownC := h.ownC
  ownR := h.ownR
  apart := h.apart
  apartC := h.apartC
theorem DevR.outQ {O Q : Nat → Prop} {w w' : World} {N : Nor} (h : DevR O w N) (hb : Out Q w w') (hq : ∀ k, O k → ¬ Q k) : DevR O w' N :=
  h.keep hb.size (fun k hk => hb.block k (h.lim k hk) (hq k hk))

/-- 'append([]T{}, src...)', T of one cell, src empty or not. -/
theorem wpList_append_copy {P : Program} (w : World) {ops : Array Oper} {rest : List Oper} {o : Oper} {a : Act} {Q : Exit → Act → World → Prop} (hgd : o.guard = none) (s x : Operand) (t : TypeId)
    (ho : o.op = .call { callee := .builtin .append, args := #[s, x], argTypes := #[t, t] })
    (e : TypeId) (i : TypeInfo) (z : Value) (ht : P.underlying t = some (.slice e)) (hi : P.info? e = some i) (hz : i.zero = some z) (hsize : i.size = 1) (hby : i.bytes ≤ 1000)
    (b : Nat) (hs : a.eval s = .slice (some ⟨b, 0, none⟩) 0 0) (A : Option Addr) (n c : Nat) (news : List Value) (hx : a.eval x = .slice A n c) (hsl : Sl w 1 (.slice A n c) (news.map fun x => [x])) (hm : n ≤ 100000)
    (h : ∀ (b' cp : Nat) (w' : World), Below w.heap.size w w' → (b' = b ∨ b' = w.heap.size) → Sl w' 1 (.slice (some ⟨b', 0, none⟩) n cp) (news.map fun x => [x]) → wpList P ops Q rest (a.put o.dst (.slice (some ⟨b', 0, none⟩) n cp)) w') : wpList P ops Q (o :: rest) a w := by
  have hl := hsl.len
  rw [List.length_map] at hl
  by_cases hn : 0 < n
  · obtain ⟨ad, rfl⟩ := hsl.some hn
    refine wpList_append_fresh w hgd s x t ho e i z ht hi hz hsize hby ⟨b, 0, none⟩ hs ad n c news hx hl.symm hn hm (Sl.src1 hsl) ?_
    intro cp junk h1 h2
    refine h w.heap.size cp _ (Base.dr (Base.al (Below.refl _ _) _)) (.inr rfl) ?_
    have := Sl.of_blk (w := (w.alloc (.cells (news ++ junk).toArray e)).drew) (D := news ++ junk) (xs := news) (n := n) (t := e) (blk_new w _) (List.take_left' hl.symm) hl.symm h1 h2
    exact this
  · obtain rfl : n = 0 := by omega
    have : news = [] := List.eq_nil_of_length_eq_zero hl.symm
    subst this
    have hr : (Builtin.append_ #[t, t] o.type #[.slice (some ⟨b, 0, none⟩) 0 0, .slice A 0 c]).run P w = .ok (.slice (some ⟨b, 0, none⟩) 0 0) w := by
      cases A <;> simp [Builtin.append_, run_underlying ht, sizeOf, typeInfo, hi, Builtin.lenOf, Builtin.firstCells, loadCells, loadCellsFrom, storeCells]
    refine wpList_plain hgd fun K hK => ?_
    unfold Oper.wp execOp
    simp only [ho, resolve, invoke, builtin, Sem.run_bind, Sem.run_pure, Result.andThen_ok, List.map_toArray, List.map_cons, List.map_nil, hs, hx, hr]
    exact hK _ _ (h b 0 w (Below.refl _ _) (.inl rfl) ⟨some ⟨b, 0, none⟩, 0, rfl, Nat.le_refl _, Nat.zero_le _, (fun h => by cases h), fun h => absurd h (by decide)⟩)
theorem far_ge {O : Nat → Prop} {w : World} (lim : ∀ k, O k → k < w.heap.size) {g : Nat} (hg : w.heap.size ≤ g) (o n c : Nat) : Far O (.slice (some ⟨g, o, none⟩) n c) := far_new lim hg o n c
/-- A world that differs in the blocks O alone. -/
structure OutOf (O : Nat → Prop) (w : World) where
  v : World
  h : Out O w v
instance (O : Nat → Prop) (w : World) : Nonempty (OutOf O w) := ⟨⟨w, Out.refl _ _⟩⟩
instance (O : Nat → Prop) (w : World) : Inhabited (OutOf O w) := ⟨⟨w, Out.refl _ _⟩⟩
theorem out_rd {O : Nat → Prop} {w : World} {b o : Nat} {v : Value} (hb : b < w.heap.size) (hn : ¬ O b) (h : w.cell? ⟨b, o, none⟩ = some v) (p : OutOf O w) : p.v.cell? ⟨b, o, none⟩ = some v := by
  rw [← h]
  exact cell_heap (p.h.block b hb hn)
theorem RefR.on {O : Nat → Prop} {w : World} {R : RV} {N : Nor} (h : RefR O w R N) : RefR O w R { N with off := false } := { h with }
theorem zero_u8 (w : World) : (zeroValue 5).run Tryz.prog w = .ok (.int .u8 0) w := by
  obtain ⟨i, hi, hz, _, _⟩ := info_parts info_u8E
  simp [zeroValue, typeInfo, hi, hz]
/-- 'clear' of bytes of one's own. -/
theorem clear_own {w : World} {base n : Nat} {v : Value} {xs : List Value} (h : w.ownsRow base 5 1 v n xs) :
    ∃ w', (Builtin.clear_ #[22] 0 #[v]).run Tryz.prog w = .ok (.tuple #[]) w' ∧ w.grownBy w' v.ownBlock := by
  rcases h.2 with ⟨rfl, rfl⟩ | ⟨g, cap, cur, rfl, hbg, hgg, hnc, hcm, hcs, htake⟩
  · exact ⟨w, by simp [Builtin.clear_, run_underlying Tryz.underlying22], grown_refl _ _⟩
  · refine ⟨_, run_clear_row w (t := 22) (e := 5) Tryz.underlying22 (zero_u8 w) rfl rfl hgg (by omega), grown_setRow (grown_refl _ _) _⟩
end Go.Proofs.YthiimpleljaimaaGreatDoor

