/- (*Store).writes of new pairs. -/
import Derived.Test.YthiimpleljaimaaGreatDoorSu7
import Derived.Test.YthiimpleljaimaaGreatDoorMg13
import Derived.Test.YthiimpleljaimaaGreatDoorMg12
import Derived.Test.YthiimpleljaimaaGreatDoorMg4
namespace Go.Proofs.YthiimpleljaimaaGreatDoor
open Go Go.RowKit Flo
attribute [local go_sem] run_store_complex

theorem itemB_len (n v i c s o : Nat) (g : Bool) (k u : ByteArray) : (itemB n v i c s o g k u).length = 24 + k.size + u.size := by
  unfold itemB headIt
  simp [be_len, sb]
  omega
theorem frame_lt {l : List Nat} (h : ∀ b ∈ l, b < 256) : ∀ b ∈ frameB l, b < 256 := by
  intro b hb
  unfold frameB at hb
  simp only [List.mem_append, List.mem_cons, List.not_mem_nil, or_false] at hb
  rcases hb with (((hb | hb) | hb) | hb) | hb
  · omega
  · exact be_lt _ _ _ hb
  · exact be_lt _ _ _ hb
  · exact h b hb
  · omega
theorem row_cell {cur : Array Value} {n : Nat} {xs : List Value} (h : cur.toList.take n = xs) {j : Nat} {u : Value} (hj : xs[j]? = some u) : cur[j]? = some u := by
  rw [← h, List.getElem?_take] at hj
  split at hj
  · simpa using hj
  · cases hj
theorem outB {Q : Nat → Prop} {B : Nat} {w v : World} (h : Below B w v) (hq : ∀ k, B ≤ k → Q k) : Out Q w v := ⟨h.os, h.tape, h.output, h.size, fun k _ hn => h.block k (by
  rcases Nat.lt_or_ge k B with h1 | h1
  · exact h1
  · exact absurd (hq k h1) hn)⟩
/-- The blocks of a store, its shelf and its device. -/
abbrev stO (O : Nat → Prop) (T : StV) (k : Nat) : Prop := shO O T.H k ∨ T.own k
/-- The store's own blocks are the old ones, or new. -/
abbrev OwnGrow (T T' : StV) (n : Nat) : Prop := ∀ b, T'.own b → T.own b ∨ n ≤ b
theorem own_add {T T1 : StV} {n : Nat} {v : Value} {x : Nt} (h : OwnGrow T T1 n) (hx : n ≤ x.b) (hv : v.ownBlock = T1.nv.ownBlock ∨ ∃ g, v.ownBlock = some g ∧ n ≤ g) (T2 : StV) (e1 : T2.TB = T1.TB) (e2 : T2.MB = T1.MB) (e3 : T2.nv = v) (e4 : T2.nts = T1.nts ++ [x]) : OwnGrow T T2 n := by
  intro b hb
  rcases hb with hb | hb | hb | ⟨y, hy, hb⟩
  · exact h b (.inl (hb.trans e1))
  · exact h b (.inr (.inl (hb.trans e2)))
  · rw [e3] at hb
    rcases hv with hv | ⟨g, hv, hg⟩
    · exact h b (.inr (.inr (.inl (hv ▸ hb))))
    · rw [hv] at hb
      injection hb with hb
      exact .inr (by omega)
  · rw [e4] at hy
    rcases List.mem_append.1 hy with hy | hy
    · exact h b (.inr (.inr (.inr ⟨y, hy, hb⟩)))
    · rw [List.mem_singleton] at hy
      subst hy
      exact .inr (by omega)
theorem own_same {T T1 : StV} {n : Nat} (h : OwnGrow T T1 n) (T2 : StV) (e1 : T2.TB = T1.TB) (e2 : T2.MB = T1.MB) (e3 : T2.nv = T1.nv) (e4 : T2.nts.map Nt.b = T1.nts.map Nt.b) : OwnGrow T T2 n := by
  intro b hb
  rcases hb with hb | hb | hb | ⟨y, hy, hb⟩
  · exact h b (.inl (hb.trans e1))
  · exact h b (.inr (.inl (hb.trans e2)))
  · exact h b (.inr (.inr (.inl (e3 ▸ hb))))
  · have : y.b ∈ T1.nts.map Nt.b := by rw [← e4]; exact List.mem_map.2 ⟨y, hy, rfl⟩
    obtain ⟨z, hz, e⟩ := List.mem_map.1 this
    exact h b (.inr (.inr (.inr ⟨z, hz, by rw [hb, e]⟩)))
/-- The pointer of a note, in the store's row. -/
theorem StR.noteAt {O : Nat → Prop} {B : Nat} {w : World} {T : StV} (h : StR O B w T) {g m c : Nat} (hv : T.nv = .slice (some ⟨g, 0, none⟩) m c) {i : Nat} {x : Nt} (hi : T.nts[i]? = some x) : w.cell? ⟨g, i, none⟩ = some x.ptr := by
  rcases h.own.2 with ⟨_, h2⟩ | ⟨g', c', cur, h1, h2, h3, h4, h5, h6, h7⟩
  · rw [List.eq_nil_of_length_eq_zero h2] at hi
    cases hi
  · rw [hv] at h1
    injection h1 with h1 _ _
    injection h1 with h1
    injection h1 with h1 _ _
    subst h1
    have : cur[i]? = some x.ptr := row_cell (n := T.nts.length) (by simpa using h7) (by rw [List.getElem?_map, hi]; rfl)
    rw [← this]
    exact cell_blk h3 i
/-- A note counts, wherever it stands. -/
theorem StR.countedAt {O : Nat → Prop} {B : Nat} {w : World} {T : StV} (h : StR O B w T) {xs ys : List Nt} {x : Nt} (hx : T.nts = xs ++ x :: ys) : StR O B (w.setCell ⟨x.b, 12, none⟩ (.bool true)) { T with nts := xs ++ { x with cnt := true } :: ys } := by
  have hm : x ∈ T.nts := by rw [hx]; simp
  have hxb := h.nt x hm
  have hb : Below B w (w.setCell ⟨x.b, 12, none⟩ (.bool true)) := lowSt w hxb.2 _ _
  have hnd := h.nd
  rw [hx, List.map_append, List.map_cons, List.nodup_append, List.nodup_cons] at hnd
  refine { h with sh := h.sh.baseB h.lim hb, box := blk_set h.box _ _ (ne_type h.box hxb.1 (by decide)), own := ?_, nt := ?_, nd := ?_, map := h.map.of_block (Below.heap_setCell _ _ _ _ (map_ne h.map hxb.1)), tree := h.tree.keep fun g cs f _ hy => blk_set hy _ _ (ne_type hy hxb.1 (by decide)) }
  · have := own_setT (o := 12) (u := .bool true) h.own hxb.1 (by decide)
    rw [hx] at this
    simpa using this
  · intro y hy
    rcases List.mem_append.1 hy with hy | hy
    · have hyT : y ∈ T.nts := by rw [hx]; exact List.mem_append_left _ hy
      refine ⟨blk_set (h.nt y hyT).1 _ _ ?_, (h.nt y hyT).2⟩
      exact hnd.2.2 y.b (List.mem_map.2 ⟨y, hy, rfl⟩) x.b (by simp)
    · rcases List.mem_cons.1 hy with hy | hy
      · subst hy
        refine ⟨?_, hxb.2⟩
        rw [heap_setCell hxb.1]
        rfl
      · have hyT : y ∈ T.nts := by rw [hx]; exact List.mem_append_right _ (List.mem_cons_of_mem _ hy)
        refine ⟨blk_set (h.nt y hyT).1 _ _ ?_, (h.nt y hyT).2⟩
        intro e
        exact hnd.2.1.1 (List.mem_map.2 ⟨y, hy, e⟩)
  · have := h.nd
    rw [hx] at this
    simpa using this
/-- A block of another type is none of the store's own. -/
theorem StR.notOwn {O : Nat → Prop} {B : Nat} {w : World} {T : StV} (h : StR O B w T) {k : Nat} {cs : Array Value} {t : TypeId} {f : Nat × Nat} (hk : w.heap[k]? = some (.cells cs t f)) (t1 : t ≠ 124) (t2 : t ≠ 188) (t3 : t ≠ 190) : ¬ T.own k := by
  rintro (hb | hb | hb | ⟨y, hy, hb⟩)
  · exact ne_type hk h.box t1 hb
  · exact map_ne h.map hk hb.symm
  · rcases h.own.2 with ⟨h1, _⟩ | ⟨g, c, cur, h1, _, hg, _⟩
    · rw [h1] at hb; cases hb
    · rw [h1] at hb
      injection hb with hb
      subst hb
      exact ne_type hk hg t2 rfl
  · exact ne_type hk (h.nt y hy).1 t3 hb
/-- The items of a slice: their cells. -/
theorem items_cell {W : World} {g n c : Nat} {xs : List Item} (h : Sl W 8 (.slice (some ⟨g, 0, none⟩) n c) (xs.map Item.row)) {k : Nat} {x : Item} (hk : xs[k]? = some x) :
    g < W.heap.size ∧ W.cell? ⟨g, k * 8, none⟩ = some (.int .u64 x.seq) ∧ W.cell? ⟨g, k * 8 + 1, none⟩ = some (.int .u64 x.ver) ∧ W.cell? ⟨g, k * 8 + 2, none⟩ = some (i64 x.index) ∧ W.cell? ⟨g, k * 8 + 3, none⟩ = some (i64 x.count) ∧
    W.cell? ⟨g, k * 8 + 4, none⟩ = some (cx x.a x.b) ∧ W.cell? ⟨g, k * 8 + 5, none⟩ = some (.bool x.gone) ∧ W.cell? ⟨g, k * 8 + 6, none⟩ = some (.string x.key) ∧ W.cell? ⟨g, k * 8 + 7, none⟩ = some (.string x.value) := by
  have hl := h.len
  rw [List.length_map] at hl
  have hkl := (List.getElem?_eq_some_iff.1 hk).1
  obtain ⟨b, off, hA, hb, hx⟩ := h.at (by omega)
  injection hA with hA
  injection hA with h1 h2 _
  subst h1; subst h2
  have key := (hx k x.row (by rw [List.getElem?_map, hk]; rfl)).2
  have kk : ∀ j u, x.row[j]? = some u → W.cell? ⟨g, k * 8 + j, none⟩ = some u := fun j u hj => by
    have := key j u hj
    rwa [Nat.zero_add] at this
  exact ⟨hb, kk 0 _ rfl, kk 1 _ rfl, kk 2 _ rfl, kk 3 _ rfl, kk 4 _ rfl, kk 5 _ rfl, kk 6 _ rfl, kk 7 _ rfl⟩

/-- The writing under way: the device, the shelf, its open sector, and where the next frame comes to stand. -/
structure WSt where
  N : Nor
  H : ShV
  a : Option Nat
  qa : Nat
  qb : Nat
  sec : Nat
  off : Nat
/-- A step of the writing. -/
structure WStep (P R : WSt) (b : List Nat) (seq : Int) : Prop where
  w : writeP P.N P.H P.a b seq = ((P.qa, P.qb), 0, R.H, R.N)
  ok : ShOk P.H P.a
  acts : P.N.acts ≤ 900000
  offs : P.N.offs ≤ 900000
  cut : ∀ c, P.N.cut = some c → c.1 ≤ 9223372036854775807
  bd : ∀ H' N', opensP P.N { P.H with op := -1 } = (0, H', N') → N'.acts ≤ 1000000 ∧ N'.offs ≤ 1000000 ∧ ∀ c, N'.cut = some c → c.1 ≤ 9223372036854775807
  pa : part? P.qa = some P.sec
  pb : part? P.qb = some P.off
structure WKeep (N N' : Nor) (H H' : ShV) : Prop where
  D : N'.D = N.D
  S : N'.S = N.S
  Z : N'.Z = N.Z
  SB : H'.SB = H.SB
  LB : H'.LB = H.LB
  EB : H'.EB = H.EB
theorem WKeep.own {N N' : Nor} {H H' : ShV} (h : WKeep N N' H H') {O : Nat → Prop} {k : Nat} (hk : shO O H' k) : shO O H k := by
  rcases hk with hk | hk | hk | hk
  · exact .inl hk
  · exact .inr (.inl (hk.trans h.SB))
  · exact .inr (.inr (.inl (hk.trans h.LB)))
  · exact .inr (.inr (.inr (hk.trans h.EB)))
/-- The note of an item that was written. -/
abbrev ntOf (items : Nat → Item) (rec : Nat → List Nat) (st : Nat → WSt) (c : Bool) (b j : Nat) : Nt := ⟨b, ⟨(st j).qa, (st j).qb, ((frameB (rec j)).length : Nat), false, items j⟩, ((st j).sec : Nat), c⟩
/-- The newest items, and the tree, behind so many new ones. -/
def nmGo (items : Nat → Item) (bf : Nat → Nat) (nm : List (ByteArray × Value)) : Nat → List (ByteArray × Value)
  | 0 => nm
  | j + 1 => mput (nmGo items bf nm j) (items j).key (.pointer (some ⟨bf j, 0, none⟩))
def trGo (items : Nat → Item) (t : Tr) : Nat → Tr
  | 0 => t
  | j + 1 => setT (items j).key (items j).value (trGo items t j)
theorem trGo_size (items : Nat → Item) (t : Tr) : ∀ j, (trGo items t j).size ≤ t.size + j
  | 0 => Nat.le_refl _
  | j + 1 => by
    have h1 := trGo_size items t j
    have h2 := setT_size (items j).key (items j).value (trGo items t j)
    show (setT _ _ _).size ≤ _
    omega
theorem nmGo_nodup {items : Nat → Item} {bf : Nat → Nat} {nm : List (ByteArray × Value)} (h : (nm.map Prod.fst).Nodup) : ∀ j, ((nmGo items bf nm j).map Prod.fst).Nodup
  | 0 => h
  | j + 1 => mput_nodup (nmGo_nodup h j) _ _
theorem nmGo_none {items : Nat → Item} {bf : Nat → Nat} {nm : List (ByteArray × Value)} (h : (nm.map Prod.fst).Nodup) (key : ByteArray) (h0 : mget nm key = none) : ∀ j, (∀ i, i < j → (items i).key ≠ key) → mget (nmGo items bf nm j) key = none
  | 0, _ => h0
  | j + 1, hd => by
    show mget (mput _ _ _) key = none
    rw [mget_mput (nmGo_nodup h j), if_neg (fun e => hd j (Nat.lt_succ_self j) e.symm)]
    exact nmGo_none h key h0 j (fun i hi => hd i (by omega))
/-- The new notes: those ahead of j count. -/
def ntsGo (items : Nat → Item) (rec : Nat → List Nat) (st : Nat → WSt) (bf : Nat → Nat) (n j : Nat) : List Nt :=
  (List.range j).map (fun i => ntOf items rec st true (bf i) i) ++ (List.range' j (n - j)).map (fun i => ntOf items rec st false (bf i) i)
theorem ntsGo_len (items : Nat → Item) (rec : Nat → List Nat) (st : Nat → WSt) (bf : Nat → Nat) {n j : Nat} (h : j ≤ n) : (ntsGo items rec st bf n j).length = n := by
  unfold ntsGo
  simp
  omega
theorem ntsGo_at (items : Nat → Item) (rec : Nat → List Nat) (st : Nat → WSt) (bf : Nat → Nat) {n j : Nat} (h : j < n) : ntsGo items rec st bf n j = (List.range j).map (fun i => ntOf items rec st true (bf i) i) ++ ntOf items rec st false (bf j) j :: (List.range' (j + 1) (n - (j + 1))).map (fun i => ntOf items rec st false (bf i) i) := by
  unfold ntsGo
  rw [show n - j = (n - (j + 1)) + 1 by omega, List.range'_succ]
  rfl
theorem ntsGo_next (items : Nat → Item) (rec : Nat → List Nat) (st : Nat → WSt) (bf : Nat → Nat) (n j : Nat) : (List.range j).map (fun i => ntOf items rec st true (bf i) i) ++ ntOf items rec st true (bf j) j :: (List.range' (j + 1) (n - (j + 1))).map (fun i => ntOf items rec st false (bf i) i) = ntsGo items rec st bf n (j + 1) := by
  unfold ntsGo
  rw [List.range_succ, List.map_append, List.append_assoc]
  rfl
theorem ntsGo_snoc (items : Nat → Item) (rec : Nat → List Nat) (st : Nat → WSt) (bf : Nat → Nat) (k nb : Nat) : ∃ bf' : Nat → Nat, ntsGo items rec st bf k 0 ++ [ntOf items rec st false nb k] = ntsGo items rec st bf' (k + 1) 0 := by
  refine ⟨fun i => if i = k then nb else bf i, ?_⟩
  unfold ntsGo
  simp only [List.range_zero, List.map_nil, List.nil_append, Nat.sub_zero]
  rw [← List.range_eq_range', ← List.range_eq_range', List.range_succ, List.map_append]
  congr 1
  · refine List.map_congr_left fun i hi => ?_
    have := List.mem_range.1 hi
    simp only [if_neg (show i ≠ k by omega)]
  · simp
end Go.Proofs.YthiimpleljaimaaGreatDoor

/- (*Store).writes of new pairs: the walk. -/
namespace Go.Proofs.YthiimpleljaimaaGreatDoor
open Go Go.RowKit Flo
attribute [local go_sem] run_store_complex

/-- What the writing of new pairs asks for. -/
structure WNew (T : StV) (l : List Pair) (vers : List Int) (ps : List (Nat × Nat)) (rec : Nat → List Nat) (st : Nat → WSt) : Prop where
  ok : linkOk T.seq l vers ps
  recs : ∀ k, k < l.length → ∃ seq ver idx cnt s o, Plain (linkItem T.seq l vers ps k) seq ver idx cnt s o ∧ rec k = itemB seq ver idx cnt s o (linkItem T.seq l vers ps k).gone (linkItem T.seq l vers ps k).key (linkItem T.seq l vers ps k).value
  st0N : (st 0).N = T.N
  st0H : (st 0).H = T.H
  step : ∀ k, k < l.length → WStep (st k) (st (k + 1)) (frameB (rec k)) T.seq
  keep : ∀ k, k ≤ l.length → WKeep T.N (st k).N T.H (st k).H
  gone : ∀ k, k < l.length → (linkItem T.seq l vers ps k).gone = false
  new : ∀ k, k < l.length → mget T.nm (linkItem T.seq l vers ps k).key = none
  apart : ∀ i k, i < k → k < l.length → (linkItem T.seq l vers ps i).key ≠ (linkItem T.seq l vers ps k).key
  few : l.length ≤ 255
  seq : T.seq < 1000000
  nts : T.nts.length ≤ 90000
  size : T.t.size ≤ 500000

set_option maxHeartbeats 32000000 in
set_option maxRecDepth 100000 in
theorem writes_new {O : Nat → Prop} {B : Nat} {w : World} {T : StV} (h : StR O B w T) (A V C : Option Addr) (c1 c2 c3 : Nat) (l : List Pair) (vers : List Int) (ps : List (Nat × Nat)) (rec : Nat → List Nat) (st : Nat → WSt) (hW : WNew T l vers ps rec st)
    (h1 : Pairs w (.slice A l.length c1) l) (h2 : U64s w (.slice V vers.length c2) vers) (h3 : Places w (.slice C ps.length c3) ps)
    (f1 : Far (· = T.TB) (.slice A l.length c1)) (f2 : Far (· = T.TB) (.slice V vers.length c2)) (f3 : Far (· = T.TB) (.slice C ps.length c3)) :
    Calls Tryz.prog 99 #[T.ptr, .slice A l.length c1, .slice V vers.length c2, .slice C ps.length c3] w fun e w' => e = .returned (i64 0) ∧ ∃ bf nv trv,
      StR O B w' { T with N := (st l.length).N, H := (st l.length).H, nv := nv, nts := T.nts ++ ntsGo (linkItem T.seq l vers ps) rec st bf l.length l.length, nm := nmGo (linkItem T.seq l vers ps) bf T.nm l.length, trv := trv, t := trGo (linkItem T.seq l vers ps) T.t l.length, seq := T.seq + 1 } ∧ OwnGrow T { T with N := (st l.length).N, H := (st l.length).H, nv := nv, nts := T.nts ++ ntsGo (linkItem T.seq l vers ps) rec st bf l.length l.length, nm := nmGo (linkItem T.seq l vers ps) bf T.nm l.length, trv := trv, t := trGo (linkItem T.seq l vers ps) T.t l.length, seq := T.seq + 1 } w.heap.size ∧ Out (stO O T) w w' := by
  obtain ⟨items, hitems⟩ : ∃ items, linkItem T.seq l vers ps = items := ⟨_, rfl⟩
  obtain ⟨n, hn⟩ : ∃ n, l.length = n := ⟨_, rfl⟩
  have hpos : 0 < n := by rw [← hn]; exact Nat.pos_of_ne_zero hW.ok.1
  have hn255 : n ≤ 255 := by rw [← hn]; exact hW.few
  have GA : ∀ W, Hid (Gives 60 #[.int .u64 T.seq] W (.int .u64 ((T.seq : Int) + 1))) := fun W => Lib.hid (above_any T.seq W (by have := hW.seq; omega))
  have GL := fun W (g1 : Pairs W (.slice A l.length c1) l) (g2 : U64s W (.slice V vers.length c2) vers) (g3 : Places W (.slice C ps.length c3) ps) => Lib.hid (link_any (T.seq : Int) A V C l.length vers.length ps.length c1 c2 c3 l vers ps W g1 g2 g3 (by have := hW.few; omega))
  unfold LinkPost at GL
  have LK := Lib.hid hW.ok
  have GP : ∀ k, k < n → ∀ W, Hid (Calls Tryz.prog 139 #[(items k).val] W fun e w' => ∃ ad n c, e = .returned (.tuple #[.slice (some ad) n c, i64 0]) ∧ Byt w' (.slice (some ad) n c) (rec k) ∧ Below W.heap.size W w') := fun k hk W => Lib.hid (by
    obtain ⟨sq, ver, idx, cnt, s, o, hp, hr⟩ := hW.recs k (by omega)
    rw [hr, ← hitems]
    exact ringPut_yes (linkItem T.seq l vers ps k) sq ver idx cnt s o W (hW.ok.2.2.2 k (by omega)) hp)
  have hrl : ∀ k, k < n → 24 ≤ (rec k).length ∧ (rec k).length ≤ 200 ∧ ∀ b ∈ rec k, b < 256 := fun k hk => by
    obtain ⟨sq, ver, idx, cnt, s, o, hp, hr⟩ := hW.recs k (by omega)
    have h1 := hp.key2
    have h2 := hp.val2
    rw [hr]
    refine ⟨?_, ?_, itemB_lt hp⟩
    · rw [itemB_len]; omega
    · rw [itemB_len]; omega
  have GR := fun k (hk : k < n) a o2 m cap W (g : Byt W (.slice (some ⟨a, o2, none⟩) m cap) (rec k)) => Lib.hid (recPut_any a o2 m cap (rec k) W g (hrl k hk).2.2 (by have := (hrl k hk).2.1; omega) (by have := (hrl k hk).1; omega))
  have GS : ∀ k, k < n → ∀ W (_ : ShD O W (st k).N (st k).H) g c (_ : Byt W (.slice (some ⟨g, 0, none⟩) (frameB (rec k)).length c) (frameB (rec k))) (_ : Far (shO O (st k).H) (.slice (some ⟨g, 0, none⟩) (frameB (rec k)).length c)),
      Hid (Calls Tryz.prog 141 #[(st k).H.ptr, .slice (some ⟨g, 0, none⟩) (frameB (rec k)).length c, .int .u64 (T.seq : Int)] W fun e W' => e = .returned (.tuple #[cx (st k).qa (st k).qb, i64 0]) ∧ ShD O W' (st (k + 1)).N (st (k + 1)).H ∧ Out (shO O (st k).H) W W') := fun k hk W hd g c hy hf => Lib.hid (by
    have hs := hW.step k (by omega)
    have := shWrite_any hd (st k).a hs.ok hs.acts hs.offs hs.cut (some ⟨g, 0, none⟩) _ c (frameB (rec k)) (T.seq : Int) hy (frame_lt (hrl k hk).2.2) hf (by rw [frame_len]; have := (hrl k hk).2.1; omega) hs.bd
    rw [hs.w] at this
    exact this)
  have GD := fun k (hk : k < n) W T' (hT : StR O B W T') (hl : T'.nts.length ≤ 100000) => Lib.hid (adds_no hT ⟨(st k).qa, (st k).qb, ((frameB (rec k)).length : Nat), false, items k⟩ (st k).sec (st k).off (hW.step k (by omega)).pa (hW.step k (by omega)).pb hl)
  have KP := fun k (hk : k ≤ n) => hW.keep k (by omega)
  obtain ⟨An, cn, hnv⟩ : ∃ A c, T.nv = .slice A T.nts.length c := by
    rcases h.own.2 with ⟨h1, h2⟩ | ⟨g', c', _, h1, _⟩
    · exact ⟨_, _, by rw [h1, h2]⟩
    · exact ⟨_, _, h1⟩
  have HNV := Lib.hid hnv
  have hv : ((T.seq + 1 : Nat) : Int) = (T.seq : Int) + 1 := by omega
  have c7 : w.cell? ⟨T.TB, 7, none⟩ = some (.int .u64 T.seq) := cell_blk h.box 7
  have fz := fun o => frozen_blk h.box o
  have hS1 : StR O B (w.setCell ⟨T.TB, 7, none⟩ (.int .u64 ((T.seq + 1 : Nat) : Int))) { T with seq := T.seq + 1 } := h.setBox (T' := { T with seq := T.seq + 1 }) 7 _ rfl rfl h.tree
  have hb1 : Out (· = T.TB) w (w.setCell ⟨T.TB, 7, none⟩ (.int .u64 ((T.seq + 1 : Nat) : Int))) := (Out.refl _ _).set (O := (· = T.TB)) rfl _ _
  have hb1' : Out (stO O T) w (w.setCell ⟨T.TB, 7, none⟩ (.int .u64 ((T.seq + 1 : Nat) : Int))) := (Out.refl _ _).set (.inr (.inl rfl)) _ _
  rw [hv] at hS1 hb1 hb1'
  have G1 := Lib.hid (Sl.out h1 f1 hb1)
  have G2 := Lib.hid (Sl.out h2 f2 hb1)
  have G3 := Lib.hid (Sl.out h3 f3 hb1)
  have HB1 := Lib.hid hb1'
  have HS1 := Lib.hid hS1
  have HLM := Lib.hid h.lim
  have HMN := Lib.hid h.map.nodup
  have HW := Lib.hid hW
  have HRL := Lib.hid hrl
  have hlt := h.lt
  have HI := Lib.hid hitems
  have HN := Lib.hid hn
  have HPOS := Lib.hid hpos
  have HHN := Lib.hid hn255
  have HKP := Lib.hid KP
  rw [hitems, hn]
  rw [hn] at GL G1
  clear h hS1 hb1 hb1' h1 h2 h3 hrl hv hnv f1 f2 f3 hW KP hpos
  go_enter Tryz.func99, Tryz.ntmps99
  go_wp2_with fail
  refine (GA _).out.mono ?_; rintro e x1 ⟨rfl, rfl⟩
  go_wp2_with fail
  generalize x1.setCell ⟨T.TB, 7, none⟩ (.int .u64 ((T.seq : Int) + 1)) = w1 at *
  refine (GL _ G1.out G2.out G3.out).out.mono ?_; rintro e w2 ⟨hyes, -, hb2⟩
  obtain ⟨v, rfl, hown⟩ := hyes LK.out
  rw [HI.out] at hown
  obtain ⟨gi, ci, rfl, hgi, hgt⟩ : ∃ g c, v = .slice (some ⟨g, 0, none⟩) n c ∧ w1.heap.size ≤ g ∧ ∃ cur, w2.heap[g]? = some (.cells cur 129 (0, 0)) := by
    rcases hown.2 with ⟨_, h2⟩ | ⟨g', c', cur, h1, h2, h3, _⟩
    · have := HPOS.out; omega
    · exact ⟨g', c', h1, h2, cur, h3⟩
  have hit : Sl w2 8 (.slice (some ⟨gi, 0, none⟩) n ci) (((List.range n).map items).map Item.row) := Sl.own _ (by intro y hy; obtain ⟨q, _, rfl⟩ := List.mem_map.1 hy; rfl) (by
    rw [List.length_map, List.length_map, List.length_range, ← List.flatMap_def, List.flatMap_map]
    exact hown)
  have HIT := Lib.hid (And.intro hit hgt)
  have HS2 := Lib.hid (HS1.out.below hb2)
  have HB2 := Lib.hid (HB1.out.then hb2)
  have c4 : w2.cell? ⟨T.TB, 4, none⟩ = some (.slice An T.nts.length cn) := by rw [← HNV.out]; exact cell_blk HS2.out.box 4
  have hz1 := HS1.out.base
  have hzx : x1.heap.size ≤ w1.heap.size := HB1.out.size
  clear hyes hown hit hgt hb2 GL LK G1 G2 G3 GA HS1 HB1 c7 fz hlt
  go_wp2_with fail
  go_loopw [53] (fun iv wr => ∃ k : Nat, k ≤ n ∧ iv = .int .i64 k ∧ Hid (Sl wr 8 (.slice (some ⟨gi, 0, none⟩) n ci) (((List.range n).map items).map Item.row) ∧ ∃ cur, wr.heap[gi]? = some (.cells cur 129 (0, 0))) ∧ Hid (∃ bf nv, StR O B wr { T with N := (st k).N, H := (st k).H, nv := nv, nts := T.nts ++ ntsGo items rec st bf k 0, seq := T.seq + 1 } ∧ OwnGrow T { T with N := (st k).N, H := (st k).H, nv := nv, nts := T.nts ++ ntsGo items rec st bf k 0, seq := T.seq + 1 } x1.heap.size ∧ Out (stO O T) x1 wr)) (fun iv _ => n - (intOf iv).toNat)
  case atStart =>
    refine ⟨0, Nat.zero_le _, rfl, HIT, Lib.hid ⟨fun _ => 0, T.nv, ?_, ?_, HB2.out⟩⟩
    · have e : T.nts ++ ntsGo items rec st (fun _ => 0) 0 0 = T.nts := by unfold ntsGo; simp
      have := HS2.out
      rw [e, HW.out.st0N, HW.out.st0H]
      exact this
    · have e : T.nts ++ ntsGo items rec st (fun _ => 0) 0 0 = T.nts := by unfold ntsGo; simp
      rw [e]
      exact fun b hb => .inl hb
  case round =>
    clear HIT HS2 HB2 c4
    obtain ⟨k, hk, rfl, hitk, hstk⟩ := hrel
    obtain ⟨bf, nv, hS, hown, hO⟩ := hstk.out
    have HS := Lib.hid hS
    have HOW := Lib.hid hown
    have HO := Lib.hid hO
    clear hS hown hO hstk
    have kwk : IntKind.i64.wrap ((k : Int) + 1) = (k : Int) + 1 := by rw [IntKind.wrap_i64]; omega
    by_cases hlt : k < n
    · have hkI : (k : Int) < (n : Int) := by omega
      obtain ⟨x, hx⟩ : ∃ x, items k = x := ⟨_, rfl⟩
      have hget : ((List.range n).map items)[k]? = some x := by rw [List.getElem?_map, List.getElem?_range hlt, ← hx]; rfl
      obtain ⟨hgl, n0, n1, n2, n3, n4, n5, n6, n7⟩ := items_cell hitk.out.1 hget
      have GPk := GP k hlt
      have GRk := GR k hlt
      have GSk := GS k hlt
      have GDk := GD k hlt
      have KPk := HKP.out k (by omega)
      have KPk1 := HKP.out (k + 1) (by omega)
      have hlenk : (T.nts ++ ntsGo items rec st bf k 0).length ≤ 100000 := by
        rw [List.length_append, ntsGo_len items rec st bf (Nat.zero_le k)]
        have := HW.out.nts
        have := HHN.out
        omega
      rw [hx] at GPk GDk
      have HX := Lib.hid hx
      have HGET := Lib.hid hget
      have HLK := Lib.hid hlenk
      have HKK := Lib.hid KPk
      have HKK1 := Lib.hid KPk1
      have hpk : 0 < (rec k).length := by have := (HRL.out k hlt).1; omega
      have HPK := Lib.hid hpk
      obtain ⟨sq, vr, ix, ct, xa, xb, gn, ky, vl⟩ := x
      simp only at n0 n1 n2 n3 n4 n5 n6 n7
      clear hx hget hlenk KPk KPk1 hpk GP GR GS GD
      go_wp2_with fail
      have hb3 := Base.al (Below.refl _ wr) (.cells #[.int .u64 sq, .int .u64 vr, .int .i64 ix, .int .i64 ct, .complex .f64 xa xb, .bool gn, .string ky, .string vl] 129)
      refine (GPk _).out.mono ?_; rintro e w4 ⟨ad, n4', c4', rfl, hy4, hb4⟩
      obtain ⟨ab, ao, had, -, -⟩ := Byt.cell hy4 HPK.out
      injection had with had
      subst had
      have hb5 := Base.tr hb3 hb4
      clear n0 n1 n2 n3 n4 n5 n6 n7
      go_wp2_with fail
      refine (GRk _ _ _ _ _ hy4).out.mono ?_; rintro e w5 ⟨g5, c5, rfl, hy5, hg5, hb6⟩
      have hb7 := Base.tr hb5 hb6
      have hS5 := HS.out.below hb7
      have d3 : w5.cell? ⟨T.TB, 3, none⟩ = some (st k).H.ptr := cell_blk hS5.box 3
      have hB2 := HS.out.base
      have hz5 : wr.heap.size ≤ g5 := Nat.le_trans hb5.size hg5
      have hfar5 : Far (shO O (st k).H) (.slice (some ⟨g5, 0, none⟩) (frameB (rec k)).length c5) := by
        intro b off n' c' e hb
        injection e with e1 _ _
        injection e1 with e1
        injection e1 with e1 _ _
        have := HLM.out b (HKK.out.own hb)
        omega
      have GS5 := GSk w5 hS5.sh g5 c5 hy5 hfar5
      have HS5 := Lib.hid hS5
      obtain ⟨curI, hcurI⟩ := hitk.out.2
      have HI5 := Lib.hid (And.intro (Sl.below hitk.out.1 hb7) (blk_below hcurI hb7))
      have HO5 := Lib.hid (HO.out.then hb7)
      have HZ5 := Lib.hid hb7.size
      clear hS5 hfar5 hb3 hb4 hb5 hb6 hb7 hy4 hy5 hgl
      go_wp2_with fail
      refine GS5.out.mono ?_; rintro e w6 ⟨rfl, hsd, hout⟩
      have hS6 := HS5.out.shelved hsd hout (HKK1.out.D.trans HKK.out.D.symm) (HKK1.out.S.trans HKK.out.S.symm) (HKK1.out.Z.trans HKK.out.Z.symm) (HKK1.out.SB.trans HKK.out.SB.symm) (HKK1.out.LB.trans HKK.out.LB.symm) (HKK1.out.EB.trans HKK.out.EB.symm)
      have hI6 := Sl.out HI5.out.1 (O := shO O (st k).H) (by
        intro b off n' c' e hb
        injection e with e1 _ _
        injection e1 with e1
        injection e1 with e1 _ _
        have := HLM.out b (HKK.out.own hb)
        omega) hout
      obtain ⟨hgl6, n0, n1, n2, n3, n4, n5, n6, n7⟩ := items_cell hI6 HGET.out
      simp only at n0 n1 n2 n3 n4 n5 n6 n7
      have GD6 := GDk w6 _ hS6 HLK.out
      have hnoI : ¬ shO O (st k).H gi := fun hb => by
        have := HLM.out gi (HKK.out.own hb)
        omega
      have HI6 := Lib.hid (And.intro hI6 (hout.blk HI5.out.2 hnoI))
      have HNO := Lib.hid (hS6.notOwn HI6.out.2 (by decide) (by decide) (by decide))
      have HO6 := Lib.hid (HO5.out.trans (hout.wide (Q := stO O T) (fun j hj => .inl (HKK.out.own hj))))
      have HZ6 := Lib.hid (Nat.le_trans HZ5.out hout.size)
      clear hsd hout hS6 hI6 hnoI d3 GS5
      go_wp2_with fail
      refine GD6.out.mono ?_; rintro e w7 ⟨rfl, ⟨nb, nv7, hS7, hnb, hbk, hO7⟩⟩
      have HF : Hid (∃ bf nv, StR O B w7 { T with N := (st (k + 1)).N, H := (st (k + 1)).H, nv := nv, nts := T.nts ++ ntsGo items rec st bf (k + 1) 0, seq := T.seq + 1 } ∧ OwnGrow T { T with N := (st (k + 1)).N, H := (st (k + 1)).H, nv := nv, nts := T.nts ++ ntsGo items rec st bf (k + 1) 0, seq := T.seq + 1 } x1.heap.size ∧ Out (stO O T) x1 w7) := Lib.hid (by
        obtain ⟨bf', hbf⟩ := ntsGo_snoc items rec st bf k nb
        have hxz : x1.heap.size ≤ w6.heap.size := HO6.out.size
        have hown7 := own_add (v := nv7) (x := ntOf items rec st false nb k) HOW.out (by show x1.heap.size ≤ nb; omega) (by
          rcases hbk with e | ⟨g, e, hg⟩
          · exact .inl e
          · exact .inr ⟨g, e, by omega⟩) { T with N := (st (k + 1)).N, H := (st (k + 1)).H, nv := nv7, nts := (T.nts ++ ntsGo items rec st bf k 0) ++ [ntOf items rec st false nb k], seq := T.seq + 1 } rfl rfl rfl rfl
        have hS7' : StR O B w7 { T with N := (st (k + 1)).N, H := (st (k + 1)).H, nv := nv7, nts := (T.nts ++ ntsGo items rec st bf k 0) ++ [ntOf items rec st false nb k], seq := T.seq + 1 } := by
          have := hS7
          rw [← HX.out] at this
          exact this
        rw [List.append_assoc, hbf] at hown7 hS7'
        exact ⟨bf', nv7, hS7', hown7, outTr HO6.out hO7 (fun b hb => by
          rcases HOW.out b hb with h | h
          · exact .inl (.inr h)
          · exact .inr h)⟩)
      have HI7 := Lib.hid (And.intro (Sl.out HI6.out.1 (by
        intro b off n' c' e hb
        injection e with e1 _ _
        injection e1 with e1
        injection e1 with e1 _ _
        subst e1
        exact HNO.out hb) hO7) (show ∃ cur, w7.heap[gi]? = some (.cells cur 129 (0, 0)) from ⟨curI, hO7.blk HI6.out.2 HNO.out⟩))
      clear hS7 hnb hbk hO7 n0 n1 n2 n3 n4 n5 n6 n7 GD6
      go_wp2_with fail
      exact ⟨⟨k + 1, by omega, by go_num, HI7, HF⟩, by simp [intOf]; omega⟩
    · have hkn : k = n := by omega
      subst hkn
      have hS := HS.out
      obtain ⟨g, cap, rfl, hcap⟩ : ∃ g cap, nv = .slice (some ⟨g, 0, none⟩) (T.nts.length + k) cap ∧ T.nts.length + k ≤ cap := by
        rcases hS.own.2 with ⟨_, h2⟩ | ⟨g', c', cur, h1, h2, h3, h4, _⟩
        · have h2' : (T.nts ++ ntsGo items rec st bf k 0).length = 0 := h2
          rw [List.length_append, ntsGo_len items rec st bf (Nat.zero_le k)] at h2'
          have := HPOS.out
          omega
        · have h1' : nv = .slice (some ⟨g', 0, none⟩) (T.nts ++ ntsGo items rec st bf k 0).length c' := h1
          have h4' : (T.nts ++ ntsGo items rec st bf k 0).length ≤ c' := h4
          rw [List.length_append, ntsGo_len items rec st bf (Nat.zero_le k)] at h1' h4'
          exact ⟨g', c', h1', h4'⟩
      have c4' : wr.cell? ⟨T.TB, 4, none⟩ = some (.slice (some ⟨g, 0, none⟩) (T.nts.length + k) cap) := cell_blk hS.box 4
      have hn1 := HW.out.nts
      have hcn : ¬ cap = T.nts.length := by have := HPOS.out; omega
      clear hS hitk GP GR GS GD
      go_wp2_with fail
      obtain ⟨wo, rfl⟩ : ∃ wo : World, wo = wr := ⟨_, rfl⟩
      go_loopw [99] (fun iv wx => ∃ j : Nat, j ≤ k ∧ iv = .int .i64 j ∧ Hid (∃ trv, StR O B wx { T with N := (st k).N, H := (st k).H, nv := .slice (some ⟨g, 0, none⟩) (T.nts.length + k) cap, nts := T.nts ++ ntsGo items rec st bf k j, nm := nmGo items bf T.nm j, trv := trv, t := trGo items T.t j, seq := T.seq + 1 } ∧ OwnGrow T { T with N := (st k).N, H := (st k).H, nv := .slice (some ⟨g, 0, none⟩) (T.nts.length + k) cap, nts := T.nts ++ ntsGo items rec st bf k j, nm := nmGo items bf T.nm j, trv := trv, t := trGo items T.t j, seq := T.seq + 1 } x1.heap.size ∧ Out (stO O T) x1 wx)) (fun iv _ => k - (intOf iv).toNat)
      case atStart => exact ⟨0, Nat.zero_le _, rfl, Lib.hid ⟨T.trv, HS.out, HOW.out, HO.out⟩⟩
      case round =>
        clear HS HOW HO c4'
        obtain ⟨j, hj, rfl, hstj⟩ := hrel
        obtain ⟨trv, hS, hown, hO⟩ := hstj.out
        have kwj : IntKind.i64.wrap ((j : Int) + 1) = (j : Int) + 1 := by rw [IntKind.wrap_i64]; omega
        by_cases hlt : j < k
        · have hjI : (j : Int) < (k : Int) := by omega
          have e0 : T.nts ++ ntsGo items rec st bf k j = (T.nts ++ (List.range j).map (fun i => ntOf items rec st true (bf i) i)) ++ ntOf items rec st false (bf j) j :: (List.range' (j + 1) (k - (j + 1))).map (fun i => ntOf items rec st false (bf i) i) := by
            rw [ntsGo_at items rec st bf hlt, List.append_assoc]
          have e1 : (T.nts ++ (List.range j).map (fun i => ntOf items rec st true (bf i) i)) ++ ntOf items rec st true (bf j) j :: (List.range' (j + 1) (k - (j + 1))).map (fun i => ntOf items rec st false (bf i) i) = T.nts ++ ntsGo items rec st bf k (j + 1) := by
            rw [List.append_assoc, ntsGo_next items rec st bf k j]
          have hget : (T.nts ++ ntsGo items rec st bf k j)[T.nts.length + j]? = some (ntOf items rec st false (bf j) j) := by
            rw [e0, List.getElem?_append_right (by simp)]
            simp
          have hptr : wr.cell? ⟨g, T.nts.length + j, none⟩ = some (.pointer (some ⟨bf j, 0, none⟩)) := hS.noteAt rfl hget
          have hgl : g < wr.heap.size := by
            rcases hS.own.2 with ⟨h1, _⟩ | ⟨g', c', cur, h1, _, h3, _⟩
            · cases h1
            · injection h1 with h1 _ _
              injection h1 with h1
              injection h1 with h1 _ _
              subst h1
              exact (Array.getElem?_eq_some_iff.1 h3).1
          have hmem : ntOf items rec st false (bf j) j ∈ T.nts ++ ntsGo items rec st bf k j := List.mem_of_getElem? hget
          have hnt := hS.nt _ hmem
          have n12 : wr.cell? ⟨bf j, 12, none⟩ = some (.bool false) := cell_blk hnt.1 12
          have hnl : bf j < wr.heap.size := (Array.getElem?_eq_some_iff.1 hnt.1).1
          have fz2 := fun o => frozen_blk hnt.1 o
          have hC := hS.countedAt (x := ntOf items rec st false (bf j) j) e0
          have hC' : StR O B (wr.setCell ⟨bf j, 12, none⟩ (.bool true)) { T with N := (st k).N, H := (st k).H, nv := .slice (some ⟨g, 0, none⟩) (T.nts.length + k) cap, nts := T.nts ++ ntsGo items rec st bf k (j + 1), nm := nmGo items bf T.nm j, trv := trv, t := trGo items T.t j, seq := T.seq + 1 } := by
            rw [← e1]
            exact hC
          have hmem1 : ntOf items rec st true (bf j) j ∈ T.nts ++ ntsGo items rec st bf k (j + 1) := by rw [← e1]; simp
          have hnone : mget (nmGo items bf T.nm j) (items j).key = none := nmGo_none HMN.out _ (by rw [← HI.out]; exact HW.out.new j (by rw [HN.out]; exact hlt)) j (fun i hi => by rw [← HI.out]; exact HW.out.apart i j hi (by rw [HN.out]; exact hlt))
          have hgone : (items j).gone = false := by rw [← HI.out]; exact HW.out.gone j (by rw [HN.out]; exact hlt)
          have GC := Lib.hid (comes_set hC' hmem1 hgone none hnone (fun y e => (by cases e)) (by
            have h1 := trGo_size items T.t j
            have h2 := HW.out.size
            have h3 := HHN.out
            show (trGo items T.t j).size ≤ 600000
            omega))
          have hO9 : Out (stO O T) x1 (wr.setCell ⟨bf j, 12, none⟩ (.bool true)) := outTr hO ((Out.refl (· = bf j) wr).set rfl 12 (.bool true)) (fun b hb => by
            rcases hown b (.inr (.inr (.inr ⟨_, hmem, hb⟩))) with h | h
            · exact .inl (.inr h)
            · exact .inr h)
          have hown9 := own_same hown { T with N := (st k).N, H := (st k).H, nv := .slice (some ⟨g, 0, none⟩) (T.nts.length + k) cap, nts := T.nts ++ ntsGo items rec st bf k (j + 1), nm := nmGo items bf T.nm (j + 1), trv := trv, t := trGo items T.t (j + 1), seq := T.seq + 1 } rfl rfl rfl (by rw [e0, ← e1]; simp)
          have HO9 := Lib.hid hO9
          have HOW9 := Lib.hid hown9
          clear hS hown hO hstj hnt hC hC' hmem hmem1 hnone hgone hO9 hown9 e0 e1 hget
          go_wp2_with fail
          refine GC.out.mono ?_; rintro e w9 ⟨rfl, ⟨trv9, hS9, hO10⟩⟩
          have HF : Hid (∃ trv, StR O B w9 { T with N := (st k).N, H := (st k).H, nv := .slice (some ⟨g, 0, none⟩) (T.nts.length + k) cap, nts := T.nts ++ ntsGo items rec st bf k (j + 1), nm := nmGo items bf T.nm (j + 1), trv := trv, t := trGo items T.t (j + 1), seq := T.seq + 1 } ∧ OwnGrow T { T with N := (st k).N, H := (st k).H, nv := .slice (some ⟨g, 0, none⟩) (T.nts.length + k) cap, nts := T.nts ++ ntsGo items rec st bf k (j + 1), nm := nmGo items bf T.nm (j + 1), trv := trv, t := trGo items T.t (j + 1), seq := T.seq + 1 } x1.heap.size ∧ Out (stO O T) x1 w9) :=
            Lib.hid ⟨trv9, hS9, HOW9.out, outTr HO9.out hO10 (fun b hb => by
              rcases hb with hb | hb
              · exact .inl (.inr (.inl hb))
              · exact .inl (.inr (.inr (.inl hb))))⟩
          clear hS9 hO10 GC HO9 HOW9 n12 hptr fz2
          go_wp2_with fail
          exact ⟨⟨j + 1, by omega, by go_num, HF⟩, by simp [intOf]; omega⟩
        · have hjk : j = k := by omega
          subst hjk
          clear hS hown hO
          go_wp2_with fail
          go_ret
          obtain ⟨trv, hS, hown, hO⟩ := hstj.out
          exact ⟨rfl, bf, _, trv, hS, hown, hO⟩
end Go.Proofs.YthiimpleljaimaaGreatDoor

