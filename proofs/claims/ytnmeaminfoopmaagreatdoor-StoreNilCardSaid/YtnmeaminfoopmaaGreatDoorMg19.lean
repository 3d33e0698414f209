/- Where bytes would be written: a plan. -/
import Derived.Test.YtnmeaminfoopmaaGreatDoorMg18
import Derived.Test.YtnmeaminfoopmaaGreatDoorPick2
import Derived.Test.YtnmeaminfoopmaaGreatDoorMg14
import Derived.Laws.AppendOwnNone
import Derived.Deep.DeepCutAuto
import Derived.Deep.CutBlock
import Derived.Test.YtnmeaminfoopmaaGreatDoorMg6
import Derived.Test.YtnmeaminfoopmaaGreatDoorMg4
import Derived.Deep.DeepMust
namespace Go.Proofs.YtnmeaminfoopmaaGreatDoor
open Go Go.RowKit Flo

/-- The sector to write. -/
def pickW (l : List Info) : Option Nat := if someB (idx canBlank 0 l) then some (leastOf cWear l (idx canBlank 0 l)).toNat else none
theorem minL_memS (f : Int → Int → Int) : ∀ {xs : List Int}, xs ≠ [] → minL f xs ∈ xs := fun h => minL_mem _ h
theorem pickW_lt {l : List Info} {k : Nat} (h : pickW l = some k) : k < l.length ∧ leastOf cWear l (idx canBlank 0 l) = (k : Int) ∧ someB (idx canBlank 0 l) = true := by
  unfold pickW at h
  split at h
  · rename_i hs
    injection h with h
    have hne : idx canBlank 0 l ≠ [] := by intro e; rw [e] at hs; cases hs
    have hm : leastOf cWear l (idx canBlank 0 l) ∈ idx canBlank 0 l := by unfold leastOf; rw [if_neg hne]; exact minL_mem _ hne
    have := idx_range canBlank l 0 _ hm
    exact ⟨by omega, by omega, hs⟩
  · cases h
theorem pickW_no {l : List Info} (h : pickW l = none) : someB (idx canBlank 0 l) = false := by
  unfold pickW at h
  split at h
  · cases h
  · rename_i hs; simpa using hs
def asLive (x : Info) : Info := { x with cls := 1 }
def planNew (l : List Info) (op : Nat) : Option (List Info × Nat × Nat × Nat) :=
  match pickW l with
  | none => none
  | some k => some (l.set k (asLive (l.getD k ⟨0, false, 0, 0, 0, false⟩)), k, 8, op + 1)
def planAt (Z : Nat) (n : Int) (l : List Info) (a : Option Nat) (en op : Nat) : Option (List Info × Nat × Nat × Nat) :=
  match a with
  | none => planNew l op
  | some k => if (Z : Int) - en < n then planNew l op else some (l, k, en, op)
def planGo (Z : Nat) : List Int → List Info → Option Nat → Nat → Nat → List (Nat × Nat) → Option (List (Nat × Nat) × Nat)
  | [], _, _, _, op, out => some (out, op)
  | n :: ns, l, a, en, op, out =>
    if fitsB Z n then
      match planAt Z n l a en op with
      | none => none
      | some (l', k, e, op') => planGo Z ns l' (some k) (e + n.toNat) op' (out ++ [(k, e)])
    else none
def needB (Z : Nat) (a : Option Nat) (en : Nat) (m : Int) : Bool := match a with | none => true | some _ => decide ((Z : Int) - en < m)
def atV : Option Nat → Int
  | none => -1
  | some k => (k : Int)
abbrev plV (p : Nat × Nat) : Value := cx (near p.1) (near p.2)
/-- What a plan comes to. -/
def PlanPost (w : World) (R : Option (List (Nat × Nat) × Nat)) (e : Ending) (w' : World) : Prop :=
  ∃ (v : Value) (k : Nat) (b : Bool), e = .returned (.tuple #[v, i64 k, .bool b]) ∧ Below w.heap.size w w' ∧
    match R with
    | none => v = .slice none 0 0 ∧ k = 0 ∧ b = false
    | some y => w'.ownsRow w.heap.size 71 1 v y.1.length (y.1.map plV) ∧ k = y.2 ∧ b = true
/-- A row of how sectors stand, in a block. -/
theorem blk_infos {w : World} {g S cap base : Nat} {l : List Info} {junk : List Value} (h : w.heap[g]? = some (.cells (l.flatMap Info.row ++ junk).toArray 121 (0, 0))) (hl : l.length = S) (hc : S ≤ cap) (hm : cap ≤ maxLen) (hj : junk.length = (cap - S) * 6) (hb : base ≤ g) :
    w.ownsRow base 121 6 (.slice (some ⟨g, 0, none⟩) S cap) S (l.flatMap Info.row) := by
  have hf := flat_len Info.row 6 info_len l
  refine ⟨by rw [hf, hl], .inr ⟨g, cap, _, rfl, hb, h, hc, hm, ?_, ?_⟩⟩
  · rw [List.size_toArray, List.length_append, hf, hl, hj, Nat.sub_mul]
    have := Nat.mul_le_mul_right 6 hc
    omega
  · rw [List.take_left' (by rw [hf, hl])]
theorem infos_own {w : World} {base : Nat} {v : Value} {l : List Info} (h : w.ownsRow base 121 6 v l.length (l.flatMap Info.row)) : Infos w v l :=
  Sl.own _ (by intro y hy; obtain ⟨q, _, rfl⟩ := List.mem_map.1 hy; rfl) (by rw [List.length_map, ← List.flatMap_def]; exact h)
theorem own_setT {W : World} {b k n g o : Nat} {e t : TypeId} {v u : Value} {xs : List Value} {c : Array Value} {f : Nat × Nat} (h : W.ownsRow b e k v n xs) (hg : W.heap[g]? = some (.cells c t f)) (hne : e ≠ t) : (W.setCell ⟨g, o, none⟩ u).ownsRow b e k v n xs := by
  refine ⟨h.1, ?_⟩
  rcases h.2 with hn | ⟨g', cap', cur', rfl, hbg', hgg', rest⟩
  · exact .inl hn
  · exact .inr ⟨g', cap', cur', rfl, hbg', blk_set hgg' _ _ (ne_type hgg' hg hne), rest⟩
theorem below_grownS {w W W' : World} {e : TypeId} {base n k : Nat} {v : Value} {xs : List Value} (h : Below w.heap.size w W) (own : W.ownsRow base e k v n xs) (hg : W.grownBy W' v.ownBlock) (hB : w.heap.size ≤ base) : Below w.heap.size w W' :=
  Base.gr h hg (fun g hg => Nat.le_trans hB (own.lt g hg).1)
theorem keepNS {W W' : World} {e : TypeId} {base n size : Nat} {v : Value} {xs : List Value} (own : W.ownsRow base e size v n xs) (hg : W.grownBy W' v.ownBlock) {g : Nat} {c : Array Value} {t : TypeId} {f : Nat × Nat} (hx : W.heap[g]? = some (.cells c t f)) (hne : t ≠ e) : W'.heap[g]? = some (.cells c t f) := by
  rw [hg.block g (Array.getElem?_eq_some_iff.1 hx).1 ?_]
  · exact hx
  · intro he
    rcases own.2 with ⟨h1, _⟩ | ⟨g', cap, cur, h1, _, hgg, _⟩
    · rw [h1] at he; cases he
    · rw [h1] at he
      injection he with he
      subst he
      rw [hx] at hgg
      injection hgg with hgg
      injection hgg with _ h2
      exact hne h2
theorem info_cplxS : (Tryz.prog.info? 71).map (fun i => (i.zero, i.size, i.bytes)) = some (some (cx 0 0), 1, 16) := by kernel_rfl
end Go.Proofs.YtnmeaminfoopmaaGreatDoor

/- shelf.New: the shelf on a device, and what was found there. -/
namespace Go.Proofs.YtnmeaminfoopmaaGreatDoor
open Go Go.RowKit Flo

def seqMax (fs : List Found) : Int := fs.foldl (fun a f => max a f.item.seq) 0
theorem seqMax_snoc (fs : List Found) (f : Found) : seqMax (fs ++ [f]) = max (seqMax fs) f.item.seq := by unfold seqMax; rw [List.foldl_append]; rfl
noncomputable def infoAt (N : Nor) (i : Nat) : Info := ⟨(secAt N i).cls, false, 0, seqMax (secAt N i).found, 0, false⟩
noncomputable def shFound (N : Nor) (j : Nat) : List Found := (List.range j).flatMap fun i => (secAt N i).found
noncomputable def shInfos (N : Nor) (j : Nat) : List Info := (List.range j).map (infoAt N)
noncomputable def shEnds (N : Nor) (j : Nat) : List Nat := (List.range j).map fun i => (secAt N i).stop
theorem shFound_succ (N : Nor) (j : Nat) : shFound N (j + 1) = shFound N j ++ (secAt N j).found := by unfold shFound; rw [List.range_succ, List.flatMap_append]; simp
theorem shInfos_succ (N : Nor) (j : Nat) : shInfos N (j + 1) = shInfos N j ++ [infoAt N j] := by unfold shInfos; rw [List.range_succ, List.map_append]; rfl
theorem shEnds_succ (N : Nor) (j : Nat) : shEnds N (j + 1) = shEnds N j ++ [(secAt N j).stop] := by unfold shEnds; rw [List.range_succ, List.map_append]; rfl
theorem shInfos_len (N : Nor) (j : Nat) : (shInfos N j).length = j := by unfold shInfos; simp
theorem shEnds_len (N : Nor) (j : Nat) : (shEnds N j).length = j := by unfold shEnds; simp

theorem secAt_len {O : Nat → Prop} {w : World} {N : Nor} (hd : DevR O w N) (i : Nat) : (secAt N i).found.length ≤ 4097 := by
  have h1 := scanB_len N.S N.Z i (N.data.getD i [])
  have h2 : (N.data.getD i []).length ≤ 4096 := by
    rw [List.getD_eq_getElem?_getD]
    cases hq : N.data[i]? with
    | none => exact Nat.zero_le _
    | some l =>
      have := (hd.row l (List.mem_of_getElem? hq)).1
      have := hd.geoI
      show l.length ≤ 4096
      omega
  unfold secAt
  omega
theorem shFound_len {N : Nor} (h : ∀ i, (secAt N i).found.length ≤ 4097) : ∀ j, (shFound N j).length ≤ j * 4097
  | 0 => Nat.zero_le _
  | j + 1 => by
    rw [shFound_succ, List.length_append, Nat.add_mul]
    have := shFound_len h j
    have := h j
    omega

/-- The shelf under way: its block, the rows of what was found, of how sectors stand, of ends. -/
structure ShNew (x1 : World) (N : Nor) (SB : Nat) (W : World) (fv : Value) (fs : List Found) (lv : Value) (il : List Info) (ev : Value) (el : List Nat) : Prop where
  box : W.heap[SB]? = some (.cells #[ptrD N, i64 N.S, i64 N.Z, lv, ev, i64 (-1)] 118 (0, 0))
  ownF : W.ownsRow (SB + 1) 75 11 fv fs.length (fs.flatMap Found.row)
  ownL : W.ownsRow (SB + 1) 121 6 lv il.length (il.flatMap Info.row)
  ownE : W.ownsRow (SB + 1) 3 1 ev el.length (el.map fun n : Nat => i64 n)
  below : Below x1.heap.size x1 W
  lt : x1.heap.size ≤ SB
theorem ShNew.on {x1 : World} {N : Nor} {SB : Nat} {W W' : World} {fv lv ev : Value} {fs : List Found} {il : List Info} {el : List Nat} (h : ShNew x1 N SB W fv fs lv il ev el) (hb : Below W.heap.size W W') : ShNew x1 N SB W' fv fs lv il ev el :=
  ⟨blk_below h.box hb, own_below h.ownF hb, own_below h.ownL hb, own_below h.ownE hb, Base.tr h.below hb, h.lt⟩
theorem ShNew.addF {x1 : World} {N : Nor} {SB : Nat} {W W' : World} {fv fv' lv ev : Value} {fs gs : List Found} {il : List Info} {el : List Nat} (h : ShNew x1 N SB W fv fs lv il ev el) (hg : W.grownBy W' fv.ownBlock)
    (ho : W'.ownsRow (SB + 1) 75 11 fv' (fs.length + gs.length) (fs.flatMap Found.row ++ gs.flatMap Found.row)) : ShNew x1 N SB W' fv' (fs ++ gs) lv il ev el :=
  ⟨keepN h.ownF hg h.box (by decide), by rw [List.length_append, List.flatMap_append]; exact ho, own_keepN h.ownF hg h.ownL (by decide), own_keepN h.ownF hg h.ownE (by decide), Base.gr h.below hg (fun g hg => by have := (h.ownF.lt g hg).1; have := h.lt; omega), h.lt⟩
theorem own_setN {W : World} {b n k SB o : Nat} {e : TypeId} {v u : Value} {xs : List Value} (h : W.ownsRow b e k v n xs) (hb : SB < b) : (W.setCell ⟨SB, o, none⟩ u).ownsRow b e k v n xs := by
  refine ⟨h.1, ?_⟩
  rcases h.2 with hn | ⟨g, cap, cur, rfl, hbg, hgg, rest⟩
  · exact .inl hn
  · exact .inr ⟨g, cap, cur, rfl, hbg, blk_set hgg _ _ (by omega), rest⟩
theorem ShNew.addL {x1 : World} {N : Nor} {SB : Nat} {W W' : World} {fv lv lv' ev : Value} {fs : List Found} {il : List Info} {el : List Nat} (h : ShNew x1 N SB W fv fs lv il ev el) (hg : W.grownBy W' lv.ownBlock) {x : Info}
    (ho : W'.ownsRow (SB + 1) 121 6 lv' (il.length + 1) (il.flatMap Info.row ++ x.row)) : ShNew x1 N SB (W'.setCell ⟨SB, 3, none⟩ lv') fv fs lv' (il ++ [x]) ev el := by
  have hb : Below x1.heap.size x1 W' := Base.gr h.below hg (fun g hg => by have := (h.ownL.lt g hg).1; have := h.lt; omega)
  refine ⟨heap_setCell (keepN h.ownL hg h.box (by decide)) 3 lv', own_setN (own_keepN h.ownL hg h.ownF (by decide)) (by omega), ?_, own_setN (own_keepN h.ownL hg h.ownE (by decide)) (by omega), Base.st hb h.lt _ _, h.lt⟩
  rw [List.length_append, List.flatMap_append]
  have := own_setN (SB := SB) (o := 3) (u := lv') ho (by omega)
  simpa using this
theorem ShNew.addE {x1 : World} {N : Nor} {SB : Nat} {W W' : World} {fv lv ev ev' : Value} {fs : List Found} {il : List Info} {el : List Nat} (h : ShNew x1 N SB W fv fs lv il ev el) (hg : W.grownBy W' ev.ownBlock) {x : Nat}
    (ho : W'.ownsRow (SB + 1) 3 1 ev' (el.length + 1) ((el.map fun n : Nat => i64 n) ++ [i64 x])) : ShNew x1 N SB (W'.setCell ⟨SB, 4, none⟩ ev') fv fs lv il ev' (el ++ [x]) := by
  have hb : Below x1.heap.size x1 W' := Base.gr h.below hg (fun g hg => by have := (h.ownE.lt g hg).1; have := h.lt; omega)
  refine ⟨heap_setCell (keepN h.ownE hg h.box (by decide)) 4 ev', own_setN (own_keepN h.ownE hg h.ownF (by decide)) (by omega), own_setN (own_keepN h.ownE hg h.ownL (by decide)) (by omega), ?_, Base.st hb h.lt _ _, h.lt⟩
  rw [List.length_append, List.map_append]
  exact own_setN ho (by omega)
/-- What shelf.New comes back with. -/
def ShPost (w : World) (N : Nor) (e : Ending) (w' : World) : Prop :=
  ∃ (x1 : World) (SB : Nat) (fv lv ev : Value), e = .returned (.tuple #[.pointer (some ⟨SB, 0, none⟩), fv, i64 0]) ∧ ShNew x1 N SB w' fv (shFound N N.S) lv (shInfos N N.S) ev (shEnds N N.S) ∧ Below w.heap.size w x1
theorem ShPost.below {w w' x1 : World} {N : Nor} {SB : Nat} {fv lv ev : Value} {fs : List Found} {il : List Info} {el : List Nat} (h : ShNew x1 N SB w' fv fs lv il ev el) (hb : Below w.heap.size w x1) : Below w.heap.size w w' := Base.tr hb h.below
theorem info_intS : (Tryz.prog.info? 3).map (fun i => (i.zero, i.size, i.bytes)) = some (some (.int .i64 0), 1, 8) := by kernel_rfl
end Go.Proofs.YtnmeaminfoopmaaGreatDoor

/- store.sizes, store.Price, store.Capacity. -/
namespace Go.Proofs.YtnmeaminfoopmaaGreatDoor
open Go Go.RowKit Flo

def sizeP (p : Pair) : Int := sizeB p.key p.value
theorem sizeP_le (p : Pair) : 0 ≤ sizeP p ∧ sizeP p ≤ 144 := by unfold sizeP sizeB; split <;> omega
def sizesL (l : List Pair) : List Int := l.map sizeP
theorem sizes_snoc (l : List Pair) (k : Nat) (h : k < l.length) : (sizesL (l.take (k + 1))).map i64 = (sizesL (l.take k)).map i64 ++ [i64 (sizeP (l.getD k default))] := by
  rw [List.take_succ_eq_append_getElem h, sizesL, List.map_append, List.map_append, List.getD_eq_getElem?_getD, List.getElem?_eq_getElem h]
  rfl

set_option maxHeartbeats 4000000 in
set_option maxRecDepth 100000 in
theorem sizes_any (A : Option Addr) (c1 : Nat) (l : List Pair) (w : World) (h1 : Pairs w (.slice A l.length c1) l) (hbig : l.length ≤ 1000000) :
    Calls Tryz.prog 60 #[.slice A l.length c1] w fun e w' => ∃ v, e = .returned v ∧ w'.ownsRow w.heap.size 3 1 v l.length ((sizesL l).map i64) ∧ Below w.heap.size w w' := by
  obtain ⟨i0, hi, hz0, hz1, hz2⟩ := info_parts info_intS
  go_enter Tryz.func60, Tryz.ntmps60
  go_wp2_with fail
  go_loopw [3, 8] (fun v i wr => ∃ k : Nat, k ≤ l.length ∧ i = .int .i64 k ∧ wr.ownsRow w.heap.size 3 1 v k ((sizesL (l.take k)).map i64) ∧ Below w.heap.size w wr) (fun _ i _ => l.length - (intOf i).toNat)
  case atStart => exact ⟨0, Nat.zero_le _, rfl, World.ownsRow_nil _ _ _ _, Below.refl _ _⟩
  case round =>
    obtain ⟨k, hk, rfl, hown, hb⟩ := hrel
    by_cases hlt : k < l.length
    · obtain ⟨a1, o1, rfl, b1, p1⟩ := Pairs.cell (Sl.below h1 hb) (by omega)
      obtain ⟨q0, q1, q2⟩ := p1 k hlt
      have hw1 : IntKind.i64.wrap ((k : Int) + 1) = (k : Int) + 1 := by rw [IntKind.wrap_i64]; omega
      have hk1 : (k : Int) < (l.length : Int) := by omega
      have hsn := sizes_snoc l k hlt
      have HSN := Lib.hid hsn
      clear hsn p1
      generalize hp : l.getD k default = pk at *
      have HP := Lib.hid hp
      clear hp
      obtain ⟨pk, vv, gg⟩ := pk
      simp only at q0 q1 q2
      have G := fun W => Lib.hid (ringSize_any pk vv W)
      have HO := Lib.hid hown
      clear hown
      go_wp2_with fail
      refine (G _).out.mono ?_; rintro e x1 ⟨rfl, rfl⟩
      have hb2 := Base.al hb (.cells #[.string pk, .string vv, .bool gg] 56)
      have hown2 := HO.out.alloc (.cells #[.string pk, .string vv, .bool gg] 56)
      go_wp2_with (at_builtin; go_must (refine wpList_append_own _ rfl _ _ 102 rfl w.heap.size 3 i0 (.int .i64 0) 1 8 Tryz.underlying102 hi hz0 hz1 hz2 rfl (by decide) _ _ _ rfl (hown2.alloc _) ⟨(wr.heap.size + 1), 0, none⟩ 1 1 [i64 (sizeB pk vv)] rfl rfl ?c1 ?c2 ?c3 ?c4 ?c5 ?_))
      case c1 => exact news_at (by simp) _ _
      case c2 => simp [Value.oneCell']
      case c3 => unfold maxLen; omega
      case c4 => omega
      case c5 => have := hb2.size; (try simp at this); (try simp); omega
      intro v' w2 hown3 hgrow _
      have hb3 := Base.gr (Base.al hb2 _) hgrow (fun g hg => (hown2.lt g hg).1)
      go_wp2_with fail
      refine ⟨⟨k + 1, by omega, by go_num, ?_, hb3⟩, by simp [intOf]; omega⟩
      rw [HSN.out]
      exact hown3
    · obtain rfl : k = l.length := by omega
      go_wp2_with fail
      go_ret
      exact ⟨_, rfl, by rw [List.take_length] at hown; exact hown, hb⟩

def sumI (l : List Int) : Int := l.foldl (· + ·) 0
theorem sumI_snoc (l : List Int) (k : Nat) (h : k < l.length) : sumI (l.take (k + 1)) = sumI (l.take k) + l.getD k 0 := by
  unfold sumI
  rw [List.take_succ_eq_append_getElem h, List.foldl_append, List.getD_eq_getElem?_getD, List.getElem?_eq_getElem h]
  rfl
theorem sizes_at (l : List Pair) (k : Nat) (h : k < l.length) : (sizesL l).getD k 0 = sizeP (l.getD k default) := by
  unfold sizesL
  rw [List.getD_eq_getElem?_getD, List.getElem?_map, List.getD_eq_getElem?_getD, List.getElem?_eq_getElem h]
  rfl
theorem sum_le (l : List Pair) : ∀ k, k ≤ l.length → 0 ≤ sumI ((sizesL l).take k) ∧ sumI ((sizesL l).take k) ≤ 144 * k
  | 0, _ => by simp [sumI]
  | k + 1, h => by
    rw [sumI_snoc _ _ (by unfold sizesL; rw [List.length_map]; omega), sizes_at l k (by omega)]
    have := sum_le l k (by omega)
    have := sizeP_le (l.getD k default)
    push_cast
    omega

set_option maxHeartbeats 4000000 in
set_option maxRecDepth 100000 in
theorem price_any (A : Option Addr) (c1 : Nat) (l : List Pair) (w : World) (h1 : Pairs w (.slice A l.length c1) l) (hbig : l.length ≤ 1000000) :
    Makes 25 #[.slice A l.length c1] w (i64 (sumI (sizesL l))) := by
  have G := Lib.hid (sizes_any A c1 l w h1 hbig)
  clear h1
  go_enter Tryz.func25, Tryz.ntmps25
  go_wp2_with fail
  refine G.out.mono ?_; rintro e x1 ⟨v, rfl, hown, hb⟩
  clear G
  have hl : ((sizesL l).map i64).length = l.length := by unfold sizesL; rw [List.length_map, List.length_map]
  have hcell : 0 < l.length → ∃ g cap, v = .slice (some ⟨g, 0, none⟩) l.length cap ∧ ∀ k, k < l.length → x1.cell? ⟨g, k, none⟩ = some (i64 (sizeP (l.getD k default))) := by
    intro hp
    rcases hown.2 with ⟨_, h0⟩ | ⟨g, cap, cur, rfl, _, hh, _, _, _, htk⟩
    · omega
    · refine ⟨g, cap, rfl, fun k hk => ?_⟩
      rw [cell_blk hh]
      have := congrArg (fun t => t[k]?) htk
      simp only [Nat.mul_one] at this
      rw [List.getElem?_take_of_lt (by omega), List.getElem?_map] at this
      rw [← Array.getElem?_toList, this, ← sizes_at l k hk, List.getD_eq_getElem?_getD]
      rw [List.getElem?_eq_getElem (by unfold sizesL; rw [List.length_map]; exact hk)]
      rfl
  obtain ⟨A2, c2, rfl⟩ : ∃ A c, v = .slice A l.length c := by
    rcases hown.2 with ⟨h1, h2⟩ | ⟨g', c', _, h1, _⟩
    · exact ⟨none, 0, by rw [h2]; exact h1⟩
    · exact ⟨_, _, h1⟩
  have HB := Lib.hid hb
  clear hown hl hb
  go_wp2_with fail
  go_loopw [3, 9] (fun s i wr => ∃ k : Nat, k ≤ l.length ∧ i = .int .i64 k ∧ s = i64 (sumI ((sizesL l).take k)) ∧ wr = x1) (fun _ i _ => l.length - (intOf i).toNat)
  case atStart => exact ⟨0, Nat.zero_le _, rfl, rfl, rfl⟩
  case round =>
    obtain ⟨k, hk, rfl, rfl, rfl⟩ := hrel
    have hs := sum_le l k hk
    by_cases hlt : k < l.length
    · obtain ⟨g, cap, hv, hc⟩ := hcell (by omega)
      injection hv with hv _ _
      subst hv
      have q := hc k hlt
      have hz := sizeP_le (l.getD k default)
      have hsn := sumI_snoc (sizesL l) k (by unfold sizesL; rw [List.length_map]; exact hlt)
      rw [sizes_at l k hlt] at hsn
      have HSN := Lib.hid hsn
      have hw1 : IntKind.i64.wrap ((k : Int) + 1) = (k : Int) + 1 := by rw [IntKind.wrap_i64]; omega
      have hk1 : (k : Int) < (l.length : Int) := by omega
      generalize sumI ((sizesL l).take k) = sk at *
      generalize sizeP (l.getD k default) = zk at *
      have hw2 : IntKind.i64.wrap (sk + zk) = sk + zk := by rw [IntKind.wrap_i64]; omega
      clear hsn hc hcell
      go_wp2_with fail
      exact ⟨⟨k + 1, by omega, by go_num, by rw [HSN.out], trivial⟩, by simp [intOf]; omega⟩
    · obtain rfl : k = l.length := by omega
      go_wp2_with fail
      go_ret
      refine ⟨?_, HB.out⟩
      rw [List.take_of_length_le (by unfold sizesL; rw [List.length_map]; exact Nat.le_refl _)]
      rfl

def capP (s z : Int) : Int := if geoB s z then (s - 4) * (z - 152) else 0
set_option maxHeartbeats 4000000 in
set_option maxRecDepth 100000 in
theorem capacity_yes (s z : Nat) (w : World) (h : geoB s z = true) : Makes 26 #[geo s z] w (i64 (((s : Int) - 2 - 2) * ((z : Int) - 8 - 144))) := by
  have g := placeMay_any s z
  rw [h] at g
  have G := fun W => Lib.hid (g W)
  have hgeo := geoB_yes h
  have k1 : IntKind.i64.wrap ((s : Int) - 2) = (s : Int) - 2 := by rw [IntKind.wrap_i64]; omega
  have k2 : IntKind.i64.wrap ((s : Int) - 2 - 2) = (s : Int) - 2 - 2 := by rw [IntKind.wrap_i64]; omega
  have k3 : IntKind.i64.wrap ((z : Int) - 8) = (z : Int) - 8 := by rw [IntKind.wrap_i64]; omega
  have k4 : IntKind.i64.wrap ((z : Int) - 8 - 144) = (z : Int) - 8 - 144 := by rw [IntKind.wrap_i64]; omega
  have k5 : IntKind.i64.wrap (((s : Int) - 2 - 2) * ((z : Int) - 8 - 144)) = ((s : Int) - 2 - 2) * ((z : Int) - 8 - 144) := by
    have h1 : 0 ≤ (s : Int) - 2 - 2 := by omega
    have h2 : (s : Int) - 2 - 2 ≤ 100 := by omega
    have h3 : 0 ≤ (z : Int) - 8 - 144 := by omega
    have h4 : (z : Int) - 8 - 144 ≤ 5000 := by omega
    generalize (s : Int) - 2 - 2 = a at *
    generalize (z : Int) - 8 - 144 = b at *
    rw [IntKind.wrap_i64]
    have e1 : a * b ≤ 100 * 5000 := Int.mul_le_mul h2 h4 (by omega) (by omega)
    have e2 : 0 ≤ a * b := Int.mul_nonneg (by omega) (by omega)
    omega
  clear g h
  go_enter Tryz.func26, Tryz.ntmps26
  go_wp2_with fail
  refine (G _).out.mono ?_; rintro e x1 ⟨rfl, hb⟩
  have hb2 := Base.tr (Base.al (Below.refl _ w) (.cells #[i64 s, i64 z] 35)) hb
  have bb := blk_below (blk_new w (.cells #[i64 s, i64 z] 35)) hb
  have c0 : x1.cell? ⟨w.heap.size, 0, none⟩ = some (i64 s) := cell_blk bb 0
  have c1 : x1.cell? ⟨w.heap.size, 1, none⟩ = some (i64 z) := cell_blk bb 1
  have HB := Lib.hid hb2
  clear hb hb2 bb
  go_wp2_with fail
  go_ret
  exact ⟨rfl, HB.out⟩
end Go.Proofs.YtnmeaminfoopmaaGreatDoor

