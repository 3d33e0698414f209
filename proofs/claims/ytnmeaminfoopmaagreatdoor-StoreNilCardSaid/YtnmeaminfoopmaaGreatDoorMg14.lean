/- flintlaw08.fixed: the chapter's example. -/
import Derived.Test.YtnmeaminfoopmaaGreatDoorScan1
import Derived.Test.YtnmeaminfoopmaaGreatDoorMg13
import Derived.Test.YtnmeaminfoopmaaGreatDoorPh2
import Derived.Lib.AppendStr
import Derived.Deep.RegionHeld3
import Derived.Test.YtnmeaminfoopmaaGreatDoorMg3
import Derived.Test.YtnmeaminfoopmaaGreatDoorRingC
import Derived.Test.YtnmeaminfoopmaaGreatDoorMg2
import Derived.Test.YtnmeaminfoopmaaGreatDoorPh
import Derived.Laws.StructEq
import Derived.Test.YtnmeaminfoopmaaGreatDoorScan2
import Derived.Test.YtnmeaminfoopmaaGreatDoorMg17
namespace Go.Proofs.YtnmeaminfoopmaaGreatDoor
open Go Go.RowKit Flo

theorem own_valn {w : World} {base : Nat} {e : TypeId} {size : Nat} {v : Value} {n : Nat} {xs : List Value} (h : w.ownsRow base e size v n xs) : ∃ A c, v = .slice A n c := by
  rcases h.2 with ⟨h1, h2⟩ | ⟨g', c', _, h1, _⟩
  · exact ⟨_, _, by rw [h1, h2]⟩
  · exact ⟨_, _, h1⟩
/-- The example's bytes. -/
def exB (j : Nat) : List Nat := headOf 6 512 ++ List.replicate j 255
theorem exB_len (j : Nat) : (exB j).length = 8 + j := by unfold exB; rw [List.length_append, headOf_len, List.length_replicate]
theorem exB_succ (j : Nat) : exB (j + 1) = exB j ++ [255] := by unfold exB; rw [List.replicate_succ', List.append_assoc]
theorem exB_lt (j : Nat) : ∀ b ∈ exB j, b < 256 := by
  intro b hb
  unfold exB at hb
  rcases List.mem_append.1 hb with h | h
  · exact headOf_lt _ _ _ h
  · rw [(List.mem_replicate.1 h).2]; decide
theorem exB_scan : scanB 6 512 3 (exB 504) = ⟨1, 8, false, []⟩ := by
  have hl : (exB 504).length = 512 := exB_len 504
  have ht : (exB 504).take 8 = headOf 6 512 := by unfold exB; exact List.take_left' (headOf_len _ _)
  have hd : (exB 504).drop 8 = List.replicate 504 255 := by unfold exB; exact List.drop_left' (headOf_len _ _)
  have hc : classB 6 512 (exB 504) = 1 := by
    unfold classB geoN
    rw [hl, if_neg (by decide)]
    exact if_pos ht
  have hb : blankB (List.replicate 504 255) = true := by
    unfold blankB
    rw [List.all_eq_true]
    intro x hx
    rw [(List.mem_replicate.1 hx).2]; rfl
  have hr : recClass (exB 504) 8 = (0, [], 0) := by
    unfold recClass
    rw [hl, hd, hb, if_neg (by decide), if_pos rfl]
  have hs : ∀ n, scanN 3 (exB 504) n 8 [] = (8, []) := fun n => scanN_stop (by rw [hr]; decide) (by rw [hr]; intro h; rcases h.1 with h | h <;> cases h)
  unfold scanB
  rw [if_pos hc, hs]
  show Scan.mk 1 8 (!decide ((recClass (exB 504) 8).1 = 0) || decide ((exB 504).length ≤ 8)) [] = _
  rw [hr, hl]
  rfl

def lenV : Value → Nat | .slice _ n _ => n | _ => 0
theorem scanOf_any (s z : Int) (k : Nat) (A : Option Addr) (n cap : Nat) (l : List Nat) (w : World) (h : Byt w (.slice A n cap) l) (hl : ∀ b ∈ l, b < 256) (hm : l.length ≤ 100000) (hk : k ≤ 2147483647) :
    Calls Tryz.prog 114 #[geo s z, i64 k, .slice A n cap] w (ScanPost w (scanB s z k l)) := by
  have hn := h.len
  rw [List.length_map] at hn
  subst hn
  unfold scanB
  rcases classB_cases s z l with hc | hc | hc
  · rw [if_neg (by omega), hc]
    exact scanOf_no s z k A cap l w h hm 0 hc (.inl rfl)
  · rw [if_pos hc]
    exact scanOf_yes s z k A cap l w h hl hk hc
  · rw [if_neg (by omega), hc]
    exact scanOf_no s z k A cap l w h hm 2 hc (.inr rfl)

end Go.Proofs.YtnmeaminfoopmaaGreatDoor

/- flintref08.Same: two rows of what was found. -/
namespace Go.Proofs.YtnmeaminfoopmaaGreatDoor
open Go Go.RowKit Flo

/-- Is an item that was found the same as itself? (Not, if it bore a place that is no number.) -/
noncomputable def selfB (f : Found) : Bool := cxEq f.at0 f.at1 f.at0 f.at1 && itemEq f.item f.item
end Go.Proofs.YtnmeaminfoopmaaGreatDoor

/- ScanBytes: what is found in any bytes is the document's. -/
namespace Go.Proofs.YtnmeaminfoopmaaGreatDoor
open Go Go.RowKit Flo

theorem rscanOf_any (s z : Int) (k : Nat) (A : Option Addr) (n cap : Nat) (l : List Nat) (w : World) (h : Byt w (.slice A n cap) l) (hl : ∀ b ∈ l, b < 256) (hm : l.length ≤ 100000) (hk : k ≤ 2147483647) :
    Calls Tryz.prog 57 #[geo s z, i64 k, .slice A n cap] w (ScanPost w (scanB s z k l)) := by
  have hn := h.len
  rw [List.length_map] at hn
  subst hn
  unfold scanB
  rcases classB_cases s z l with hc | hc | hc
  · rw [if_neg (by omega), hc]
    exact rscanOf_no s z k A cap l w h hl hm 0 hc (.inl rfl)
  · rw [if_pos hc]
    exact rscanOf_yes s z k A cap l w h hl hk hc
  · rw [if_neg (by omega), hc]
    exact rscanOf_no s z k A cap l w h hl hm 2 hc (.inr rfl)

theorem self_mk {s a : Nat} (z : Int) (b : Bool) (it : Item) (hs : s ≤ 2147483647) (ha : a ≤ 2147483647) (hi : itemEq it it = true) : selfB ⟨near s, near a, z, b, it⟩ = true := by
  unfold selfB
  rw [Bool.and_eq_true]
  exact ⟨cxEq_self (part_some (nearest_Whole hs)) (part_some (nearest_Whole ha)), hi⟩
theorem oneAt_self {s a : Nat} (l : List Nat) (hs : s ≤ 2147483647) (ha : a ≤ 2147483647) : selfB (oneAt s l a) = true := by
  unfold oneAt
  exact self_mk _ _ _ hs ha (gotI_self _)
theorem scanN_self {s : Nat} {l : List Nat} (hs : s ≤ 2147483647) (hl : l.length ≤ 2147483647) : ∀ (k a : Nat) (fs : List Found), a ≤ 2147483647 → (∀ f ∈ fs, selfB f = true) → ∀ f ∈ (scanN s l k a fs).2, selfB f = true
  | 0, _, _, _, h => h
  | k + 1, a, fs, ha, h => by
    have hen : (recClass l a).2.2 ≤ 2147483647 := by
      rcases recClass_cases l a with e | e | ⟨-, -, e, -⟩
      · rw [e]; decide
      · rw [e]; decide
      · omega
    unfold scanN
    split
    · exact scanN_self hs hl k _ _ hen h
    · split
      · refine scanN_self hs hl k _ _ hen fun f hf => ?_
        rcases List.mem_append.1 hf with hf | hf
        · exact h f hf
        · rw [List.mem_singleton.1 hf]; exact oneAt_self l hs ha
      · exact h
theorem scanB_self (s z : Int) {k : Nat} {l : List Nat} (hk : k ≤ 2147483647) (hl : l.length ≤ 2147483647) : ∀ f ∈ (scanB s z k l).found, selfB f = true := by
  unfold scanB
  split
  · exact scanN_self hk hl _ _ _ (by decide) (by intro f hf; cases hf)
  · intro f hf; cases hf

theorem scanN_len (s : Nat) (l : List Nat) : ∀ (k a : Nat) (fs : List Found), (scanN s l k a fs).2.length ≤ fs.length + k
  | 0, _, _ => Nat.le_refl _
  | k + 1, a, fs => by
    unfold scanN
    split
    · have := scanN_len s l k (recClass l a).2.2 fs; omega
    · split
      · have := scanN_len s l k (recClass l a).2.2 (fs ++ [oneAt s l a])
        rw [List.length_append, List.length_singleton] at this
        omega
      · show fs.length ≤ fs.length + (k + 1); omega
theorem scanB_len (s z : Int) (k : Nat) (l : List Nat) : (scanB s z k l).found.length ≤ l.length + 1 := by
  unfold scanB
  split
  · have := scanN_len k l (l.length + 1) 8 []
    simpa using this
  · exact Nat.zero_le _

theorem founds_of {w : World} {base : Nat} {v : Value} {l : List Found} (h : w.ownsRow base 75 11 v l.length (l.flatMap Found.row)) : Founds w v l :=
  Sl.own _ (by intro y hy; obtain ⟨q, _, rfl⟩ := List.mem_map.1 hy; rfl) (by
    rw [List.flatMap_def] at h; rw [List.length_map]; exact h)

abbrev secV (R : Scan) (v : Value) : Value := .agg #[i64 R.cls, i64 R.stop, .bool R.full, v]
end Go.Proofs.YtnmeaminfoopmaaGreatDoor

/- Does a device show the document's? -/
namespace Go.Proofs.YtnmeaminfoopmaaGreatDoor
open Go.RowKit Flo

theorem part_near {n : Nat} (h : n ≤ 2147483647) : part? (near n) = some n := part_some (nearest_Whole h)
theorem ofPl_in {a b : Nat} (ha : a ≤ 2147483647) (hb : b ≤ 2147483647) : ofPl a b = (near a, near b) := by unfold ofPl; rw [if_neg (by omega)]
theorem got_row {N : Nor} {s : Nat} {l : List Nat} (hoff : N.off = false) (hl : N.data[s]? = some l) (hs : s < N.S) (hS : N.S ≤ 64) (hll : l.length = N.Z) : N.got (near s) (near 0) N.Z = (l, 0) := by
  unfold Nor.got
  have h0 : part? (near 0) = some 0 := part_near (n := 0) (by decide)
  have h1 := part_near (n := s) (by omega)
  rw [if_neg (by rw [hoff]; decide), within_yes h1 h0, if_pos (by simp; omega), h1, h0]
  have : N.data.getD s [] = l := by rw [List.getD_eq_getElem?_getD, hl]; rfl
  show (((N.data.getD s []).drop 0).take ((N.Z : Int)).toNat, 0) = _
  rw [this, List.drop_zero, Int.toNat_natCast, ← hll, List.take_length]

end Go.Proofs.YtnmeaminfoopmaaGreatDoor

/- A row of operations under way: the device and the document's stand side by side. -/
namespace Go.Proofs.YtnmeaminfoopmaaGreatDoor
open Go.RowKit Flo

theorem mul_in {s z : Int} (hg : geoB s z = true) : 0 ≤ s * z ∧ s * z ≤ 64 * 4096 := by
  obtain ⟨q1, q2, q3, q4⟩ := geoB_yes hg
  exact ⟨Int.mul_nonneg (by omega) (by omega), Int.mul_le_mul q2 q4 (by omega) (by omega)⟩
def smallB (s z : Int) : Bool := geoB s z && decide (s * z ≤ 20000)
/-- An operation that came in. -/
structure OpIn (w : World) (o : OpV) (lb : List Nat) : Prop where
  bytes : Byt w (.slice o.A o.bn o.bc) lb
  lt : ∀ x ∈ lb, x < 256
  mask : o.mask < 256
  n64 : -9223372036854775808 ≤ o.n ∧ o.n ≤ 9223372036854775807
  k64 : -9223372036854775808 ≤ o.k ∧ o.k ≤ 9223372036854775807
theorem OpIn.len {w : World} {o : OpV} {lb : List Nat} (h : OpIn w o lb) : o.bn = lb.length := by have := h.bytes.len; rwa [List.length_map] at this
theorem OpIn.fit {w W : World} {o : OpV} {lb : List Nat} {O : Nat → Prop} (h : OpIn w o lb) (hb : Below w.heap.size w W) (hO : ∀ k, O k → w.heap.size ≤ k) (hs : lb.length ≤ 6000) : OpFit O W o lb where
  bytes := Sl.below h.bytes hb
  lt := h.lt
  far h0 := by
    intro b off n c he hq
    obtain ⟨b', off', hA, hlt, _⟩ := Byt.cell (n := o.bn) (cap := o.bc) (A := o.A) h.bytes h0
    injection he with he
    rw [hA] at he
    injection he with he
    injection he with he
    have := hO b hq
    omega
  small := hs
  n64 := h.n64
  k64 := h.k64
  mask := h.mask

theorem RefR.cb {O : Nat → Prop} {w : World} {R : RV} {N : Nor} {o : OpV} {lb : List Nat} {g : Nat} (h : RefR O w R (N.doo o lb g)) : RefR O w R (N.doo o lb g) := h
end Go.Proofs.YtnmeaminfoopmaaGreatDoor

/- scan.All: what is gathered, sector by sector, as it stands in memory. -/
namespace Go.Proofs.YtnmeaminfoopmaaGreatDoor
open Go Go.RowKit Flo

theorem keepN {W W' : World} {e : TypeId} {base n size : Nat} {v : Value} {xs : List Value} (own : W.ownsRow base e size v n xs) (hg : W.grownBy W' v.ownBlock) {g : Nat} {c : Array Value} {t : TypeId} {f : Nat × Nat} (hx : W.heap[g]? = some (.cells c t f)) (hne : t ≠ e) : W'.heap[g]? = some (.cells c t f) := by
  rw [hg.block g (Array.getElem?_eq_some_iff.1 hx).1 ?_]
  · exact hx
  · intro he
    rcases own.2 with ⟨h1, _⟩ | ⟨g', cap, cur, h1, _, hgg, _⟩
    · rw [h1] at he; cases he
    · rw [h1] at he
      injection he with he
      subst he
      rw [hx] at hgg
      injection hgg with hgg
      injection hgg with _ h2
      exact hne h2
theorem own_keepN {W W' : World} {e1 e2 : TypeId} {b1 b2 n1 n2 k1 k2 : Nat} {v1 v2 : Value} {xs1 xs2 : List Value} (own : W.ownsRow b1 e1 k1 v1 n1 xs1) (hg : W.grownBy W' v1.ownBlock) (h : W.ownsRow b2 e2 k2 v2 n2 xs2) (hne : e2 ≠ e1) : W'.ownsRow b2 e2 k2 v2 n2 xs2 := by
  refine ⟨h.1, ?_⟩
  rcases h.2 with hn | ⟨g, cap, cur, rfl, hbg, hgg, rest⟩
  · exact .inl hn
  · exact .inr ⟨g, cap, cur, rfl, hbg, keepN own hg hgg hne, rest⟩

/-- A sector as it was found, as cells. -/
def secRow (x : Scan × Value) : List Value := [i64 x.1.cls, i64 x.1.stop, .bool x.1.full, x.2]
noncomputable def secAt (N : Nor) (i : Nat) : Scan := scanB N.S N.Z i (N.data.getD i [])
/-- So many sectors are gathered. -/
structure SecSt (w : World) (N : Nor) (B : Nat) (wr : World) (v : Value) (xs : List (Scan × Value)) : Prop where
  own : wr.ownsRow B 119 4 v xs.length (xs.flatMap secRow)
  sec : ∀ i x, xs[i]? = some x → x.1 = secAt N i ∧ wr.ownsRow w.heap.size 75 11 x.2 x.1.found.length (x.1.found.flatMap Found.row)
  below : Below w.heap.size w wr
  hB : w.heap.size ≤ B
theorem SecSt.on {w : World} {N : Nor} {B : Nat} {wr W : World} {v : Value} {xs : List (Scan × Value)} (h : SecSt w N B wr v xs) (hb : Below wr.heap.size wr W) : SecSt w N B W v xs :=
  ⟨own_below h.own hb, fun i x hx => ⟨(h.sec i x hx).1, own_below (h.sec i x hx).2 hb⟩, Base.tr h.below hb, h.hB⟩
theorem SecSt.step {w : World} {N : Nor} {B : Nat} {wr W : World} {v v' : Value} {xs : List (Scan × Value)} (h : SecSt w N B wr v xs) (hg : wr.grownBy W v.ownBlock) {x : Scan × Value}
    (ho : W.ownsRow B 119 4 v' (xs.length + 1) (xs.flatMap secRow ++ secRow x)) (hx : x.1 = secAt N xs.length) (hf : wr.ownsRow w.heap.size 75 11 x.2 x.1.found.length (x.1.found.flatMap Found.row)) : SecSt w N B W v' (xs ++ [x]) := by
  have hne : 75 ≠ 119 := by decide
  refine ⟨?_, ?_, Base.gr h.below hg (fun g hg => Nat.le_trans h.hB (h.own.lt g hg).1), h.hB⟩
  · rw [List.length_append, List.flatMap_append]
    simpa using ho
  · intro i y hy
    by_cases hi : i < xs.length
    · rw [List.getElem?_append_left hi] at hy
      exact ⟨(h.sec i y hy).1, own_keepN h.own hg (h.sec i y hy).2 hne⟩
    · rw [List.getElem?_append_right (by omega)] at hy
      have hi2 : i - xs.length = 0 := by
        cases hq : i - xs.length with
        | zero => rfl
        | succ k => rw [hq] at hy; cases hy
      rw [hi2] at hy
      injection hy with hy
      subst hy
      rw [show i = xs.length by omega]
      exact ⟨hx, own_keepN h.own hg hf hne⟩
/-- What all sectors come to. -/
def AllPost (w : World) (N : Nor) (e : Ending) (w' : World) : Prop :=
  ∃ v xs, e = .returned (.tuple #[v, i64 0]) ∧ SecSt w N w.heap.size w' v xs ∧ xs.length = N.S
end Go.Proofs.YtnmeaminfoopmaaGreatDoor

/- scan.All: of all sectors of a device. -/
namespace Go.Proofs.YtnmeaminfoopmaaGreatDoor
open Go Go.RowKit Flo

theorem info_secE : (Tryz.prog.info? 119).map (fun i => (i.zero, i.size, i.bytes)) = some (some (.agg #[.int .i64 0, .int .i64 0, .bool false, .slice none 0 0]), 4, 48) := by kernel_rfl

set_option maxHeartbeats 4000000 in
set_option maxRecDepth 100000 in
theorem scanAll_nil (w : World) : Makes 64 #[nilD] w (.tuple #[.slice none 0 0, i64 7]) := by
  have G := fun W => Lib.hid (geom_nil W)
  go_enter Tryz.func64, Tryz.ntmps64
  go_wp2_with fail
  refine (G _).out.mono ?_; rintro e x1 ⟨rfl, hb1⟩
  have hb2 := Base.al hb1 (.cells #[i64 0, i64 0] 35)
  go_wp2_with fail
  go_loopw [5, 13] (fun v i wr => v = .slice none 0 0 ∧ i = .int .i64 0 ∧ Below w.heap.size w wr) (fun _ _ _ => 0)
  case atStart => exact ⟨rfl, rfl, hb2⟩
  case round =>
    obtain ⟨rfl, rfl, hb⟩ := hrel
    go_wp2_with fail
    go_ret2
    exact ⟨rfl, hb⟩

set_option maxHeartbeats 4000000 in
set_option maxRecDepth 100000 in
theorem scanAll_off {O : Nat → Prop} {w : World} {N : Nor} (hd : DevR O w N) (hoff : N.off = true) : Makes 64 #[ptrD N] w (.tuple #[.slice none 0 0, i64 7]) := by
  have hgeo := geoB_yes hd.geo
  have G := Lib.hid (geom_any hd)
  go_enter Tryz.func64, Tryz.ntmps64
  go_wp2_with fail
  refine G.out.mono ?_; rintro e x1 ⟨rfl, hb1⟩
  have hb2 := Base.al hb1 (.cells #[i64 N.S, i64 N.Z] 35)
  have B0 := Lib.hid (blk_new x1 (.cells #[i64 N.S, i64 N.Z] 35))
  have hd2 := hd.below hb2
  have HD2 := Lib.hid hd2
  have HB2 := Lib.hid hb2
  clear G hb1 hb2 hd2 hd
  go_wp2_with fail
  generalize x1.alloc _ = x2 at *
  generalize x1.heap.size = gb at *
  go_loopw [5, 13] (fun v i wr => v = .slice none 0 0 ∧ i = .int .i64 0 ∧ wr = x2) (fun _ _ _ => 0)
  case atStart => exact ⟨rfl, rfl, rfl⟩
  case round =>
    obtain ⟨rfl, rfl, rfl⟩ := hrel
    have hS : 0 < N.S := by omega
    have P0 : ∀ W, Hid (Gives 56 #[i64 0, i64 0] W (cx (near 0) (near 0))) := fun W => Lib.hid (of_in 0 0 W (by omega) (by omega) (by omega) (by omega))
    have HRd : ∀ W, Below wr.heap.size wr W → Hid (Calls Tryz.prog 55 #[ptrD N, cx (near 0) (near 0), i64 N.Z] W (ReadPost W [] 7)) := by
      intro W hW
      have := read_any (HD2.out.below hW) (near 0) (near 0) N.Z
      have hg : N.got (near 0) (near 0) N.Z = ([], 7) := by unfold Nor.got; rw [hoff]; rfl
      rw [hg] at this
      exact Lib.hid this
    have e1 : wr.cell? ⟨gb, 1, none⟩ = some (i64 N.Z) := cell_blk B0.out 1
    have zd : gb < wr.heap.size := (Array.getElem?_eq_some_iff.1 B0.out).1
    have q1 := fun q => on_cell (w := wr) zd e1 q
    have tS : decide ((0 : Int) < (N.S : Int)) = true := decide_eq_true (by omega)
    clear hoff hgeo
    go_wp2_with fail
    refine wp_region_po (fun w' => ∃ p : OnOf wr, w' = p.v) 11 [2, 5] (by kernel_rfl) (by kernel_rfl) ⟨⟨_, Base.dr (Below.refl _ _)⟩, rfl⟩ ?_
    simp only [List.take_succ_cons, List.take_zero, List.drop_succ_cons, List.drop_zero]
    have on0 := @on_rd0; have on1 := @on_rd1; have on2 := @on_rd2; have on3 := @on_new1; have on4 := @on_new2; have on5 := @gr_rd0
    repeat ((with_reducible refine seq_read ?_ ?_); (focus rfl); (intro K hK); (unfold readsAt); go_simp; first | ((with_reducible refine hK _ ?_); clear hK K) | (rw [if_neg (by intro h; cases h)]; (with_reducible refine hK _ ?_); clear hK K))
    refine seq_eff (by rfl) (by first | rfl | go_simp) ?_
    intro K hK
    unfold effAt2
    go_simp
    refine ⟨rfl, (P0 _).out.mono ?_⟩; rintro e x5 ⟨rfl, rfl⟩
    refine ⟨_, rfl, ⟨⟨_, Base.dr (Below.refl _ _)⟩, rfl⟩, hK _ _ ?_⟩
    clear hK K
    repeat ((with_reducible refine seq_read ?_ ?_); (focus rfl); (intro K hK); (unfold readsAt); go_simp; first | ((with_reducible refine hK _ ?_); clear hK K) | (rw [if_neg (by intro h; cases h)]; (with_reducible refine hK _ ?_); clear hK K))
    refine seq_eff (by rfl) (by first | rfl | go_simp) ?_
    intro K hK
    unfold effAt2
    go_simp
    refine ⟨rfl, (HRd _ (Base.dr (Below.refl _ _))).out.mono ?_⟩; rintro e x6 ⟨v, rfl, hown, hb6⟩
    obtain ⟨va, vc, rfl⟩ := own_val hown
    refine ⟨_, rfl, ⟨⟨_, Base.tr (Base.dr (Below.refl _ _)) hb6⟩, rfl⟩, hK _ _ ?_⟩
    clear hK K
    repeat ((with_reducible refine seq_read ?_ ?_); (focus rfl); (intro K hK); (unfold readsAt); go_simp; first | ((with_reducible refine hK _ ?_); clear hK K) | (rw [if_neg (by intro h; cases h)]; (with_reducible refine hK _ ?_); clear hK K))
    clear on0 on1 on2 on3 on4 on5
    with_reducible refine seq_nil ?_
    have B6 := Base.tr HB2.out (Base.tr (Base.dr (Below.refl wr.heap.size wr)) hb6)
    clear hown hb6
    go_wp2_with fail
    go_ret2
    exact ⟨rfl, B6⟩

set_option maxHeartbeats 8000000 in
set_option maxRecDepth 100000 in
theorem scanAll_any {O : Nat → Prop} {w : World} {N : Nor} (hd : DevR O w N) (hon : N.off = false) : Calls Tryz.prog 64 #[ptrD N] w (AllPost w N) := by
  have hgeo := geoB_yes hd.geo
  obtain ⟨i1, a0, a1, a2, a3⟩ := info_parts info_secE
  have G := Lib.hid (geom_any hd)
  have HD := Lib.hid hd
  clear hd
  go_enter Tryz.func64, Tryz.ntmps64
  go_wp2_with fail
  refine G.out.mono ?_; rintro e x1 ⟨rfl, hb1⟩
  have hb2 := Base.al hb1 (.cells #[i64 N.S, i64 N.Z] 35)
  have B0 := Lib.hid (blk_new x1 (.cells #[i64 N.S, i64 N.Z] 35))
  have hz1 := hb1.size
  have HB2 : Hid (SecSt w N x1.heap.size (x1.alloc (.cells #[i64 N.S, i64 N.Z] 35)) (.slice none 0 0) []) := Lib.hid ⟨⟨rfl, .inl ⟨rfl, rfl⟩⟩, (fun i x h => by cases h), hb2, hz1⟩
  clear G hb1 hb2
  go_wp2_with fail
  generalize x1.alloc _ = x2 at *
  generalize x1.heap.size = gb at *
  go_loopw [5, 13] (fun v i wr => ∃ (j : Nat) (xs : List (Scan × Value)), j ≤ N.S ∧ i = .int .i64 j ∧ Hid (xs.length = j) ∧ Hid (SecSt w N gb wr v xs) ∧ Hid (wr.heap[gb]? = some (Obj.cells #[i64 N.S, i64 N.Z] 35 (0, 0)))) (fun _ i _ => N.S - (intOf i).toNat)
  case atStart => exact ⟨0, [], Nat.zero_le _, rfl, Lib.hid rfl, HB2, B0⟩
  case round =>
    clear HB2 B0
    obtain ⟨j, xs, hj, rfl, hxl, st, bg⟩ := hrel
    by_cases hlt : j < N.S
    · have hdr := HD.out.below st.out.below
      have hjd : j < N.data.length := by rw [HD.out.dl]; exact hlt
      obtain ⟨l, hl⟩ : ∃ l, N.data[j]? = some l := ⟨_, List.getElem?_eq_getElem hjd⟩
      have hrow := HD.out.row l (List.mem_of_getElem? hl)
      have hll := hrow.1
      have P0 : ∀ W, Hid (Gives 56 #[i64 j, i64 0] W (cx (near j) (near 0))) := fun W => Lib.hid (of_in j 0 W (by omega) (by omega) (by omega) (by omega))
      have HRd : ∀ W, Below wr.heap.size wr W → Hid (Calls Tryz.prog 55 #[ptrD N, cx (near j) (near 0), i64 N.Z] W (ReadPost W l 0)) := by
        intro W hW
        have := read_any (hdr.below hW) (near j) (near 0) N.Z
        rw [got_row hon hl hlt (by omega) hll] at this
        exact Lib.hid this
      have hsec : secAt N j = scanB N.S N.Z j l := by unfold secAt; rw [List.getD_eq_getElem?_getD, hl]; rfl
      have HS : ∀ W A n c, Byt W (.slice A n c) l → Hid (Calls Tryz.prog 114 #[geo N.S N.Z, i64 j, .slice A n c] W (ScanPost W (secAt N j))) := fun W A n c hy => Lib.hid (by rw [hsec]; exact scanOf_any N.S N.Z j A n c l W hy hrow.2 (by omega) (by omega))
      have HL := Lib.hid (And.intro hll hl)
      have e0 : wr.cell? ⟨gb, 0, none⟩ = some (i64 N.S) := cell_blk bg.out 0
      have e1 : wr.cell? ⟨gb, 1, none⟩ = some (i64 N.Z) := cell_blk bg.out 1
      have zd : gb < wr.heap.size := (Array.getElem?_eq_some_iff.1 bg.out).1
      have q1 := fun q => on_cell (w := wr) zd e1 q
      clear hll hrow hsec hl hjd hdr
      go_wp2_with fail
      refine wp_region_po (fun w' => ∃ p : OnOf wr, w' = p.v) 11 [2, 5] (by kernel_rfl) (by kernel_rfl) ⟨⟨_, Base.dr (Below.refl _ _)⟩, rfl⟩ ?_
      simp only [List.take_succ_cons, List.take_zero, List.drop_succ_cons, List.drop_zero]
      have on0 := @on_rd0; have on1 := @on_rd1; have on2 := @on_rd2; have on3 := @on_new1; have on4 := @on_new2; have on5 := @gr_rd0
      repeat ((with_reducible refine seq_read ?_ ?_); (focus rfl); (intro K hK); (unfold readsAt); go_simp; first | ((with_reducible refine hK _ ?_); clear hK K) | (rw [if_neg (by intro h; cases h)]; (with_reducible refine hK _ ?_); clear hK K))
      refine seq_eff (by rfl) (by first | rfl | go_simp) ?_
      intro K hK
      unfold effAt2
      go_simp
      refine ⟨rfl, (P0 _).out.mono ?_⟩; rintro e x5 ⟨rfl, rfl⟩
      refine ⟨_, rfl, ⟨⟨_, Base.dr (Below.refl _ _)⟩, rfl⟩, hK _ _ ?_⟩
      clear hK K
      repeat ((with_reducible refine seq_read ?_ ?_); (focus rfl); (intro K hK); (unfold readsAt); go_simp; first | ((with_reducible refine hK _ ?_); clear hK K) | (rw [if_neg (by intro h; cases h)]; (with_reducible refine hK _ ?_); clear hK K))
      refine seq_eff (by rfl) (by first | rfl | go_simp) ?_
      intro K hK
      unfold effAt2
      go_simp
      refine ⟨rfl, (HRd _ (Base.dr (Below.refl _ _))).out.mono ?_⟩; rintro e x6 ⟨v, rfl, hown, hb6⟩
      obtain ⟨va, vc, rfl⟩ := own_val hown
      refine ⟨_, rfl, ⟨⟨_, Base.tr (Base.dr (Below.refl _ _)) hb6⟩, rfl⟩, hK _ _ ?_⟩
      clear hK K
      repeat ((with_reducible refine seq_read ?_ ?_); (focus rfl); (intro K hK); (unfold readsAt); go_simp; first | ((with_reducible refine hK _ ?_); clear hK K) | (rw [if_neg (by intro h; cases h)]; (with_reducible refine hK _ ?_); clear hK K))
      clear on0 on1 on2 on3 on4 on5
      with_reducible refine seq_nil ?_
      have B6 := Base.tr (Base.dr (Below.refl wr.heap.size wr)) hb6
      have st6 := Lib.hid (st.out.on B6)
      have bg6 := Lib.hid (blk_below bg.out B6)
      have hy6 := own_Byt hown
      have f0 : x6.cell? ⟨gb, 0, none⟩ = some (i64 N.S) := cell_blk bg6.out 0
      have f1 : x6.cell? ⟨gb, 1, none⟩ = some (i64 N.Z) := cell_blk bg6.out 1
      have HS6 := HS x6 va l.length vc hy6
      clear q1 e0 e1 P0 HRd HS st bg hown hb6 B6 hy6 zd
      go_wp2_with fail
      refine HS6.out.mono ?_; rintro e x7 ⟨v7, rfl, own7, hb7⟩
      have st7 := Lib.hid (st6.out.on hb7)
      have bg7 := Lib.hid (blk_below bg6.out hb7)
      have z6 := Nat.le_trans st6.out.below.size (Nat.le_refl _)
      have own7' : Hid (x7.ownsRow w.heap.size 75 11 v7 (secAt N j).found.length ((secAt N j).found.flatMap Found.row)) := Lib.hid (own_base own7 z6)
      obtain ⟨A7, n7, c7, rfl⟩ : ∃ A n c, v7 = .slice A n c := by
        rcases own7.2 with ⟨h1, _⟩ | ⟨g', c', _, h1, _⟩
        · exact ⟨_, _, _, h1⟩
        · exact ⟨_, _, _, h1⟩
      have own6 := st7.out.own
      have zgb := (Array.getElem?_eq_some_iff.1 bg7.out).1
      have hxn := hxl.out
      clear HS6 st6 bg6 hb7 own7 f0 f1 z6
      go_wp2_with (at_builtin; refine wpList_append_own _ rfl _ _ 113 rfl gb 119 i1 _ 4 48 Tryz.underlying113 a0 a1 a2 a3 rfl (by decide) _ _ _ rfl (own6.alloc _) ⟨x7.heap.size, 0, none⟩ 1 1 [i64 (secAt N j).cls, i64 (secAt N j).stop, .bool (secAt N j).full, .slice A7 n7 c7] rfl rfl ?c1 ?c2 ?c3 ?c4 ?c5 ?_)
      case c1 => exact news_of _ _ _
      case c2 => simp [Value.oneCell']
      case c3 => unfold maxLen; omega
      case c4 => omega
      case c5 => (try simp); omega
      intro v2 w2 own2 gr2 _
      have stA := st7.out.on (Base.al (Below.refl _ x7) (.cells #[i64 (secAt N j).cls, i64 (secAt N j).stop, .bool (secAt N j).full, .slice A7 n7 c7] 119))
      have hfA := own7'.out.alloc (.cells #[i64 (secAt N j).cls, i64 (secAt N j).stop, .bool (secAt N j).full, .slice A7 n7 c7] 119)
      have hst2 := Lib.hid (SecSt.step (x := (secAt N j, .slice A7 n7 c7)) stA gr2 (by rw [hxn]; exact own2) (by rw [hxn]) hfA)
      have bg2 := Lib.hid (keepN stA.own gr2 (blk_old (x := .cells #[i64 (secAt N j).cls, i64 (secAt N j).stop, .bool (secAt N j).full, .slice A7 n7 c7] 119) bg7.out) (by decide))
      clear stA hfA own2 gr2 own6 own7' st7 bg7
      go_wp2_with fail
      exact ⟨⟨j + 1, _, by omega, by go_num, Lib.hid (by rw [List.length_append, hxn]; rfl), hst2, bg2⟩, by simp [intOf]; omega⟩
    · obtain rfl : j = N.S := by omega
      rcases st.out.own.2 with ⟨h1, h2⟩ | ⟨g9, c9, cur9, rfl, -, -⟩
      · have := hxl.out; omega
      have hxn := hxl.out
      have tS : ((N.S : Int) == 0) = false := by rw [beq_eq_false_iff_ne]; omega
      have HXN := Lib.hid hxn
      have tS2 : ((xs.length : Int) == 0) = false := by rw [hxn]; exact tS
      clear hxn
      go_wp2_with fail
      go_ret2
      exact ⟨_, xs, rfl, ⟨own_base st.out.own st.out.hB, st.out.sec, st.out.below, Nat.le_refl _⟩, hxl.out⟩
end Go.Proofs.YtnmeaminfoopmaaGreatDoor

