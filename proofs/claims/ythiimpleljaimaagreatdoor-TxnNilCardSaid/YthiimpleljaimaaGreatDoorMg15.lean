/- The reference's head and class. -/
import Derived.Test.YthiimpleljaimaaGreatDoorMg11
import Derived.Test.YthiimpleljaimaaGreatDoorScan1
import Derived.Test.YthiimpleljaimaaGreatDoorPh2
import Derived.Lib.AppendStr
import Derived.Deep.RegionHeld3
import Derived.Test.YthiimpleljaimaaGreatDoorMg9
import Derived.Test.YthiimpleljaimaaGreatDoorMg14
import Derived.Test.YthiimpleljaimaaGreatDoorMg13
import Derived.Test.YthiimpleljaimaaGreatDoorMg3
import Derived.Test.YthiimpleljaimaaGreatDoorRingC
import Derived.Test.YthiimpleljaimaaGreatDoorMg2
import Derived.Test.YthiimpleljaimaaGreatDoorPh
import Derived.Laws.StructEq
import Derived.Test.YthiimpleljaimaaGreatDoorMg17
namespace Go.Proofs.YthiimpleljaimaaGreatDoor
open Go.RowKit

theorem toB_app (l m : List Nat) : toB l ++ toB m = toB (l ++ m) := by
  apply ByteArray.ext
  unfold toB
  rw [ByteArray.data_append, List.map_append]
  simp
/-- The head as a string. -/
def headS (s z : Int) : List Nat := if geoB s z then headOf s.toNat z.toNat else [0, 0, 0, 0, 0, 0, 0, 0]

end Go.Proofs.YthiimpleljaimaaGreatDoor

/- flintlaw08.fixed: the chapter's example. -/
namespace Go.Proofs.YthiimpleljaimaaGreatDoor
open Go Go.RowKit Flo

theorem own_valn {w : World} {base : Nat} {e : TypeId} {size : Nat} {v : Value} {n : Nat} {xs : List Value} (h : w.ownsRow base e size v n xs) : ∃ A c, v = .slice A n c := by
  rcases h.2 with ⟨h1, h2⟩ | ⟨g', c', _, h1, _⟩
  · exact ⟨_, _, by rw [h1, h2]⟩
  · exact ⟨_, _, h1⟩
/-- The example's bytes. -/
def exB (j : Nat) : List Nat := headOf 6 512 ++ List.replicate j 255
theorem exB_len (j : Nat) : (exB j).length = 8 + j := by unfold exB; rw [List.length_append, headOf_len, List.length_replicate]
theorem exB_succ (j : Nat) : exB (j + 1) = exB j ++ [255] := by unfold exB; rw [List.replicate_succ', List.append_assoc]
theorem exB_lt (j : Nat) : ∀ b ∈ exB j, b < 256 := by
  intro b hb
  unfold exB at hb
  rcases List.mem_append.1 hb with h | h
  · exact headOf_lt _ _ _ h
  · rw [(List.mem_replicate.1 h).2]; decide
theorem exB_scan : scanB 6 512 3 (exB 504) = ⟨1, 8, false, []⟩ := by
  have hl : (exB 504).length = 512 := exB_len 504
  have ht : (exB 504).take 8 = headOf 6 512 := by unfold exB; exact List.take_left' (headOf_len _ _)
  have hd : (exB 504).drop 8 = List.replicate 504 255 := by unfold exB; exact List.drop_left' (headOf_len _ _)
  have hc : classB 6 512 (exB 504) = 1 := by
    unfold classB geoN
    rw [hl, if_neg (by decide)]
    exact if_pos ht
  have hb : blankB (List.replicate 504 255) = true := by
    unfold blankB
    rw [List.all_eq_true]
    intro x hx
    rw [(List.mem_replicate.1 hx).2]; rfl
  have hr : recClass (exB 504) 8 = (0, [], 0) := by
    unfold recClass
    rw [hl, hd, hb, if_neg (by decide), if_pos rfl]
  have hs : ∀ n, scanN 3 (exB 504) n 8 [] = (8, []) := fun n => scanN_stop (by rw [hr]; decide) (by rw [hr]; intro h; rcases h.1 with h | h <;> cases h)
  unfold scanB
  rw [if_pos hc, hs]
  show Scan.mk 1 8 (!decide ((recClass (exB 504) 8).1 = 0) || decide ((exB 504).length ≤ 8)) [] = _
  rw [hr, hl]
  rfl

def lenV : Value → Nat | .slice _ n _ => n | _ => 0
theorem scanOf_any (s z : Int) (k : Nat) (A : Option Addr) (n cap : Nat) (l : List Nat) (w : World) (h : Byt w (.slice A n cap) l) (hl : ∀ b ∈ l, b < 256) (hm : l.length ≤ 100000) (hk : k ≤ 2147483647) :
    Calls Tryz.prog 119 #[geo s z, i64 k, .slice A n cap] w (ScanPost w (scanB s z k l)) := by
  have hn := h.len
  rw [List.length_map] at hn
  subst hn
  unfold scanB
  rcases classB_cases s z l with hc | hc | hc
  · rw [if_neg (by omega), hc]
    exact scanOf_no s z k A cap l w h hm 0 hc (.inl rfl)
  · rw [if_pos hc]
    exact scanOf_yes s z k A cap l w h hl hk hc
  · rw [if_neg (by omega), hc]
    exact scanOf_no s z k A cap l w h hm 2 hc (.inr rfl)

end Go.Proofs.YthiimpleljaimaaGreatDoor

/- The reference's class of a sector's bytes. -/
namespace Go.Proofs.YthiimpleljaimaaGreatDoor
open Go.RowKit

end Go.Proofs.YthiimpleljaimaaGreatDoor

/- The reference's class of what stands at a place. -/
namespace Go.Proofs.YthiimpleljaimaaGreatDoor
open Go.RowKit

theorem byt_empty (w : World) (A : Option Addr) : Byt w (.slice A 0 0) [] := ⟨A, 0, rfl, Nat.le_refl _, Nat.zero_le _, fun _ => rfl, fun h => absurd h (by decide)⟩
theorem take_two {l : List Nat} {i x y : Nat} (hx : l[i]? = some x) (hy : l[i + 1]? = some y) : (l.drop i).take 2 = [x, y] := by
  obtain ⟨h1, rfl⟩ := List.getElem?_eq_some_iff.1 hx
  obtain ⟨h2, rfl⟩ := List.getElem?_eq_some_iff.1 hy
  rw [List.drop_eq_getElem_cons h1, List.drop_eq_getElem_cons h2]
  rfl
/-- What flags say, case by case. -/
theorem state_cases (f : Nat) : (f = 127 ∧ recState f = 4) ∨ (f = 63 ∧ recState f = 5) ∨ (f = 95 ∧ recState f = 6) ∨ (f = 31 ∧ recState f = 6) ∨ (f ≠ 127 ∧ f ≠ 63 ∧ f ≠ 95 ∧ f ≠ 31 ∧ recState f = 3) := by
  by_cases h1 : f = 127
  · subst h1; exact .inl ⟨rfl, rfl⟩
  by_cases h2 : f = 63
  · subst h2; exact .inr (.inl ⟨rfl, rfl⟩)
  by_cases h3 : f = 95
  · subst h3; exact .inr (.inr (.inl ⟨rfl, rfl⟩))
  by_cases h4 : f = 31
  · subst h4; exact .inr (.inr (.inr (.inl ⟨rfl, rfl⟩)))
  exact .inr (.inr (.inr (.inr ⟨h1, h2, h3, h4, by unfold recState; rw [if_neg h1, if_neg h2, if_neg (by omega)]⟩)))

end Go.Proofs.YthiimpleljaimaaGreatDoor

/- flintref08.Of. -/
namespace Go.Proofs.YthiimpleljaimaaGreatDoor
open Go Go.RowKit Flo
attribute [local go_sem] run_store_complex

end Go.Proofs.YthiimpleljaimaaGreatDoor

/- flintref08.Same: two rows of what was found. -/
namespace Go.Proofs.YthiimpleljaimaaGreatDoor
open Go Go.RowKit Flo

/-- Is an item that was found the same as itself? (Not, if it bore a place that is no number.) -/
noncomputable def selfB (f : Found) : Bool := cxEq f.at0 f.at1 f.at0 f.at1 && itemEq f.item f.item
end Go.Proofs.YthiimpleljaimaaGreatDoor

/- ScanBytes: what is found in any bytes is the document's. -/
namespace Go.Proofs.YthiimpleljaimaaGreatDoor
open Go Go.RowKit Flo

theorem self_mk {s a : Nat} (z : Int) (b : Bool) (it : Item) (hs : s ≤ 2147483647) (ha : a ≤ 2147483647) (hi : itemEq it it = true) : selfB ⟨near s, near a, z, b, it⟩ = true := by
  unfold selfB
  rw [Bool.and_eq_true]
  exact ⟨cxEq_self (part_some (nearest_Whole hs)) (part_some (nearest_Whole ha)), hi⟩
theorem oneAt_self {s a : Nat} (l : List Nat) (hs : s ≤ 2147483647) (ha : a ≤ 2147483647) : selfB (oneAt s l a) = true := by
  unfold oneAt
  exact self_mk _ _ _ hs ha (gotI_self _)
theorem scanN_self {s : Nat} {l : List Nat} (hs : s ≤ 2147483647) (hl : l.length ≤ 2147483647) : ∀ (k a : Nat) (fs : List Found), a ≤ 2147483647 → (∀ f ∈ fs, selfB f = true) → ∀ f ∈ (scanN s l k a fs).2, selfB f = true
  | 0, _, _, _, h => h
  | k + 1, a, fs, ha, h => by
    have hen : (recClass l a).2.2 ≤ 2147483647 := by
      rcases recClass_cases l a with e | e | ⟨-, -, e, -⟩
      · rw [e]; decide
      · rw [e]; decide
      · omega
    unfold scanN
    split
    · exact scanN_self hs hl k _ _ hen h
    · split
      · refine scanN_self hs hl k _ _ hen fun f hf => ?_
        rcases List.mem_append.1 hf with hf | hf
        · exact h f hf
        · rw [List.mem_singleton.1 hf]; exact oneAt_self l hs ha
      · exact h
theorem scanB_self (s z : Int) {k : Nat} {l : List Nat} (hk : k ≤ 2147483647) (hl : l.length ≤ 2147483647) : ∀ f ∈ (scanB s z k l).found, selfB f = true := by
  unfold scanB
  split
  · exact scanN_self hk hl _ _ _ (by decide) (by intro f hf; cases hf)
  · intro f hf; cases hf

theorem scanN_len (s : Nat) (l : List Nat) : ∀ (k a : Nat) (fs : List Found), (scanN s l k a fs).2.length ≤ fs.length + k
  | 0, _, _ => Nat.le_refl _
  | k + 1, a, fs => by
    unfold scanN
    split
    · have := scanN_len s l k (recClass l a).2.2 fs; omega
    · split
      · have := scanN_len s l k (recClass l a).2.2 (fs ++ [oneAt s l a])
        rw [List.length_append, List.length_singleton] at this
        omega
      · show fs.length ≤ fs.length + (k + 1); omega
theorem scanB_len (s z : Int) (k : Nat) (l : List Nat) : (scanB s z k l).found.length ≤ l.length + 1 := by
  unfold scanB
  split
  · have := scanN_len k l (l.length + 1) 8 []
    simpa using this
  · exact Nat.zero_le _

theorem founds_of {w : World} {base : Nat} {v : Value} {l : List Found} (h : w.ownsRow base 131 11 v l.length (l.flatMap Found.row)) : Founds w v l :=
  Sl.own _ (by intro y hy; obtain ⟨q, _, rfl⟩ := List.mem_map.1 hy; rfl) (by
    rw [List.flatMap_def] at h; rw [List.length_map]; exact h)

abbrev secV (R : Scan) (v : Value) : Value := .agg #[i64 R.cls, i64 R.stop, .bool R.full, v]
end Go.Proofs.YthiimpleljaimaaGreatDoor

/- An operation of the law, kind 0. -/
namespace Go.Proofs.YthiimpleljaimaaGreatDoor
open Go.RowKit Flo

end Go.Proofs.YthiimpleljaimaaGreatDoor

/- An operation of the law, kind 1. -/
namespace Go.Proofs.YthiimpleljaimaaGreatDoor
open Go.RowKit Flo

end Go.Proofs.YthiimpleljaimaaGreatDoor

/- An operation of the law, kind 2. -/
namespace Go.Proofs.YthiimpleljaimaaGreatDoor
open Go.RowKit Flo

end Go.Proofs.YthiimpleljaimaaGreatDoor

/- An operation of the law, kind 3. -/
namespace Go.Proofs.YthiimpleljaimaaGreatDoor
open Go.RowKit Flo

end Go.Proofs.YthiimpleljaimaaGreatDoor

/- An operation of the law, kind 4. -/
namespace Go.Proofs.YthiimpleljaimaaGreatDoor
open Go.RowKit Flo

end Go.Proofs.YthiimpleljaimaaGreatDoor

/- An operation of the law, kind 5. -/
namespace Go.Proofs.YthiimpleljaimaaGreatDoor
open Go.RowKit Flo

end Go.Proofs.YthiimpleljaimaaGreatDoor

/- An operation of the law, kind 6. -/
namespace Go.Proofs.YthiimpleljaimaaGreatDoor
open Go.RowKit Flo

end Go.Proofs.YthiimpleljaimaaGreatDoor

/- An operation of the law, kind 2. -/
namespace Go.Proofs.YthiimpleljaimaaGreatDoor
open Go.RowKit Flo

end Go.Proofs.YthiimpleljaimaaGreatDoor

/- An operation of the law, kind 2. -/
namespace Go.Proofs.YthiimpleljaimaaGreatDoor
open Go.RowKit Flo

end Go.Proofs.YthiimpleljaimaaGreatDoor

/- An operation of the law, kind 2. -/
namespace Go.Proofs.YthiimpleljaimaaGreatDoor
open Go.RowKit Flo

end Go.Proofs.YthiimpleljaimaaGreatDoor

/- An operation of the law, of any kind; how far a device's counts go. -/
namespace Go.Proofs.YthiimpleljaimaaGreatDoor
open Go.RowKit Flo

theorem act_S (N : Nor) (s p n : Nat) (upd : Nat → Nat → Nat → Nat) : (N.act s p n upd).2.S = N.S ∧ (N.act s p n upd).2.Z = N.Z ∧ (N.act s p n upd).2.wear = N.wear ∧ (N.act s p n upd).2.bad = N.bad ∧ (N.act s p n upd).2.D = N.D := by
  unfold Nor.act
  split
  · exact ⟨rfl, rfl, rfl, rfl, rfl⟩
  · split <;> exact ⟨rfl, rfl, rfl, rfl, rfl⟩
theorem act_Bd {N : Nor} {j : Nat} (h : Bd N j) (s p n : Nat) (upd : Nat → Nat → Nat → Nat) : Bd (N.act s p n upd).2 (j + 1) := by
  have h1 := h.acts
  have h2 := h.offs
  have hw : ∀ n ∈ N.wear, n ≤ j + 1 := fun n hn => by have := h.wear n hn; omega
  unfold Nor.act
  split
  · rename_i hc
    exact ⟨by show N.acts + 1 ≤ _; omega, by show N.offs ≤ _; omega, hw, fun c hq => by rw [show _ = N.cut from rfl, hc] at hq; cases hq⟩
  · rename_i c b m hc
    have h3 := h.cut _ hc
    split
    · exact ⟨by show N.acts + 1 ≤ _; omega, by show N.offs ≤ _; omega, hw, fun c' hq => by injection hq with hq; subst hq; show c - 1 ≤ _; have : c ≤ 9223372036854775807 := h3; omega⟩
    · exact ⟨by show N.acts + 1 ≤ _; omega, by show N.offs + 1 ≤ _; omega, hw, fun c' hq => by cases hq⟩
theorem doo_S (N : Nor) (o : OpV) (lb : List Nat) (g : Nat) : (N.doo o lb g).S = N.S ∧ (N.doo o lb g).Z = N.Z ∧ (N.doo o lb g).D = N.D := by
  have ha := fun (N : Nor) s p n upd => act_S N s p n upd
  unfold Nor.doo
  split
  · unfold Nor.prog
    split
    · exact ⟨rfl, rfl, rfl⟩
    · split
      · exact ⟨rfl, rfl, rfl⟩
      · split
        · exact ⟨rfl, rfl, rfl⟩
        · split
          · exact ⟨rfl, rfl, rfl⟩
          · obtain ⟨h1, h2, _, _, h5⟩ := ha N ((part? (ofPl o.sector o.offset).1).getD 0) ((part? (ofPl o.sector o.offset).2).getD 0) lb.length (fun i m old => pUp (lb.getD i 0) m old)
            exact ⟨h1, h2, h5⟩
  · split
    · unfold Nor.erase
      split
      · exact ⟨rfl, rfl, rfl⟩
      · split
        · exact ⟨rfl, rfl, rfl⟩
        · split
          · exact ⟨rfl, rfl, rfl⟩
          · obtain ⟨h1, h2, _, _, h5⟩ := ha { N with wear := N.wear.set o.sector.toNat (N.wear.getD o.sector.toNat 0 + 1) } o.sector.toNat 0 N.Z (fun _ m old => eUp m old)
            exact ⟨h1, h2, h5⟩
    · split
      · exact ⟨rfl, rfl, rfl⟩
      · split
        · exact ⟨rfl, rfl, rfl⟩
        · split
          · unfold Nor.turn; split <;> exact ⟨rfl, rfl, rfl⟩
          · split <;> exact ⟨rfl, rfl, rfl⟩
theorem Bd.mono {N : Nor} {i j : Nat} (h : Bd N i) (hij : i ≤ j) : Bd N j := ⟨Nat.le_trans h.acts hij, Nat.le_trans h.offs hij, fun n hn => Nat.le_trans (h.wear n hn) hij, h.cut⟩
theorem doo_Bd {N : Nor} {j : Nat} (h : Bd N j) (o : OpV) (lb : List Nat) (g : Nat) (h64 : o.n ≤ 9223372036854775807) : Bd (N.doo o lb g) (j + 1) := by
  have hm := h.mono (Nat.le_succ j)
  unfold Nor.doo
  split
  · unfold Nor.prog
    split
    · exact hm
    · split
      · exact hm
      · split
        · exact hm
        · split
          · exact hm
          · exact act_Bd h _ _ _ _
  · split
    · unfold Nor.erase
      split
      · exact hm
      · split
        · exact hm
        · split
          · exact hm
          · have hx : N.wear.getD o.sector.toNat 0 ≤ j := by
              rw [List.getD_eq_getElem?_getD]
              cases hq : N.wear[o.sector.toNat]? with
              | none => exact Nat.zero_le _
              | some x => exact h.wear x (List.mem_of_getElem? hq)
            obtain ⟨q1, q2, q3, _, _⟩ := act_S { N with wear := N.wear.set o.sector.toNat (N.wear.getD o.sector.toNat 0 + 1) } o.sector.toNat 0 N.Z (fun _ m old => eUp m old)
            have hb0 : Bd { N with wear := [] } j := ⟨h.acts, h.offs, (fun n hn => by cases hn), h.cut⟩
            have hb1 := act_Bd hb0 o.sector.toNat 0 N.Z (fun _ m old => eUp m old)
            have hsame : ∀ (W : List Nat), (Nor.act { N with wear := W } o.sector.toNat 0 N.Z (fun _ m old => eUp m old)).2 = { (Nor.act { N with wear := [] } o.sector.toNat 0 N.Z (fun _ m old => eUp m old)).2 with wear := W } := by
              intro W
              unfold Nor.act
              cases hc : N.cut with
              | none => rfl
              | some c =>
                obtain ⟨c, b, m⟩ := c
                show (if 0 < c then _ else _ : Nat × Nor).2 = { (if 0 < c then _ else _ : Nat × Nor).2 with wear := W }
                split <;> rfl
            rw [hsame]
            refine ⟨hb1.acts, hb1.offs, fun n hn => ?_, hb1.cut⟩
            rcases List.mem_or_eq_of_mem_set hn with h1 | h1
            · have := h.wear n h1; omega
            · omega
    · split
      · exact hm
      · split
        · exact ⟨hm.acts, hm.offs, hm.wear, fun c hc => by injection hc with hc; subst hc; show o.n.toNat ≤ _; omega⟩
        · split
          · unfold Nor.turn
            split
            · exact hm
            · exact ⟨hm.acts, by have := h.offs; show N.offs + 1 ≤ _; omega, hm.wear, fun c hc => by cases hc⟩
          · split
            · exact ⟨hm.acts, hm.offs, hm.wear, hm.cut⟩
            · exact ⟨hm.acts, hm.offs, hm.wear, hm.cut⟩
end Go.Proofs.YthiimpleljaimaaGreatDoor

/- Does a device show the document's? -/
namespace Go.Proofs.YthiimpleljaimaaGreatDoor
open Go.RowKit Flo

theorem part_near {n : Nat} (h : n ≤ 2147483647) : part? (near n) = some n := part_some (nearest_Whole h)
theorem ofPl_in {a b : Nat} (ha : a ≤ 2147483647) (hb : b ≤ 2147483647) : ofPl a b = (near a, near b) := by unfold ofPl; rw [if_neg (by omega)]
theorem got_row {N : Nor} {s : Nat} {l : List Nat} (hoff : N.off = false) (hl : N.data[s]? = some l) (hs : s < N.S) (hS : N.S ≤ 64) (hll : l.length = N.Z) : N.got (near s) (near 0) N.Z = (l, 0) := by
  unfold Nor.got
  have h0 : part? (near 0) = some 0 := part_near (n := 0) (by decide)
  have h1 := part_near (n := s) (by omega)
  rw [if_neg (by rw [hoff]; decide), within_yes h1 h0, if_pos (by simp; omega), h1, h0]
  have : N.data.getD s [] = l := by rw [List.getD_eq_getElem?_getD, hl]; rfl
  show (((N.data.getD s []).drop 0).take ((N.Z : Int)).toNat, 0) = _
  rw [this, List.drop_zero, Int.toNat_natCast, ← hll, List.take_length]

end Go.Proofs.YthiimpleljaimaaGreatDoor

/- A row of operations under way: the device and the document's stand side by side. -/
namespace Go.Proofs.YthiimpleljaimaaGreatDoor
open Go.RowKit Flo

theorem mul_in {s z : Int} (hg : geoB s z = true) : 0 ≤ s * z ∧ s * z ≤ 64 * 4096 := by
  obtain ⟨q1, q2, q3, q4⟩ := geoB_yes hg
  exact ⟨Int.mul_nonneg (by omega) (by omega), Int.mul_le_mul q2 q4 (by omega) (by omega)⟩
def smallB (s z : Int) : Bool := geoB s z && decide (s * z ≤ 20000)
/-- An operation that came in. -/
structure OpIn (w : World) (o : OpV) (lb : List Nat) : Prop where
  bytes : Byt w (.slice o.A o.bn o.bc) lb
  lt : ∀ x ∈ lb, x < 256
  mask : o.mask < 256
  n64 : -9223372036854775808 ≤ o.n ∧ o.n ≤ 9223372036854775807
  k64 : -9223372036854775808 ≤ o.k ∧ o.k ≤ 9223372036854775807
theorem OpIn.len {w : World} {o : OpV} {lb : List Nat} (h : OpIn w o lb) : o.bn = lb.length := by have := h.bytes.len; rwa [List.length_map] at this
theorem OpIn.fit {w W : World} {o : OpV} {lb : List Nat} {O : Nat → Prop} (h : OpIn w o lb) (hb : Below w.heap.size w W) (hO : ∀ k, O k → w.heap.size ≤ k) (hs : lb.length ≤ 6000) : OpFit O W o lb where
  bytes := Sl.below h.bytes hb
  lt := h.lt
  far h0 := by
    intro b off n c he hq
    obtain ⟨b', off', hA, hlt, _⟩ := Byt.cell (n := o.bn) (cap := o.bc) (A := o.A) h.bytes h0
    injection he with he
    rw [hA] at he
    injection he with he
    injection he with he
    have := hO b hq
    omega
  small := hs
  n64 := h.n64
  k64 := h.k64
  mask := h.mask

theorem RefR.cb {O : Nat → Prop} {w : World} {R : RV} {N : Nor} {o : OpV} {lb : List Nat} {g : Nat} (h : RefR O w R (N.doo o lb g)) : RefR O w R (N.doo o lb g) := h
end Go.Proofs.YthiimpleljaimaaGreatDoor

/- scan.All: what is gathered, sector by sector, as it stands in memory. -/
namespace Go.Proofs.YthiimpleljaimaaGreatDoor
open Go Go.RowKit Flo

theorem keepN {W W' : World} {e : TypeId} {base n size : Nat} {v : Value} {xs : List Value} (own : W.ownsRow base e size v n xs) (hg : W.grownBy W' v.ownBlock) {g : Nat} {c : Array Value} {t : TypeId} {f : Nat × Nat} (hx : W.heap[g]? = some (.cells c t f)) (hne : t ≠ e) : W'.heap[g]? = some (.cells c t f) := by
  rw [hg.block g (Array.getElem?_eq_some_iff.1 hx).1 ?_]
  · exact hx
  · intro he
    rcases own.2 with ⟨h1, _⟩ | ⟨g', cap, cur, h1, _, hgg, _⟩
    · rw [h1] at he; cases he
    · rw [h1] at he
      injection he with he
      subst he
      rw [hx] at hgg
      injection hgg with hgg
      injection hgg with _ h2
      exact hne h2
theorem own_keepN {W W' : World} {e1 e2 : TypeId} {b1 b2 n1 n2 k1 k2 : Nat} {v1 v2 : Value} {xs1 xs2 : List Value} (own : W.ownsRow b1 e1 k1 v1 n1 xs1) (hg : W.grownBy W' v1.ownBlock) (h : W.ownsRow b2 e2 k2 v2 n2 xs2) (hne : e2 ≠ e1) : W'.ownsRow b2 e2 k2 v2 n2 xs2 := by
  refine ⟨h.1, ?_⟩
  rcases h.2 with hn | ⟨g, cap, cur, rfl, hbg, hgg, rest⟩
  · exact .inl hn
  · exact .inr ⟨g, cap, cur, rfl, hbg, keepN own hg hgg hne, rest⟩

/-- A sector as it was found, as cells. -/
def secRow (x : Scan × Value) : List Value := [i64 x.1.cls, i64 x.1.stop, .bool x.1.full, x.2]
noncomputable def secAt (N : Nor) (i : Nat) : Scan := scanB N.S N.Z i (N.data.getD i [])
/-- So many sectors are gathered. -/
structure SecSt (w : World) (N : Nor) (B : Nat) (wr : World) (v : Value) (xs : List (Scan × Value)) : Prop where
  own : wr.ownsRow B 180 4 v xs.length (xs.flatMap secRow)
  sec : ∀ i x, xs[i]? = some x → x.1 = secAt N i ∧ wr.ownsRow w.heap.size 131 11 x.2 x.1.found.length (x.1.found.flatMap Found.row)
  below : Below w.heap.size w wr
  hB : w.heap.size ≤ B
theorem SecSt.on {w : World} {N : Nor} {B : Nat} {wr W : World} {v : Value} {xs : List (Scan × Value)} (h : SecSt w N B wr v xs) (hb : Below wr.heap.size wr W) : SecSt w N B W v xs :=
  ⟨own_below h.own hb, fun i x hx => ⟨(h.sec i x hx).1, own_below (h.sec i x hx).2 hb⟩, Base.tr h.below hb, h.hB⟩
theorem SecSt.step {w : World} {N : Nor} {B : Nat} {wr W : World} {v v' : Value} {xs : List (Scan × Value)} (h : SecSt w N B wr v xs) (hg : wr.grownBy W v.ownBlock) {x : Scan × Value}
    (ho : W.ownsRow B 180 4 v' (xs.length + 1) (xs.flatMap secRow ++ secRow x)) (hx : x.1 = secAt N xs.length) (hf : wr.ownsRow w.heap.size 131 11 x.2 x.1.found.length (x.1.found.flatMap Found.row)) : SecSt w N B W v' (xs ++ [x]) := by
  have hne : 131 ≠ 180 := by decide
  refine ⟨?_, ?_, Base.gr h.below hg (fun g hg => Nat.le_trans h.hB (h.own.lt g hg).1), h.hB⟩
  · rw [List.length_append, List.flatMap_append]
    simpa using ho
  · intro i y hy
    by_cases hi : i < xs.length
    · rw [List.getElem?_append_left hi] at hy
      exact ⟨(h.sec i y hy).1, own_keepN h.own hg (h.sec i y hy).2 hne⟩
    · rw [List.getElem?_append_right (by omega)] at hy
      have hi2 : i - xs.length = 0 := by
        cases hq : i - xs.length with
        | zero => rfl
        | succ k => rw [hq] at hy; cases hy
      rw [hi2] at hy
      injection hy with hy
      subst hy
      rw [show i = xs.length by omega]
      exact ⟨hx, own_keepN h.own hg hf hne⟩
/-- What all sectors come to. -/
def AllPost (w : World) (N : Nor) (e : Ending) (w' : World) : Prop :=
  ∃ v xs, e = .returned (.tuple #[v, i64 0]) ∧ SecSt w N w.heap.size w' v xs ∧ xs.length = N.S
end Go.Proofs.YthiimpleljaimaaGreatDoor

