/- The example's device: what two writes on it come to. -/
import Derived.Test.YtnmeaminfoopmaaGreatDoorSha
import Derived.Test.YtnmeaminfoopmaaGreatDoorMg20
import Derived.Test.YtnmeaminfoopmaaGreatDoorMg14
import Derived.Test.YtnmeaminfoopmaaGreatDoorMg24
import Derived.Test.YtnmeaminfoopmaaGreatDoorMg23
import Derived.Test.YtnmeaminfoopmaaGreatDoorSt7
import Derived.Test.YtnmeaminfoopmaaGreatDoorNorN
import Derived.Test.YtnmeaminfoopmaaGreatDoorMg16
namespace Go.Proofs.YtnmeaminfoopmaaGreatDoor
open Go Go.RowKit Flo

theorem prog_yes {N : Nor} {k p : Nat} {b : List Nat} (hoff : N.off = false) (hcut : N.cut = none) (hk : k < N.S) (hS : N.S ≤ 64) (hp : p + b.length ≤ N.Z) (hZ : N.Z ≤ 4096) (hb : b.length ≠ 0) (hbad : N.isBad k = false) :
    N.prog (near (k : Int)) (near (p : Int)) b = (0, { N with acts := N.acts + 1, data := N.data.set k (stepRow (fun i m old => pUp (b.getD i 0) m old) p (N.data.getD k []) b.length) }) := by
  obtain ⟨D, DA, WB, MB, CB, bk, cd, S, Z, data, wear, bad, off, offs, acts, cut⟩ := N
  simp only at hoff hcut hk hS hp hZ
  subst hoff; subst hcut
  have h1 : part? (near k) = some k := part_near (by omega)
  have h2 : part? (near p) = some p := part_near (by omega)
  have hw : withinB S Z (near k) (near p) b.length = true := by
    rw [within_yes h1 h2]
    simp only [Bool.and_eq_true, decide_eq_true_eq]
    omega
  unfold Nor.prog
  simp only
  rw [if_neg (by decide), if_neg hb, hw, if_neg (by decide), h1, h2]
  simp only [Option.getD_some]
  rw [hbad, if_neg (by decide)]
  rfl
/-- An act changes the count of acts by one at most; with no cut laid, nothing else of it. -/
theorem prog_acts {N N' : Nor} {a b : Nat} {l : List Nat} {e : Nat} (h : N.prog a b l = (e, N')) (hcut : N.cut = none) : N'.acts ≤ N.acts + 1 ∧ N'.offs = N.offs ∧ N'.cut = none := by
  unfold Nor.prog at h
  have same : ∀ {e' : Nat}, (e', N) = (e, N') → N'.acts ≤ N.acts + 1 ∧ N'.offs = N.offs ∧ N'.cut = none := fun h => by
    injection h with _ h
    subst h
    exact ⟨by omega, rfl, hcut⟩
  split at h
  · exact same h
  · split at h
    · exact same h
    · split at h
      · exact same h
      · split at h
        · exact same h
        · unfold Nor.act at h
          rw [hcut] at h
          injection h with _ h
          subst h
          exact ⟨Nat.le_refl _, rfl, rfl⟩
theorem opens_acts {N N' : Nor} {H H' : ShV} {e : Nat} (h : opensP N H = (e, H', N')) (hcut : N.cut = none) : N'.acts ≤ N.acts + 1 ∧ N'.offs = N.offs ∧ N'.cut = none := by
  unfold opensP at h
  cases hp : pickW (seenL H N H.S) with
  | none =>
    rw [hp] at h
    injection h with _ h
    injection h with _ h
    subst h
    exact ⟨by omega, rfl, hcut⟩
  | some k =>
    rw [hp] at h
    simp only at h
    have key : ∀ N', (N.prog (near k) (near 0) (headOf H.S H.Z)).2 = N' → N'.acts ≤ N.acts + 1 ∧ N'.offs = N.offs ∧ N'.cut = none := fun N' hN => by
      subst hN
      exact prog_acts (e := (N.prog (near k) (near 0) (headOf H.S H.Z)).1) rfl hcut
    split at h
    · injection h with _ h
      injection h with _ h
      exact key _ h
    · split at h
      · injection h with _ h
        injection h with _ h
        exact key _ h
      · injection h with _ h
        injection h with _ h
        exact key _ h
/-- What stays of a shelf and of its device behind an act. -/
structure ExKeep (N N' : Nor) (H H' : ShV) : Prop where
  D : N'.D = N.D
  S : N'.S = N.S
  Z : N'.Z = N.Z
  SB : H'.SB = H.SB
  LB : H'.LB = H.LB
  EB : H'.EB = H.EB
  HS : H'.S = H.S
  HZ : H'.Z = H.Z
  wear : N'.wear = N.wear
  bad : N'.bad = N.bad
  off : N'.off = N.off
  offs : N'.offs = N.offs
  cut : N'.cut = N.cut
theorem ExKeep.trans {N N' M : Nor} {H H' K : ShV} (h : ExKeep N N' H H') (g : ExKeep N' M H' K) : ExKeep N M H K :=
  ⟨g.D.trans h.D, g.S.trans h.S, g.Z.trans h.Z, g.SB.trans h.SB, g.LB.trans h.LB, g.EB.trans h.EB, g.HS.trans h.HS, g.HZ.trans h.HZ, g.wear.trans h.wear, g.bad.trans h.bad, g.off.trans h.off, g.offs.trans h.offs, g.cut.trans h.cut⟩
theorem ExKeep.op {N N' : Nor} {H H' : ShV} {o : Int} (h : ExKeep N N' { H with op := o } H') : ExKeep N N' H H' := ⟨h.D, h.S, h.Z, h.SB, h.LB, h.EB, h.HS, h.HZ, h.wear, h.bad, h.off, h.offs, h.cut⟩
theorem opens_yes {N : Nor} {H : ShV} {k : Nat} (hp : pickW (seenL H N H.S) = some k) (hoff : N.off = false) (hcut : N.cut = none) (hk : k < N.S) (hS : N.S ≤ 64) (h8 : 8 ≤ N.Z) (hZ : N.Z ≤ 4096) (hbad : N.isBad k = false) :
    ∃ H' N', opensP N H = (0, H', N') ∧ ExKeep N N' H H' ∧ N'.acts = N.acts + 1 ∧ H'.op = (k : Int) ∧ H'.il = H.il.set k { H.il.getD k noInfo with cls := 1, age := 0, need := 0 } ∧ H'.el = H.el.set k 8 := by
  have hpr := prog_yes (p := 0) (b := headOf H.S H.Z) hoff hcut hk hS (by rw [headOf_len]; omega) hZ (by rw [headOf_len]; decide) hbad
  refine ⟨{ H with op := (k : Int), il := H.il.set k { H.il.getD k noInfo with cls := 1, age := 0, need := 0 }, el := H.el.set k 8 }, (N.prog (near k) (near ((0 : Nat) : Int)) (headOf H.S H.Z)).2, ?_, ?_, ?_, rfl, rfl, rfl⟩
  · unfold opensP
    rw [hp]
    simp only
    rw [show near 0 = near ((0 : Nat) : Int) from rfl, hpr]
    simp [ShV.failed]
  · rw [hpr]
    exact ⟨rfl, rfl, rfl, rfl, rfl, rfl, rfl, rfl, rfl, rfl, rfl, rfl, rfl⟩
  · rw [hpr]
theorem writeAt_yes {N : Nor} {H : ShV} {k : Nat} {b : List Nat} {age : Int} (hoff : N.off = false) (hcut : N.cut = none) (hk : k < N.S) (hS : N.S ≤ 64) (hp : H.el.getD k 0 + b.length ≤ N.Z) (hZ : N.Z ≤ 4096) (hb : b.length ≠ 0) (hbad : N.isBad k = false) :
    ∃ H' N', writeAt N H k b age = ((near k, near (H.el.getD k 0)), 0, H', N') ∧ ExKeep N N' H H' ∧ N'.acts = N.acts + 1 ∧ H'.op = H.op ∧ H'.il = H.il.set k { H.il.getD k noInfo with age := max (H.il.getD k noInfo).age age } ∧ H'.el = H.el.set k (H.el.getD k 0 + b.length) := by
  have hpr := prog_yes (p := H.el.getD k 0) (b := b) hoff hcut hk hS hp hZ hb hbad
  refine ⟨{ H with el := H.el.set k (H.el.getD k 0 + b.length), il := H.il.set k { H.il.getD k noInfo with age := max (H.il.getD k noInfo).age age } }, (N.prog (near k) (near (H.el.getD k 0)) b).2, ?_, ?_, ?_, rfl, rfl, rfl⟩
  · unfold writeAt
    simp only
    rw [hpr]
    simp [ShV.failed]
  · rw [hpr]
    exact ⟨rfl, rfl, rfl, rfl, rfl, rfl, rfl, rfl, rfl, rfl, rfl, rfl, rfl⟩
  · rw [hpr]
theorem writeP_new {N N' : Nor} {H H' : ShV} {b : List Nat} {age : Int} (hf : fitsB H.Z b.length = true) (ho : opensP N { H with op := -1 } = (0, H', N')) : writeP N H none b age = writeAt N' H' H'.op.toNat b age := by
  unfold writeP
  rw [if_pos hf, if_pos (show needB H.Z none _ _ = true from rfl), ho]
  simp only [if_true]
theorem writeP_old {N : Nor} {H : ShV} {k : Nat} {b : List Nat} {age : Int} (hf : fitsB H.Z b.length = true) (hn : needB H.Z (some k) (H.el.getD k 0) b.length = false) : writeP N H (some k) b age = writeAt N H k b age := by
  unfold writeP
  rw [if_pos hf]
  simp only [Option.getD_some]
  rw [hn, if_neg (by decide)]

def il0 : List Info := List.replicate 6 noInfo
def il1 : List Info := ⟨1, false, 0, 1, 0, false⟩ :: List.replicate 5 noInfo
def il2 : List Info := ⟨1, true, 0, 1, 0, false⟩ :: List.replicate 5 noInfo
/-- A shelf of the example: nothing written; one frame written. -/
structure ExSh (H : ShV) (il : List Info) (e0 : Nat) (op : Int) : Prop where
  S : H.S = 6
  Z : H.Z = 512
  il : H.il = il
  el : H.el = e0 :: List.replicate 5 0
  op : H.op = op
structure ExDev (N : Nor) : Prop where
  S : N.S = 6
  Z : N.Z = 512
  wear : N.wear = List.replicate 6 0
  bad : N.bad = []
  off : N.off = false
  offs : N.offs = 0
  acts : N.acts ≤ 10
  cut : N.cut = none
theorem Fresh.ex {N : Nor} (h : Fresh N 6 512) : ExDev N := ⟨h.S, h.Z, h.wear, h.bad, h.off, h.offs, by rw [h.acts]; omega, h.cut⟩
theorem ExDev.notBad {N : Nor} (h : ExDev N) (k : Nat) : N.isBad k = false := by unfold Nor.isBad; rw [h.bad]; rfl
theorem class_512 : classB 6 512 (List.replicate 512 255) = 0 := by kernel_rfl
theorem fresh_sec {N : Nor} (h : Fresh N 6 512) (i : Nat) (hi : i < 6) : secAt N i = ⟨0, 0, false, []⟩ := by
  have hc := class_512
  have hd : N.data.getD i [] = List.replicate 512 255 := by
    rw [h.data, List.getD_eq_getElem?_getD, List.getElem?_replicate, if_pos hi]
    exact Option.getD_some
  generalize List.replicate 512 255 = L at hc hd
  unfold secAt scanB
  rw [h.S, h.Z, hd]
  have hc' : classB ((6 : Nat) : Int) ((512 : Nat) : Int) L = 0 := hc
  rw [hc', if_neg (by decide)]
  rfl
theorem fresh_found {N : Nor} (h : Fresh N 6 512) : shFound N N.S = [] := by
  unfold shFound
  rw [h.S, List.flatMap_eq_nil_iff]
  intro i hi
  rw [fresh_sec h i (List.mem_range.1 hi)]
theorem fresh_infos {N : Nor} (h : Fresh N 6 512) : shInfos N N.S = il0 := by
  unfold shInfos il0
  rw [h.S, List.eq_replicate_iff]
  refine ⟨by simp, fun x hx => ?_⟩
  obtain ⟨i, hi, rfl⟩ := List.mem_map.1 hx
  unfold infoAt
  rw [fresh_sec h i (List.mem_range.1 hi)]
  rfl
theorem fresh_ends {N : Nor} (h : Fresh N 6 512) : shEnds N N.S = 0 :: List.replicate 5 0 := by
  show _ = List.replicate 6 0
  unfold shEnds
  rw [h.S, List.eq_replicate_iff]
  refine ⟨by simp, fun x hx => ?_⟩
  obtain ⟨i, hi, rfl⟩ := List.mem_map.1 hx
  rw [fresh_sec h i (List.mem_range.1 hi)]
theorem seen_0 {N : Nor} {H : ShV} {e0 : Nat} (hN : ExDev N) (hH : ExSh H il0 e0 (-1)) : seenL H N H.S = il0 := by
  obtain ⟨D, DA, WB, MB, CB, bk, cd, S, Z, data, wear, bad, off, offs, acts, cut⟩ := N
  obtain ⟨SB, LB, EB, lc, ec, D2, S2, Z2, il, el, op⟩ := H
  obtain ⟨rfl, rfl, rfl, -, -, -, -, -⟩ := hN
  obtain ⟨rfl, rfl, rfl, -, rfl⟩ := hH
  rfl
theorem seen_1 {N : Nor} {H : ShV} {e0 : Nat} (hN : ExDev N) (hH : ExSh H il1 e0 0) : seenL H N H.S = il2 := by
  obtain ⟨D, DA, WB, MB, CB, bk, cd, S, Z, data, wear, bad, off, offs, acts, cut⟩ := N
  obtain ⟨SB, LB, EB, lc, ec, D2, S2, Z2, il, el, op⟩ := H
  obtain ⟨rfl, rfl, rfl, -, -, -, -, -⟩ := hN
  obtain ⟨rfl, rfl, rfl, -, rfl⟩ := hH
  rfl
theorem plan_0 : planGo 512 [34] il0 none 0 0 [] = some ([(0, 8)], 1) := by kernel_rfl
theorem plan_1 : planGo 512 [33] il2 (some 0) 42 0 [] = some ([(0, 42)], 0) := by kernel_rfl
theorem blank_0 : (idx canBlank 0 il0).length = 6 := by kernel_rfl
theorem blank_1 : (idx canBlank 0 il2).length = 5 := by kernel_rfl
theorem pick_0 : pickW il0 = some 0 := by kernel_rfl
theorem ExDev.keep {N N' : Nor} {H H' : ShV} (h : ExDev N) (k : ExKeep N N' H H') (ha : N'.acts ≤ 10) : ExDev N' := ⟨k.S.trans h.S, k.Z.trans h.Z, k.wear.trans h.wear, k.bad.trans h.bad, k.off.trans h.off, k.offs.trans h.offs, ha, k.cut.trans h.cut⟩
theorem ex_first {N : Nor} {H : ShV} (hN : ExDev N) (ha : N.acts ≤ 8) (hH : ExSh H il0 0 (-1)) (b : List Nat) (hb : b.length = 34) :
    ∃ H1 N1, writeP N H none b 1 = ((near 0, near 8), 0, H1, N1) ∧ ExDev N1 ∧ N1.acts ≤ N.acts + 2 ∧ ExSh H1 il1 42 0 ∧ ExKeep N N1 H H1 := by
  have hp : pickW (seenL { H with op := -1 } N H.S) = some 0 := (congrArg pickW (seen_0 (H := { H with op := -1 }) hN ⟨hH.S, hH.Z, hH.il, hH.el, rfl⟩)).trans pick_0
  obtain ⟨H', N', ho, hk1, ha1, hop, hil, hel⟩ := opens_yes (H := { H with op := -1 }) hp hN.off hN.cut (by rw [hN.S]; decide) (by rw [hN.S]; decide) (by rw [hN.Z]; decide) (by rw [hN.Z]; decide) (hN.notBad 0)
  have hk1' := hk1.op
  have hN' := hN.keep hk1' (by omega)
  have hil' : H'.il = H.il.set 0 { H.il.getD 0 noInfo with cls := 1, age := 0, need := 0 } := hil
  have hel' : H'.el = H.el.set 0 8 := hel
  have hw := writeP_new (b := b) (age := 1) (by rw [hH.Z, hb]; rfl) ho
  rw [hH.el] at hel'
  rw [hH.il] at hil'
  have he : H'.el.getD 0 0 = 8 := by rw [hel']; rfl
  obtain ⟨H2, N2, hw2, hk2, ha2, hop2, hil2, hel2⟩ := writeAt_yes (N := N') (H := H') (k := 0) (b := b) (age := 1) hN'.off hN'.cut (by rw [hN'.S]; decide) (by rw [hN'.S]; decide) (by rw [he, hb, hN'.Z]; decide) (by rw [hN'.Z]; decide) (by rw [hb]; decide) (hN'.notBad 0)
  rw [hop] at hw
  rw [he] at hw2
  refine ⟨H2, N2, hw.trans hw2, hN'.keep hk2 (by omega), by omega, ⟨(hk2.HS.trans hk1'.HS).trans hH.S, (hk2.HZ.trans hk1'.HZ).trans hH.Z, ?_, ?_, ?_⟩, hk1'.trans hk2⟩
  · rw [hil2, hil']
    rfl
  · rw [hel2, he, hb, hel']
    rfl
  · rw [hop2, hop]
    rfl
theorem ex_second {N : Nor} {H : ShV} (hN : ExDev N) (ha : N.acts ≤ 8) (hH : ExSh H il1 42 0) (b : List Nat) (hb : b.length = 33) :
    ∃ H1 N1, writeP N H (some 0) b 2 = ((near 0, near 42), 0, H1, N1) ∧ ExDev N1 ∧ N1.acts ≤ N.acts + 1 ∧ ExKeep N N1 H H1 := by
  have he : H.el.getD 0 0 = 42 := by rw [hH.el]; rfl
  have hw := writeP_old (N := N) (b := b) (age := 2) (k := 0) (H := H) (by rw [hH.Z, hb]; rfl) (by rw [he, hH.Z, hb]; rfl)
  obtain ⟨H2, N2, hw2, hk2, ha2, hop2, hil2, hel2⟩ := writeAt_yes (N := N) (H := H) (k := 0) (b := b) (age := 2) hN.off hN.cut (by rw [hN.S]; decide) (by rw [hN.S]; decide) (by rw [he, hb, hN.Z]; decide) (by rw [hN.Z]; decide) (by rw [hb]; decide) (hN.notBad 0)
  rw [he] at hw2
  exact ⟨H2, N2, hw.trans hw2, hN.keep hk2 (by omega), by omega, hk2⟩
end Go.Proofs.YtnmeaminfoopmaaGreatDoor

/- flintlaw13.fixed: the chapter's example. -/
namespace Go.Proofs.YtnmeaminfoopmaaGreatDoor
open Go Go.RowKit Flo
attribute [local go_sem] run_store_complex

abbrev keyA : ByteArray := { data := #[97] }
abbrev oneA : ByteArray := { data := #[49] }
abbrev noA : ByteArray := { data := #[] }
abbrev pA : Pair := ⟨keyA, oneA, false⟩
abbrev pB : Pair := ⟨keyA, noA, true⟩
theorem keyA_ne : keyA.toList ≠ [] := by rw [ByteArray.toList_eq]; decide
theorem noA_nil : noA.toList = [] := by rw [ByteArray.toList_eq]
theorem place_ok {a b s o : Nat} (ha : part? a = some s) (hb : part? b = some o) (hs : s ≤ 254) (ho : o ≤ 65535) : placeOk a b = true := by
  unfold placeOk
  rw [parts_some ha hb]
  simp [hs, ho]
theorem mayA {n a b : Nat} (h : placeOk a b = true) : mayB (itOf n pA a b) = true := by
  rw [mayB_rest, h, Bool.true_and, restB_iff]
  exact ⟨⟨(by decide : (1 : Int) ≤ 1), (by decide : (1 : Int) ≤ 255), (by decide : (0 : Int) ≤ 0), (by decide : (0 : Int) < 1)⟩, keyA_ne, (by decide : (keyA.size : Int) ≤ 48), (by decide : (oneA.size : Int) ≤ 64), .inl rfl⟩
theorem mayBb {n a b : Nat} (h : placeOk a b = true) : mayB (itOf n pB a b) = true := by
  rw [mayB_rest, h, Bool.true_and, restB_iff]
  exact ⟨⟨(by decide : (1 : Int) ≤ 1), (by decide : (1 : Int) ≤ 255), (by decide : (0 : Int) ≤ 0), (by decide : (0 : Int) < 1)⟩, keyA_ne, (by decide : (keyA.size : Int) ≤ 48), (by decide : (noA.size : Int) ≤ 64), .inr noA_nil⟩
theorem mayA0 : mayB (mayIt pA) = true := mayA (n := 0) (place_ok part0 part0 (by decide) (by decide))
theorem mayB0 : mayB (mayIt pB) = true := mayBb (n := 0) (place_ok part0 part0 (by decide) (by decide))
theorem plainA {n k o : Nat} (hn : n < 1000) (hk : k ≤ 254) (ho : o ≤ 65535) : Plain (itOf n pA (near k) (near o)) n n 0 1 k o :=
  { hseq := rfl, hver := rfl, hidx := rfl, hcnt := rfl, hs := part_near (by omega), ho := part_near (by omega), seq2 := by omega, ver2 := by omega, cnt1 := by decide, cnt2 := by decide, idx1 := by decide, s2 := hk, o2 := ho, key1 := keyA_ne, key2 := (by decide : keyA.size ≤ 48), val2 := (by decide : oneA.size ≤ 64), gone1 := .inl rfl }
theorem plainB {n k o : Nat} (hn : n < 1000) (hk : k ≤ 254) (ho : o ≤ 65535) : Plain (itOf n pB (near k) (near o)) n n 0 1 k o :=
  { hseq := rfl, hver := rfl, hidx := rfl, hcnt := rfl, hs := part_near (by omega), ho := part_near (by omega), seq2 := by omega, ver2 := by omega, cnt1 := by decide, cnt2 := by decide, idx1 := by decide, s2 := hk, o2 := ho, key1 := keyA_ne, key2 := (by decide : keyA.size ≤ 48), val2 := (by decide : noA.size ≤ 64), gone1 := .inr noA_nil }
theorem size_A : sizeP pA = 34 := by kernel_rfl
theorem size_B : sizeP pB = 33 := by kernel_rfl
theorem frame_A (n k o : Nat) : (frameB (recOf n k o pA)).length = 34 := by rw [frame_len, itemB_len]; rfl
theorem frame_B (n k o : Nat) : (frameB (recOf n k o pB)).length = 33 := by rw [frame_len, itemB_len]; rfl

/-- A store of the example: nothing put yet. -/
structure Ex0 (T : StV) : Prop where
  dev : ExDev T.N
  acts : T.N.acts ≤ 2
  sh : ExSh T.H il0 0 (-1)
  nts : T.nts = []
  nm : T.nm = []
  tr : T.tr = none
  seq : T.seq = 1
  offs : T.offs = 0
/-- .. behind the first put. -/
structure Ex1 (T : StV) : Prop where
  dev : ExDev T.N
  acts : T.N.acts ≤ 4
  sh : ExSh T.H il1 42 0
  nts : ∃ y : Nt, T.nts = [y] ∧ y.f.item.ver = 1 ∧ mget T.nm keyA = some y.ptr
  tr : ∃ tb tv, T.tr = some (tb, keyA, tv)
  seq : T.seq = 2
  offs : T.offs = 0

theorem fx_first {O : Nat → Prop} {B : Nat} {w : World} {T : StV} (h : StR O B w T) (hx : Ex0 T) (A : Option Addr) (c1 : Nat) (h1 : Pairs w (.slice A 1 c1) [pA]) (f1 : Far (· = T.TB) (.slice A 1 c1)) :
    Calls Tryz.prog 11 #[T.ptr, .slice A 1 c1] w fun e w' => e = .returned (i64 0) ∧ ∃ T', StR O B w' T' ∧ T'.ptr = T.ptr ∧ Ex1 T' ∧ (∀ k, T'.H.own k → T.H.own k) ∧ Out (stQ O B T.H) w w' := by
  obtain ⟨H1, N1, hw, hd1, ha1, hs1, hkp⟩ := ex_first hx.dev (by have := hx.acts; omega) hx.sh (frameB (recOf T.seq 0 8 pA)) (frame_A _ _ _)
  have hw' : writeP T.N T.H none (frameB (recOf T.seq 0 8 pA)) T.seq = ((near 0, near 8), 0, H1, N1) := by
    rw [← hw]
    rw [hx.seq]
    rfl
  refine (put_one h hx.dev.off (by rw [hx.offs, hx.dev.offs]) A c1 pA h1 f1 mayA0 none ⟨hx.sh.op, fun k hk => (by cases hk), fun n hn => ?_⟩ 0 (fun k hk => by cases hk) (fun _ => rfl) (Nat.zero_le _) 0 8 1 ?_ ?_
    (mayA (place_ok (part_near (by decide)) (part_near (by decide)) (by decide) (by decide))) (plainA (by rw [hx.seq]; decide) (by decide) (by decide)) (by rw [hx.seq]; decide) (by rw [hx.nts]; decide)
    (by have := hx.acts; omega) (by rw [hx.dev.offs]; decide) (fun c hc => by rw [hx.dev.cut] at hc; cases hc) (fun H' N' ho => ?_) (near 0) (near 8) H1 N1 hw' 0 8 (part_near (by decide)) (part_near (by decide)) hkp.D hkp.S hkp.Z hkp.SB hkp.LB hkp.EB
    (fun tr' => ∃ tb tv, tr' = some (tb, keyA, tv)) (fun W T' nb hT e1 e2 e3 => ?_)).mono ?_
  · rw [hx.sh.el] at hn
    rw [hx.sh.Z]
    rcases List.mem_cons.1 hn with rfl | hn
    · omega
    · rw [(List.mem_replicate.1 hn).2]; omega
  · rw [hx.sh.Z, seen_0 hx.dev hx.sh, size_A]
    exact plan_0
  · rw [seen_0 hx.dev hx.sh, blank_0]
    decide
  · obtain ⟨a1, a2, a3⟩ := opens_acts ho hx.dev.cut
    have := hx.acts
    have := hx.dev.offs
    exact ⟨by omega, by omega, fun c hc => by rw [a3] at hc; cases hc⟩
  · refine (comes_first hT (x := ⟨nb, fndOf T.seq pA (near 0) (near 8) (near 0) (near 8) 0 8, (0 : Nat), true⟩) (by rw [e1]; simp) rfl (by rw [e2, hx.nm]; rfl) (by rw [e3, hx.tr])).mono ?_
    rintro e W' ⟨rfl, tb, h2, h3⟩
    exact ⟨rfl, _, ⟨tb, _, rfl⟩, h2, h3⟩
  · rintro e w' ⟨rfl, nb, nv, tr', ⟨tb, tv, rfl⟩, h2, h3⟩
    refine ⟨rfl, _, h2, rfl, ⟨hd1, by have := hx.acts; show N1.acts ≤ 4; omega, hs1, ⟨_, by rw [hx.nts]; rfl, by show ((T.seq : Nat) : Int) = 1; rw [hx.seq]; rfl, ?_⟩, ⟨tb, tv, rfl⟩, by show T.seq + 1 = 2; rw [hx.seq], hx.offs⟩, ?_, h3⟩
    · show mget (mput T.nm keyA _) keyA = _
      rw [hx.nm, mget_mput (by simp), if_pos rfl]
    · intro k hk
      rcases hk with hk | hk | hk
      · exact .inl (hk.trans hkp.SB)
      · exact .inr (.inl (hk.trans hkp.LB))
      · exact .inr (.inr (hk.trans hkp.EB))
theorem fx_second {O : Nat → Prop} {B : Nat} {w : World} {T : StV} (h : StR O B w T) (hx : Ex1 T) (A : Option Addr) (c1 : Nat) (h1 : Pairs w (.slice A 1 c1) [pB]) (f1 : Far (· = T.TB) (.slice A 1 c1)) :
    Calls Tryz.prog 11 #[T.ptr, .slice A 1 c1] w fun e w' => e = .returned (i64 0) ∧ ∃ T', StR O B w' T' ∧ T'.ptr = T.ptr ∧ T'.tr = none ∧ Out (stQ O B T.H) w w' := by
  obtain ⟨H1, N1, hw, hd1, ha1, hkp⟩ := ex_second hx.dev (by have := hx.acts; omega) hx.sh (frameB (recOf T.seq 0 42 pB)) (frame_B _ _ _)
  have hw' : writeP T.N T.H (some 0) (frameB (recOf T.seq 0 42 pB)) T.seq = ((near 0, near 42), 0, H1, N1) := by
    rw [← hw]
    rw [hx.seq]
    rfl
  obtain ⟨y, hy1, hy2, hy3⟩ := hx.nts
  obtain ⟨tb, tv, htr⟩ := hx.tr
  refine (put_one h hx.dev.off (by rw [hx.offs, hx.dev.offs]) A c1 pB h1 f1 mayB0 (some 0) ⟨hx.sh.op, fun k hk => (by injection hk with hk; rw [hx.sh.S]; omega), fun n hn => ?_⟩ 42 (fun k hk => ?_) (fun hk => by cases hk) (by rw [hx.sh.Z]; decide) 0 42 0 ?_ ?_
    (mayBb (place_ok (part_near (by decide)) (part_near (by decide)) (by decide) (by decide))) (plainB (by rw [hx.seq]; decide) (by decide) (by decide)) (by rw [hx.seq]; decide) (by rw [hy1]; simp)
    (by have := hx.acts; omega) (by rw [hx.dev.offs]; decide) (fun c hc => by rw [hx.dev.cut] at hc; cases hc) (fun H' N' ho => ?_) (near 0) (near 42) H1 N1 hw' 0 42 (part_near (by decide)) (part_near (by decide)) hkp.D hkp.S hkp.Z hkp.SB hkp.LB hkp.EB
    (fun tr' => tr' = none) (fun W T' nb hT e1 e2 e3 => ?_)).mono ?_
  · rw [hx.sh.el] at hn
    rw [hx.sh.Z]
    rcases List.mem_cons.1 hn with rfl | hn
    · omega
    · rw [(List.mem_replicate.1 hn).2]; omega
  · injection hk with hk
    subst hk
    rw [hx.sh.el]
    rfl
  · rw [hx.sh.Z, seen_1 hx.dev hx.sh, size_B]
    exact plan_1
  · rw [seen_1 hx.dev hx.sh, blank_1]
    decide
  · obtain ⟨a1, a2, a3⟩ := opens_acts ho hx.dev.cut
    have := hx.acts
    have := hx.dev.offs
    exact ⟨by omega, by omega, fun c hc => by rw [a3] at hc; cases hc⟩
  · refine (comes_gone hT (x := ⟨nb, fndOf T.seq pB (near 0) (near 42) (near 0) (near 42) 0 42, (0 : Nat), true⟩) (by rw [e1]; simp) rfl (y := y) (by rw [e1, hy1]; simp) (by rw [e2]; exact hy3) ?_ (tb := tb) (tv := tv) (by rw [e3, htr])).mono ?_
    · rw [hy2]
      show (1 : Int) < ((T.seq : Nat) : Int)
      rw [hx.seq]
      decide
    · rintro e W' ⟨rfl, h2, h3⟩
      exact ⟨rfl, _, rfl, h2, h3⟩
  · rintro e w' ⟨rfl, nb, nv, tr', rfl, h2, h3⟩
    exact ⟨rfl, _, h2, rfl, rfl, h3⟩
theorem outLow {Q : Nat → Prop} {n : Nat} {w v : World} (h : Out Q w v) (hn : n ≤ w.heap.size) (hq : ∀ k, Q k → n ≤ k) : Below n w v :=
  ⟨h.os, h.tape, h.output, h.size, fun k hk => h.block k (by omega) (fun hk' => by have := hq k hk'; omega)⟩
theorem Pairs.one {w : World} {b : Nat} {p : Pair} {t : TypeId} {fr : Nat × Nat} (h : w.heap[b]? = some (.cells #[.string p.key, .string p.value, .bool p.gone] t fr)) : Pairs w (.slice (some ⟨b, 0, none⟩) 1 1) [p] := by
  refine ⟨some ⟨b, 0, none⟩, 1, rfl, Nat.le_refl _, by decide, (fun h => by cases h), fun _ => ⟨b, 0, rfl, (Array.getElem?_eq_some_iff.1 h).1, fun i x hx => ?_⟩⟩
  cases i with
  | zero =>
    injection hx with hx
    subst hx
    refine ⟨rfl, fun j u hj => ?_⟩
    match j, hj with
    | 0, hj => injection hj with hj; subst hj; exact cell_blk h 0
    | 1, hj => injection hj with hj; subst hj; exact cell_blk h 1
    | 2, hj => injection hj with hj; subst hj; exact cell_blk h 2
    | j + 3, hj => cases hj
  | succ i => cases hx

set_option maxHeartbeats 16000000 in
set_option maxRecDepth 100000 in
theorem fixed13 (w : World) (g0 : w.cell? ⟨0, 0, none⟩ = some (i64 6)) (g1 : w.cell? ⟨0, 1, none⟩ = some (i64 512)) (hg : 0 < w.heap.size) : Makes 9 #[] w (.bool true) := by
  have hge : geoB 6 512 = true := by kernel_rfl
  have GN := fun W => Lib.hid (new_any 6 512 W hge)
  have GO := fun O W N (hd : DevR O W N) (hf : Fresh N 6 512) => Lib.hid (open_any hd hf.off (fresh_found hf))
  have GL0 := fun W => Lib.hid (treeLen_nil W)
  have GL1 := fun (W : World) (b : Nat) (k v : ByteArray) (h : LeafAt W b k v) => Lib.hid (treeLen_leaf h)
  have GP : ∀ (W : World) (b : Nat), W.heap[b]? = some (.cells #[.string keyA, .string oneA, .bool false] 56 (0, 0)) → Hid (Makes 25 #[.slice (some ⟨b, 0, none⟩) 1 1] W (i64 34)) := fun W b h => Lib.hid (by
    have := price_any _ 1 [pA] W (Pairs.one (p := pA) h) (by decide)
    rw [show sumI (sizesL [pA]) = 34 by kernel_rfl] at this
    exact this)
  have GC : ∀ W, Hid (Makes 26 #[geo 6 512] W (i64 720)) := fun W => Lib.hid (capacity_yes 6 512 W hge)
  have SO := fun W (hb : Below w.heap.size w W) => (show W.cell? ⟨0, 0, none⟩ = some (i64 6) ∧ W.cell? ⟨0, 1, none⟩ = some (i64 512) ∧ 0 < W.heap.size from ⟨(hb.cell (p := ⟨0, 0, none⟩) hg).trans g0, (hb.cell (p := ⟨0, 1, none⟩) hg).trans g1, Nat.lt_of_lt_of_le hg hb.size⟩)
  have HSO := fun W => Lib.hid (SO W)
  clear SO hge
  go_enter Tryz.func9, Tryz.ntmps9
  go_wp2_with fail
  refine (GN _).out.mono ?_; rintro e w1 ⟨N, O, rfl, hd, hO, hfr, hb1⟩
  have GO1 := GO O w1 N hd hfr
  unfold OpenPost at GO1
  have HFR := Lib.hid hfr
  clear GO hd hfr
  go_wp2_with fail
  refine GO1.out.mono ?_; rintro e w2 ⟨B, T, rfl, hS, hTN, hn1, hn2, hn3, hn4, hn5, hn6, hn7, hn8, hn9, hn10, hown, hB, hb2⟩
  have hb3 := Base.tr hb1 hb2
  have hx0 : Ex0 T := ⟨by rw [hTN]; exact HFR.out.ex, by rw [hTN, HFR.out.acts]; omega, ⟨hn6.trans HFR.out.S, hn7.trans HFR.out.Z, hn8.trans (fresh_infos HFR.out), hn9.trans (fresh_ends HFR.out), hn10⟩, hn1, hn2, hn3, hn4, hn5.trans HFR.out.offs⟩
  have hQ : ∀ k, stQ O B T.H k → w.heap.size ≤ k := by
    intro k hk
    have := hb1.size
    rcases hk with (hk | hk) | hk
    · exact hO k hk
    · have := hown k hk; omega
    · omega
  have HQ := Lib.hid hQ
  have HX0 := Lib.hid hx0
  have HS := Lib.hid hS
  have HB3 := Lib.hid hb3
  have hlt := hS.lt
  clear GO1 hS hTN hn1 hn2 hn3 hn4 hn5 hn6 hn7 hn8 hn9 hn10 hown hB hb2 hb1 hO hx0 hQ hb3
  go_wp2_with fail
  have hb4 := Base.al (Below.refl _ w2) (.cells #[.string keyA, .string oneA, .bool false] 56)
  refine (fx_first (HS.out.below hb4) HX0.out (some ⟨w2.heap.size, 0, none⟩) 1 (Pairs.one (p := pA) (blk_new w2 _)) (far_lt hlt (Nat.le_refl _))).mono ?_; rintro e w3 ⟨rfl, T1, hS1, hp1, hx1, hown1, hout1⟩
  have hz2 := HB3.out.size
  have hb5 : Below w.heap.size w w3 := lowTr (Base.al HB3.out _) (outLow hout1 (by simp; omega) HQ.out)
  have hQ1 : ∀ k, stQ O B T1.H k → w.heap.size ≤ k := by
    intro k hk
    rcases hk with (hk | hk) | hk
    · exact HQ.out k (.inl (.inl hk))
    · exact HQ.out k (.inl (.inr (hown1 k hk)))
    · exact HQ.out k (.inr hk)
  obtain ⟨tb, tv, htr⟩ := hx1.tr
  have GT1 := stTree_any hS1
  rw [hp1, htr] at GT1
  have GT1' : Hid (Gives 13 #[T.ptr] w3 (.pointer (some ⟨tb, 0, none⟩))) := Lib.hid GT1
  have GL1' := GL1 w3 tb keyA tv (hS1.leaf tb keyA tv htr).1
  have HS1 := Lib.hid hS1
  have HX1 := Lib.hid hx1
  have HP1 := Lib.hid hp1
  have HQ1 := Lib.hid hQ1
  have HB5 := Lib.hid hb5
  have hlt1 := hS1.lt
  clear hS1 hp1 hx1 hown1 hout1 hb4 hb5 hQ1 htr GT1 GL1 HS HX0 HQ HB3 hlt
  go_wp2_with fail
  refine GT1'.out.mono ?_; rintro e x3 ⟨rfl, rfl⟩
  go_wp2_with fail
  refine GL1'.out.mono ?_; rintro e x3 ⟨rfl, rfl⟩
  go_wp2_with fail
  have hb6 := Base.al (Below.refl _ x3) (.cells #[.string keyA, .string noA, .bool true] 56)
  have G2 := fx_second (HS1.out.below hb6) HX1.out (some ⟨x3.heap.size, 0, none⟩) 1 (Pairs.one (p := pB) (blk_new x3 _)) (far_lt hlt1 (Nat.le_refl _))
  rw [HP1.out] at G2
  refine G2.mono ?_; rintro e w4 ⟨rfl, T2, hS2, hp2, htr2, hout2⟩
  have hz3 := HB5.out.size
  have hb7 : Below w.heap.size w w4 := lowTr (Base.al HB5.out _) (outLow hout2 (by simp; omega) HQ1.out)
  have GT2 := stTree_any hS2
  rw [hp2, htr2] at GT2
  have GT2' : Hid (Gives 13 #[T.ptr] w4 nilP) := Lib.hid GT2
  have HB7 := Lib.hid hb7
  clear hS2 hp2 htr2 hout2 hb6 hb7 G2 HS1 HX1 HP1 HQ1 HB5 GT2 hlt1
  go_wp2_with fail
  refine GT2'.out.mono ?_; rintro e x5 ⟨rfl, rfl⟩
  go_wp2_with fail
  refine (GL0 _).out.mono ?_; rintro e x5 ⟨rfl, rfl⟩
  go_wp2_with fail
  refine (GP _ _ (blk_new x5 _)).out.mono ?_; rintro e w6 ⟨rfl, hb8⟩
  have hb9 := Base.tr (Base.al HB7.out (.cells #[.string keyA, .string oneA, .bool false] 56)) hb8
  obtain ⟨u0, u1, hu⟩ := (HSO w6).out hb9
  clear g0 g1 hb8 GP GL0 GT2' HSO GN
  go_wp2_with fail
  refine (GC _).out.mono ?_; rintro e w7 ⟨rfl, hb10⟩
  have HB11 := Lib.hid (Base.tr hb9 hb10)
  clear hb9 hb10 u0 u1
  go_wp2_with fail
  go_ret
  exact ⟨rfl, HB11.out⟩
end Go.Proofs.YtnmeaminfoopmaaGreatDoor

/- StoreNil: the walk. -/
namespace Go.Proofs.YtnmeaminfoopmaaGreatDoor
open Go Go.RowKit Flo

set_option maxHeartbeats 8000000 in
set_option maxRecDepth 100000 in
theorem storeNil_makes (A : Option Addr) (n c1 : Nat) (l : List Pair) (w : World) (h1 : Pairs w (.slice A n c1) l) (hbig : l.length * 40 ≤ 140737488351232) (g0 : w.cell? ⟨0, 0, none⟩ = some (i64 6)) (g1 : w.cell? ⟨0, 1, none⟩ = some (i64 512)) (hg : 0 < w.heap.size) : Makes 3 #[.slice A n c1] w (.bool true) := by
  have GG := Lib.hid (great13_any A n c1 l w h1 hbig)
  have GF := fun W (hb : Below w.heap.size w W) => Lib.hid (fixed13 W ((hb.cell (p := ⟨0, 0, none⟩) hg).trans g0) ((hb.cell (p := ⟨0, 1, none⟩) hg).trans g1) (Nat.lt_of_lt_of_le hg hb.size))
  have GO := fun W => Lib.hid (open_nil W)
  have GP := fun W => Lib.hid (stPut_nil (.slice A n c1) W)
  have GC := fun W => Lib.hid (stCollect_nil W)
  have GT := fun W => Lib.hid (stTree_nil W)
  have GL := fun W => Lib.hid (treeLen_nil W)
  have GN := fun W => Lib.hid (stNeeded_nil W)
  have GO2 := fun W => Lib.hid (stGone_nil W)
  clear h1 g0 g1 hg
  go_enter Tryz.func3, Tryz.ntmps3
  go_wp2_with fail
  refine GG.out.mono ?_; rintro e w1 ⟨b, rfl, hb1⟩
  cases b with
  | true =>
    go_wp2_with fail
    refine (GF _ hb1).out.mono ?_; rintro e w2 ⟨rfl, hb2⟩
    have hb3 := Base.tr hb1 hb2
    go_wp2_with fail
    go_ret
    exact ⟨rfl, hb3⟩
  | false =>
    go_wp2_with fail
    refine (GO _).out.mono ?_; rintro e w2 ⟨rfl, hb2⟩
    have hb3 := Base.tr hb1 hb2
    go_wp2_with fail
    refine (GF _ hb3).out.mono ?_; rintro e w3 ⟨rfl, hb4⟩
    have hb5 := Base.tr hb3 hb4
    go_wp2_with fail
    refine (GP _).out.mono ?_; rintro e w4 ⟨rfl, hb6⟩
    have hb7 := Base.tr hb5 hb6
    go_wp2_with fail
    refine (GC _).out.mono ?_; rintro e w5 ⟨rfl, hb8⟩
    have hb9 := Base.tr hb7 hb8
    go_wp2_with fail
    refine (GT _).out.mono ?_; rintro e w6 ⟨rfl, rfl⟩
    go_wp2_with fail
    refine (GL _).out.mono ?_; rintro e w7 ⟨rfl, rfl⟩
    go_wp2_with fail
    refine (GN _).out.mono ?_; rintro e w8 ⟨rfl, rfl⟩
    go_wp2_with fail
    refine (GO2 _).out.mono ?_; rintro e w9 ⟨rfl, hb10⟩
    have hb11 := Base.tr hb9 hb10
    go_wp2_with fail
    go_ret
    exact ⟨rfl, hb11⟩
end Go.Proofs.YtnmeaminfoopmaaGreatDoor

