/- The example's device: what two writes on it come to. -/
import Derived.Test.YthiimpleljaimaaGreatDoorMg23
import Derived.Test.YthiimpleljaimaaGreatDoorMg21
import Derived.Test.YthiimpleljaimaaGreatDoorMg15
import Derived.Test.YthiimpleljaimaaGreatDoorMg35
namespace Go.Proofs.YthiimpleljaimaaGreatDoor
open Go Go.RowKit Flo

theorem prog_yes {N : Nor} {k p : Nat} {b : List Nat} (hoff : N.off = false) (hcut : N.cut = none) (hk : k < N.S) (hS : N.S ≤ 64) (hp : p + b.length ≤ N.Z) (hZ : N.Z ≤ 4096) (hb : b.length ≠ 0) (hbad : N.isBad k = false) :
    N.prog (near (k : Int)) (near (p : Int)) b = (0, { N with acts := N.acts + 1, data := N.data.set k (stepRow (fun i m old => pUp (b.getD i 0) m old) p (N.data.getD k []) b.length) }) := by
  obtain ⟨D, DA, WB, MB, CB, bk, cd, S, Z, data, wear, bad, off, offs, acts, cut⟩ := N
  simp only at hoff hcut hk hS hp hZ
  subst hoff; subst hcut
  have h1 : part? (near k) = some k := part_near (by omega)
  have h2 : part? (near p) = some p := part_near (by omega)
  have hw : withinB S Z (near k) (near p) b.length = true := by
    rw [within_yes h1 h2]
    simp only [Bool.and_eq_true, decide_eq_true_eq]
    omega
  unfold Nor.prog
  simp only
  rw [if_neg (by decide), if_neg hb, hw, if_neg (by decide), h1, h2]
  simp only [Option.getD_some]
  rw [hbad, if_neg (by decide)]
  rfl
/-- An act changes the count of acts by one at most; with no cut laid, nothing else of it. -/
theorem prog_acts {N N' : Nor} {a b : Nat} {l : List Nat} {e : Nat} (h : N.prog a b l = (e, N')) (hcut : N.cut = none) : N'.acts ≤ N.acts + 1 ∧ N'.offs = N.offs ∧ N'.cut = none := by
  unfold Nor.prog at h
  have same : ∀ {e' : Nat}, (e', N) = (e, N') → N'.acts ≤ N.acts + 1 ∧ N'.offs = N.offs ∧ N'.cut = none := fun h => by
    injection h with _ h
    subst h
    exact ⟨by omega, rfl, hcut⟩
  split at h
  · exact same h
  · split at h
    · exact same h
    · split at h
      · exact same h
      · split at h
        · exact same h
        · unfold Nor.act at h
          rw [hcut] at h
          injection h with _ h
          subst h
          exact ⟨Nat.le_refl _, rfl, rfl⟩
theorem opens_acts {N N' : Nor} {H H' : ShV} {e : Nat} (h : opensP N H = (e, H', N')) (hcut : N.cut = none) : N'.acts ≤ N.acts + 1 ∧ N'.offs = N.offs ∧ N'.cut = none := by
  unfold opensP at h
  cases hp : pickW (seenL H N H.S) with
  | none =>
    rw [hp] at h
    injection h with _ h
    injection h with _ h
    subst h
    exact ⟨by omega, rfl, hcut⟩
  | some k =>
    rw [hp] at h
    simp only at h
    have key : ∀ N', (N.prog (near k) (near 0) (headOf H.S H.Z)).2 = N' → N'.acts ≤ N.acts + 1 ∧ N'.offs = N.offs ∧ N'.cut = none := fun N' hN => by
      subst hN
      exact prog_acts (e := (N.prog (near k) (near 0) (headOf H.S H.Z)).1) rfl hcut
    split at h
    · injection h with _ h
      injection h with _ h
      exact key _ h
    · split at h
      · injection h with _ h
        injection h with _ h
        exact key _ h
      · injection h with _ h
        injection h with _ h
        exact key _ h
/-- What stays of a shelf and of its device behind an act. -/
structure ExKeep (N N' : Nor) (H H' : ShV) : Prop where
  D : N'.D = N.D
  S : N'.S = N.S
  Z : N'.Z = N.Z
  SB : H'.SB = H.SB
  LB : H'.LB = H.LB
  EB : H'.EB = H.EB
  HS : H'.S = H.S
  HZ : H'.Z = H.Z
  wear : N'.wear = N.wear
  bad : N'.bad = N.bad
  off : N'.off = N.off
  offs : N'.offs = N.offs
  cut : N'.cut = N.cut
theorem ExKeep.trans {N N' M : Nor} {H H' K : ShV} (h : ExKeep N N' H H') (g : ExKeep N' M H' K) : ExKeep N M H K :=
  ⟨g.D.trans h.D, g.S.trans h.S, g.Z.trans h.Z, g.SB.trans h.SB, g.LB.trans h.LB, g.EB.trans h.EB, g.HS.trans h.HS, g.HZ.trans h.HZ, g.wear.trans h.wear, g.bad.trans h.bad, g.off.trans h.off, g.offs.trans h.offs, g.cut.trans h.cut⟩
theorem ExKeep.op {N N' : Nor} {H H' : ShV} {o : Int} (h : ExKeep N N' { H with op := o } H') : ExKeep N N' H H' := ⟨h.D, h.S, h.Z, h.SB, h.LB, h.EB, h.HS, h.HZ, h.wear, h.bad, h.off, h.offs, h.cut⟩
theorem opens_yes {N : Nor} {H : ShV} {k : Nat} (hp : pickW (seenL H N H.S) = some k) (hoff : N.off = false) (hcut : N.cut = none) (hk : k < N.S) (hS : N.S ≤ 64) (h8 : 8 ≤ N.Z) (hZ : N.Z ≤ 4096) (hbad : N.isBad k = false) :
    ∃ H' N', opensP N H = (0, H', N') ∧ ExKeep N N' H H' ∧ N'.acts = N.acts + 1 ∧ H'.op = (k : Int) ∧ H'.il = H.il.set k { H.il.getD k noInfo with cls := 1, age := 0, need := 0 } ∧ H'.el = H.el.set k 8 := by
  have hpr := prog_yes (p := 0) (b := headOf H.S H.Z) hoff hcut hk hS (by rw [headOf_len]; omega) hZ (by rw [headOf_len]; decide) hbad
  refine ⟨{ H with op := (k : Int), il := H.il.set k { H.il.getD k noInfo with cls := 1, age := 0, need := 0 }, el := H.el.set k 8 }, (N.prog (near k) (near ((0 : Nat) : Int)) (headOf H.S H.Z)).2, ?_, ?_, ?_, rfl, rfl, rfl⟩
  · unfold opensP
    rw [hp]
    simp only
    rw [show near 0 = near ((0 : Nat) : Int) from rfl, hpr]
    simp [ShV.failed]
  · rw [hpr]
    exact ⟨rfl, rfl, rfl, rfl, rfl, rfl, rfl, rfl, rfl, rfl, rfl, rfl, rfl⟩
  · rw [hpr]
theorem writeAt_yes {N : Nor} {H : ShV} {k : Nat} {b : List Nat} {age : Int} (hoff : N.off = false) (hcut : N.cut = none) (hk : k < N.S) (hS : N.S ≤ 64) (hp : H.el.getD k 0 + b.length ≤ N.Z) (hZ : N.Z ≤ 4096) (hb : b.length ≠ 0) (hbad : N.isBad k = false) :
    ∃ H' N', writeAt N H k b age = ((near k, near (H.el.getD k 0)), 0, H', N') ∧ ExKeep N N' H H' ∧ N'.acts = N.acts + 1 ∧ H'.op = H.op ∧ H'.il = H.il.set k { H.il.getD k noInfo with age := max (H.il.getD k noInfo).age age } ∧ H'.el = H.el.set k (H.el.getD k 0 + b.length) := by
  have hpr := prog_yes (p := H.el.getD k 0) (b := b) hoff hcut hk hS hp hZ hb hbad
  refine ⟨{ H with el := H.el.set k (H.el.getD k 0 + b.length), il := H.il.set k { H.il.getD k noInfo with age := max (H.il.getD k noInfo).age age } }, (N.prog (near k) (near (H.el.getD k 0)) b).2, ?_, ?_, ?_, rfl, rfl, rfl⟩
  · unfold writeAt
    simp only
    rw [hpr]
    simp [ShV.failed]
  · rw [hpr]
    exact ⟨rfl, rfl, rfl, rfl, rfl, rfl, rfl, rfl, rfl, rfl, rfl, rfl, rfl⟩
  · rw [hpr]
theorem writeP_new {N N' : Nor} {H H' : ShV} {b : List Nat} {age : Int} (hf : fitsB H.Z b.length = true) (ho : opensP N { H with op := -1 } = (0, H', N')) : writeP N H none b age = writeAt N' H' H'.op.toNat b age := by
  unfold writeP
  rw [if_pos hf, if_pos (show needB H.Z none _ _ = true from rfl), ho]
  simp only [if_true]
theorem writeP_old {N : Nor} {H : ShV} {k : Nat} {b : List Nat} {age : Int} (hf : fitsB H.Z b.length = true) (hn : needB H.Z (some k) (H.el.getD k 0) b.length = false) : writeP N H (some k) b age = writeAt N H k b age := by
  unfold writeP
  rw [if_pos hf]
  simp only [Option.getD_some]
  rw [hn, if_neg (by decide)]

def il0 : List Info := List.replicate 6 noInfo
def il1 : List Info := ⟨1, false, 0, 1, 0, false⟩ :: List.replicate 5 noInfo
def il2 : List Info := ⟨1, true, 0, 1, 0, false⟩ :: List.replicate 5 noInfo
/-- A shelf of the example: nothing written; one frame written. -/
structure ExSh (H : ShV) (il : List Info) (e0 : Nat) (op : Int) : Prop where
  S : H.S = 6
  Z : H.Z = 512
  il : H.il = il
  el : H.el = e0 :: List.replicate 5 0
  op : H.op = op
structure ExDev (N : Nor) : Prop where
  S : N.S = 6
  Z : N.Z = 512
  wear : N.wear = List.replicate 6 0
  bad : N.bad = []
  off : N.off = false
  offs : N.offs = 0
  acts : N.acts ≤ 10
  cut : N.cut = none
theorem Fresh.ex {N : Nor} (h : Fresh N 6 512) : ExDev N := ⟨h.S, h.Z, h.wear, h.bad, h.off, h.offs, by rw [h.acts]; omega, h.cut⟩
theorem ExDev.notBad {N : Nor} (h : ExDev N) (k : Nat) : N.isBad k = false := by unfold Nor.isBad; rw [h.bad]; rfl
theorem class_512 : classB 6 512 (List.replicate 512 255) = 0 := by kernel_rfl
theorem fresh_sec {N : Nor} (h : Fresh N 6 512) (i : Nat) (hi : i < 6) : secAt N i = ⟨0, 0, false, []⟩ := by
  have hc := class_512
  have hd : N.data.getD i [] = List.replicate 512 255 := by
    rw [h.data, List.getD_eq_getElem?_getD, List.getElem?_replicate, if_pos hi]
    exact Option.getD_some
  generalize List.replicate 512 255 = L at hc hd
  unfold secAt scanB
  rw [h.S, h.Z, hd]
  have hc' : classB ((6 : Nat) : Int) ((512 : Nat) : Int) L = 0 := hc
  rw [hc', if_neg (by decide)]
  rfl
theorem fresh_found {N : Nor} (h : Fresh N 6 512) : shFound N N.S = [] := by
  unfold shFound
  rw [h.S, List.flatMap_eq_nil_iff]
  intro i hi
  rw [fresh_sec h i (List.mem_range.1 hi)]
theorem fresh_infos {N : Nor} (h : Fresh N 6 512) : shInfos N N.S = il0 := by
  unfold shInfos il0
  rw [h.S, List.eq_replicate_iff]
  refine ⟨by simp, fun x hx => ?_⟩
  obtain ⟨i, hi, rfl⟩ := List.mem_map.1 hx
  unfold infoAt
  rw [fresh_sec h i (List.mem_range.1 hi)]
  rfl
theorem fresh_ends {N : Nor} (h : Fresh N 6 512) : shEnds N N.S = 0 :: List.replicate 5 0 := by
  show _ = List.replicate 6 0
  unfold shEnds
  rw [h.S, List.eq_replicate_iff]
  refine ⟨by simp, fun x hx => ?_⟩
  obtain ⟨i, hi, rfl⟩ := List.mem_map.1 hx
  rw [fresh_sec h i (List.mem_range.1 hi)]
theorem seen_0 {N : Nor} {H : ShV} {e0 : Nat} (hN : ExDev N) (hH : ExSh H il0 e0 (-1)) : seenL H N H.S = il0 := by
  obtain ⟨D, DA, WB, MB, CB, bk, cd, S, Z, data, wear, bad, off, offs, acts, cut⟩ := N
  obtain ⟨SB, LB, EB, lc, ec, D2, S2, Z2, il, el, op⟩ := H
  obtain ⟨rfl, rfl, rfl, -, -, -, -, -⟩ := hN
  obtain ⟨rfl, rfl, rfl, -, rfl⟩ := hH
  rfl
theorem seen_1 {N : Nor} {H : ShV} {e0 : Nat} (hN : ExDev N) (hH : ExSh H il1 e0 0) : seenL H N H.S = il2 := by
  obtain ⟨D, DA, WB, MB, CB, bk, cd, S, Z, data, wear, bad, off, offs, acts, cut⟩ := N
  obtain ⟨SB, LB, EB, lc, ec, D2, S2, Z2, il, el, op⟩ := H
  obtain ⟨rfl, rfl, rfl, -, -, -, -, -⟩ := hN
  obtain ⟨rfl, rfl, rfl, -, rfl⟩ := hH
  rfl
theorem plan_0 : planGo 512 [34] il0 none 0 0 [] = some ([(0, 8)], 1) := by kernel_rfl
theorem plan_1 : planGo 512 [33] il2 (some 0) 42 0 [] = some ([(0, 42)], 0) := by kernel_rfl
theorem blank_0 : (idx canBlank 0 il0).length = 6 := by kernel_rfl
theorem blank_1 : (idx canBlank 0 il2).length = 5 := by kernel_rfl
theorem pick_0 : pickW il0 = some 0 := by kernel_rfl
theorem ExDev.keep {N N' : Nor} {H H' : ShV} (h : ExDev N) (k : ExKeep N N' H H') (ha : N'.acts ≤ 10) : ExDev N' := ⟨k.S.trans h.S, k.Z.trans h.Z, k.wear.trans h.wear, k.bad.trans h.bad, k.off.trans h.off, k.offs.trans h.offs, ha, k.cut.trans h.cut⟩
theorem ex_first {N : Nor} {H : ShV} (hN : ExDev N) (ha : N.acts ≤ 8) (hH : ExSh H il0 0 (-1)) (b : List Nat) (hb : b.length = 34) :
    ∃ H1 N1, writeP N H none b 1 = ((near 0, near 8), 0, H1, N1) ∧ ExDev N1 ∧ N1.acts ≤ N.acts + 2 ∧ ExSh H1 il1 42 0 ∧ ExKeep N N1 H H1 := by
  have hp : pickW (seenL { H with op := -1 } N H.S) = some 0 := (congrArg pickW (seen_0 (H := { H with op := -1 }) hN ⟨hH.S, hH.Z, hH.il, hH.el, rfl⟩)).trans pick_0
  obtain ⟨H', N', ho, hk1, ha1, hop, hil, hel⟩ := opens_yes (H := { H with op := -1 }) hp hN.off hN.cut (by rw [hN.S]; decide) (by rw [hN.S]; decide) (by rw [hN.Z]; decide) (by rw [hN.Z]; decide) (hN.notBad 0)
  have hk1' := hk1.op
  have hN' := hN.keep hk1' (by omega)
  have hil' : H'.il = H.il.set 0 { H.il.getD 0 noInfo with cls := 1, age := 0, need := 0 } := hil
  have hel' : H'.el = H.el.set 0 8 := hel
  have hw := writeP_new (b := b) (age := 1) (by rw [hH.Z, hb]; rfl) ho
  rw [hH.el] at hel'
  rw [hH.il] at hil'
  have he : H'.el.getD 0 0 = 8 := by rw [hel']; rfl
  obtain ⟨H2, N2, hw2, hk2, ha2, hop2, hil2, hel2⟩ := writeAt_yes (N := N') (H := H') (k := 0) (b := b) (age := 1) hN'.off hN'.cut (by rw [hN'.S]; decide) (by rw [hN'.S]; decide) (by rw [he, hb, hN'.Z]; decide) (by rw [hN'.Z]; decide) (by rw [hb]; decide) (hN'.notBad 0)
  rw [hop] at hw
  rw [he] at hw2
  refine ⟨H2, N2, hw.trans hw2, hN'.keep hk2 (by omega), by omega, ⟨(hk2.HS.trans hk1'.HS).trans hH.S, (hk2.HZ.trans hk1'.HZ).trans hH.Z, ?_, ?_, ?_⟩, hk1'.trans hk2⟩
  · rw [hil2, hil']
    rfl
  · rw [hel2, he, hb, hel']
    rfl
  · rw [hop2, hop]
    rfl
theorem ex_second {N : Nor} {H : ShV} (hN : ExDev N) (ha : N.acts ≤ 8) (hH : ExSh H il1 42 0) (b : List Nat) (hb : b.length = 33) :
    ∃ H1 N1, writeP N H (some 0) b 2 = ((near 0, near 42), 0, H1, N1) ∧ ExDev N1 ∧ N1.acts ≤ N.acts + 1 ∧ ExKeep N N1 H H1 := by
  have he : H.el.getD 0 0 = 42 := by rw [hH.el]; rfl
  have hw := writeP_old (N := N) (b := b) (age := 2) (k := 0) (H := H) (by rw [hH.Z, hb]; rfl) (by rw [he, hH.Z, hb]; rfl)
  obtain ⟨H2, N2, hw2, hk2, ha2, hop2, hil2, hel2⟩ := writeAt_yes (N := N) (H := H) (k := 0) (b := b) (age := 2) hN.off hN.cut (by rw [hN.S]; decide) (by rw [hN.S]; decide) (by rw [he, hb, hN.Z]; decide) (by rw [hN.Z]; decide) (by rw [hb]; decide) (hN.notBad 0)
  rw [he] at hw2
  exact ⟨H2, N2, hw.trans hw2, hN.keep hk2 (by omega), by omega, hk2⟩
end Go.Proofs.YthiimpleljaimaaGreatDoor

/- The example's device (16 sectors of 1024 bytes): what the first commit comes to, in plain Lean. -/
namespace Go.Proofs.YthiimpleljaimaaGreatDoor
open Go Go.RowKit Flo

/-! ### The keys and the values -/
abbrev kEa : ByteArray := keyE 1 nameA
abbrev kI2 : ByteArray := keyI 2
abbrev vEa : ByteArray := toB (be 4 2)
abbrev vI2 : ByteArray := toB (nodeL 1 1 0 0)
abbrev pEa : Pair := ⟨kEa, vEa, false⟩
abbrev pI2 : Pair := ⟨kI2, vI2, false⟩
theorem ltEI (n : Nat) : ltB kEa (keyI n) = true := by
  unfold ltB kEa keyE keyI
  rw [ByteArray.toList_eq, ByteArray.toList_eq]
  rfl
theorem writes_is (x y : ByteArray) : inT (setT kEa x (setT kI2 y .nil)) = [⟨kEa, x, false⟩, ⟨kI2, y, false⟩] := by
  have h : setT kEa x (setT kI2 y .nil) = joinT kI2 y (setT kEa x .nil) .nil := by
    show setT kEa x (.node kI2 y .nil .nil) = _
    unfold setT
    rw [if_pos (ltEI 2)]
    rfl
  rw [h]
  rfl
theorem reads_is (x y : ByteArray) : inT (setT kEa x (setT (keyI 1) y .nil)) = [⟨kEa, x, false⟩, ⟨keyI 1, y, false⟩] := by
  have h : setT kEa x (setT (keyI 1) y .nil) = joinT (keyI 1) y (setT kEa x .nil) .nil := by
    show setT kEa x (.node (keyI 1) y .nil .nil) = _
    unfold setT
    rw [if_pos (ltEI 1)]
    rfl
  rw [h]
  rfl
theorem unmark_E : unmark ⟨kEa, markB ++ vEa, false⟩ = pEa := by kernel_rfl
theorem unmark_I : unmark ⟨kI2, markB ++ vI2, false⟩ = pI2 := by kernel_rfl
theorem kEa_size : kEa.size = 6 := by kernel_rfl
theorem kI2_size : kI2.size = 5 := by kernel_rfl
theorem vEa_size : vEa.size = 4 := by kernel_rfl
theorem vI2_size : vI2.size = 13 := by kernel_rfl
theorem ne_of_size {b : ByteArray} (h : 0 < b.size) : b.toList ≠ [] := by
  rw [ByteArray.toList_eq]
  intro e
  have h2 : b.data.size = b.data.toList.length := by simp
  have h3 : b.size = b.data.size := rfl
  rw [e] at h2
  simp at h2
  rw [h3, h2] at h
  exact Nat.lt_irrefl 0 h
theorem kEa_ne : kEa.toList ≠ [] := ne_of_size (by rw [kEa_size]; decide)
theorem kI2_ne : kI2.toList ≠ [] := ne_of_size (by rw [kI2_size]; decide)
abbrev lC : List Pair := [pEa, pI2]
theorem place_okX {a b s o : Nat} (ha : part? a = some s) (hb : part? b = some o) (hs : s ≤ 254) (ho : o ≤ 65535) : placeOk a b = true := by
  unfold placeOk
  rw [parts_some ha hb]
  simp [hs, ho]
theorem sizes_C : sizesL lC = [42, 50] := by kernel_rfl
abbrev psC : List (Nat × Nat) := [(near 0, near 8), (near 0, near 50)]
theorem link_0 : linkItem 1 lC [1, 1] psC 0 = ⟨1, 1, 0, 2, near 0, near 50, false, kEa, vEa⟩ := rfl
theorem link_1 : linkItem 1 lC [1, 1] psC 1 = ⟨1, 1, 1, 2, near 0, near 8, false, kI2, vI2⟩ := rfl
theorem nr0 : part? (near 0) = some 0 := part_near (n := 0) (by decide)
theorem nr8 : part? (near 8) = some 8 := part_near (n := 8) (by decide)
theorem nr50 : part? (near 50) = some 50 := part_near (n := 50) (by decide)
theorem may_0 : mayB ⟨1, 1, 0, 2, near 0, near 50, false, kEa, vEa⟩ = true := by
  rw [mayB_rest]
  show (placeOk (near 0) (near 50) && _) = true
  rw [place_okX nr0 nr50 (by decide) (by decide), Bool.true_and, restB_iff]
  exact ⟨⟨(by decide : (1 : Int) ≤ 2), (by decide : (2 : Int) ≤ 255), (by decide : (0 : Int) ≤ 0), (by decide : (0 : Int) < 2)⟩, kEa_ne, by show (kEa.size : Int) ≤ 48; rw [kEa_size]; decide, by show (vEa.size : Int) ≤ 64; rw [vEa_size]; decide, .inl rfl⟩
theorem may_1 : mayB ⟨1, 1, 1, 2, near 0, near 8, false, kI2, vI2⟩ = true := by
  rw [mayB_rest]
  show (placeOk (near 0) (near 8) && _) = true
  rw [place_okX nr0 nr8 (by decide) (by decide), Bool.true_and, restB_iff]
  exact ⟨⟨(by decide : (1 : Int) ≤ 2), (by decide : (2 : Int) ≤ 255), (by decide : (0 : Int) ≤ 1), (by decide : (1 : Int) < 2)⟩, kI2_ne, by show (kI2.size : Int) ≤ 48; rw [kI2_size]; decide, by show (vI2.size : Int) ≤ 64; rw [vI2_size]; decide, .inl rfl⟩
theorem plain_0 : Plain ⟨1, 1, 0, 2, near 0, near 50, false, kEa, vEa⟩ 1 1 0 2 0 50 :=
  { hseq := rfl, hver := rfl, hidx := rfl, hcnt := rfl, hs := nr0, ho := nr50, seq2 := by decide, ver2 := by decide, cnt1 := by decide, cnt2 := by decide, idx1 := by decide, s2 := by decide, o2 := by decide, key1 := kEa_ne, key2 := by show kEa.size ≤ 48; rw [kEa_size]; decide, val2 := by show vEa.size ≤ 64; rw [vEa_size]; decide, gone1 := .inl rfl }
theorem plain_1 : Plain ⟨1, 1, 1, 2, near 0, near 8, false, kI2, vI2⟩ 1 1 1 2 0 8 :=
  { hseq := rfl, hver := rfl, hidx := rfl, hcnt := rfl, hs := nr0, ho := nr8, seq2 := by decide, ver2 := by decide, cnt1 := by decide, cnt2 := by decide, idx1 := by decide, s2 := by decide, o2 := by decide, key1 := kI2_ne, key2 := by show kI2.size ≤ 48; rw [kI2_size]; decide, val2 := by show vI2.size ≤ 64; rw [vI2_size]; decide, gone1 := .inl rfl }
abbrev recC : Nat → List Nat
  | 0 => itemB 1 1 0 2 0 50 false kEa vEa
  | _ => itemB 1 1 1 2 0 8 false kI2 vI2
theorem frame_0 : (frameB (recC 0)).length = 42 := by
  show (frameB (itemB 1 1 0 2 0 50 false kEa vEa)).length = 42
  rw [frame_len, itemB_len, kEa_size, vEa_size]
theorem frame_1 : (frameB (recC 1)).length = 50 := by
  show (frameB (itemB 1 1 1 2 0 8 false kI2 vI2)).length = 50
  rw [frame_len, itemB_len, kI2_size, vI2_size]

/-! ### The device -/
def ilA : List Info := List.replicate 16 noInfo
def ilB : List Info := ⟨1, false, 0, 1, 0, false⟩ :: List.replicate 15 noInfo
def elA : List Nat := List.replicate 16 0
structure XSh (H : ShV) (il : List Info) (e0 : Nat) (op : Int) : Prop where
  S : H.S = 16
  Z : H.Z = 1024
  il : H.il = il
  el : H.el = e0 :: List.replicate 15 0
  op : H.op = op
structure XDev (N : Nor) : Prop where
  S : N.S = 16
  Z : N.Z = 1024
  wear : N.wear = List.replicate 16 0
  bad : N.bad = []
  off : N.off = false
  offs : N.offs = 0
  acts : N.acts ≤ 10
  cut : N.cut = none
theorem Fresh.xd {N : Nor} (h : Fresh N 16 1024) : XDev N := ⟨h.S, h.Z, h.wear, h.bad, h.off, h.offs, by rw [h.acts]; omega, h.cut⟩
theorem XDev.notBad {N : Nor} (h : XDev N) (k : Nat) : N.isBad k = false := by unfold Nor.isBad; rw [h.bad]; rfl
theorem class_1024 : classB 16 1024 (List.replicate 1024 255) = 0 := by kernel_rfl
theorem freshX_sec {N : Nor} (h : Fresh N 16 1024) (i : Nat) (hi : i < 16) : secAt N i = ⟨0, 0, false, []⟩ := by
  have hc := class_1024
  have hd : N.data.getD i [] = List.replicate 1024 255 := by
    rw [h.data, List.getD_eq_getElem?_getD, List.getElem?_replicate, if_pos hi]
    exact Option.getD_some
  generalize List.replicate 1024 255 = L at hc hd
  unfold secAt scanB
  rw [h.S, h.Z, hd]
  have hc' : classB ((16 : Nat) : Int) ((1024 : Nat) : Int) L = 0 := hc
  rw [hc', if_neg (by decide)]
  rfl
theorem freshX_found {N : Nor} (h : Fresh N 16 1024) : shFound N N.S = [] := by
  unfold shFound
  rw [h.S, List.flatMap_eq_nil_iff]
  intro i hi
  rw [freshX_sec h i (List.mem_range.1 hi)]
theorem freshX_infos {N : Nor} (h : Fresh N 16 1024) : shInfos N N.S = ilA := by
  unfold shInfos ilA
  rw [h.S, List.eq_replicate_iff]
  refine ⟨by simp, fun x hx => ?_⟩
  obtain ⟨i, hi, rfl⟩ := List.mem_map.1 hx
  unfold infoAt
  rw [freshX_sec h i (List.mem_range.1 hi)]
  rfl
theorem freshX_ends {N : Nor} (h : Fresh N 16 1024) : shEnds N N.S = 0 :: List.replicate 15 0 := by
  show _ = List.replicate 16 0
  unfold shEnds
  rw [h.S, List.eq_replicate_iff]
  refine ⟨by simp, fun x hx => ?_⟩
  obtain ⟨i, hi, rfl⟩ := List.mem_map.1 hx
  rw [freshX_sec h i (List.mem_range.1 hi)]
theorem seenX_0 {N : Nor} {H : ShV} {e0 : Nat} (hN : XDev N) (hH : XSh H ilA e0 (-1)) : seenL H N H.S = ilA := by
  obtain ⟨D, DA, WB, MB, CB, bk, cd, S, Z, data, wear, bad, off, offs, acts, cut⟩ := N
  obtain ⟨SB, LB, EB, lc, ec, D2, S2, Z2, il, el, op⟩ := H
  obtain ⟨rfl, rfl, rfl, -, -, -, -, -⟩ := hN
  obtain ⟨rfl, rfl, rfl, -, rfl⟩ := hH
  rfl
theorem planX_0 : planGo 1024 [42, 50] ilA none 0 0 [] = some ([(0, 8), (0, 50)], 1) := by kernel_rfl
theorem blankX_0 : (idx canBlank 0 ilA).length = 16 := by kernel_rfl
theorem pickX_0 : pickW ilA = some 0 := by kernel_rfl
theorem XDev.keep {N N' : Nor} {H H' : ShV} (h : XDev N) (k : ExKeep N N' H H') (ha : N'.acts ≤ 10) : XDev N' := ⟨k.S.trans h.S, k.Z.trans h.Z, k.wear.trans h.wear, k.bad.trans h.bad, k.off.trans h.off, k.offs.trans h.offs, ha, k.cut.trans h.cut⟩
theorem x_first {N : Nor} {H : ShV} (hN : XDev N) (ha : N.acts ≤ 8) (hH : XSh H ilA 0 (-1)) (b : List Nat) (hb : b.length = 42) :
    ∃ H1 N1, writeP N H none b 1 = ((near 0, near 8), 0, H1, N1) ∧ XDev N1 ∧ N1.acts ≤ N.acts + 2 ∧ XSh H1 ilB 50 0 ∧ ExKeep N N1 H H1 := by
  have hp : pickW (seenL { H with op := -1 } N H.S) = some 0 := (congrArg pickW (seenX_0 (H := { H with op := -1 }) hN ⟨hH.S, hH.Z, hH.il, hH.el, rfl⟩)).trans pickX_0
  obtain ⟨H', N', ho, hk1, ha1, hop, hil, hel⟩ := opens_yes (H := { H with op := -1 }) hp hN.off hN.cut (by rw [hN.S]; decide) (by rw [hN.S]; decide) (by rw [hN.Z]; decide) (by rw [hN.Z]; decide) (hN.notBad 0)
  have hk1' := hk1.op
  have hN' := hN.keep hk1' (by omega)
  have hil' : H'.il = H.il.set 0 { H.il.getD 0 noInfo with cls := 1, age := 0, need := 0 } := hil
  have hel' : H'.el = H.el.set 0 8 := hel
  have hw := writeP_new (b := b) (age := 1) (by rw [hH.Z, hb]; rfl) ho
  rw [hH.el] at hel'
  rw [hH.il] at hil'
  have he : H'.el.getD 0 0 = 8 := by rw [hel']; rfl
  obtain ⟨H2, N2, hw2, hk2, ha2, hop2, hil2, hel2⟩ := writeAt_yes (N := N') (H := H') (k := 0) (b := b) (age := 1) hN'.off hN'.cut (by rw [hN'.S]; decide) (by rw [hN'.S]; decide) (by rw [he, hb, hN'.Z]; decide) (by rw [hN'.Z]; decide) (by rw [hb]; decide) (hN'.notBad 0)
  rw [hop] at hw
  rw [he] at hw2
  refine ⟨H2, N2, hw.trans hw2, hN'.keep hk2 (by omega), by omega, ⟨(hk2.HS.trans hk1'.HS).trans hH.S, (hk2.HZ.trans hk1'.HZ).trans hH.Z, ?_, ?_, ?_⟩, hk1'.trans hk2⟩
  · rw [hil2, hil']
    rfl
  · rw [hel2, he, hb, hel']
    rfl
  · rw [hop2, hop]
    rfl
theorem x_second {N : Nor} {H : ShV} (hN : XDev N) (ha : N.acts ≤ 8) (hH : XSh H ilB 50 0) (b : List Nat) (hb : b.length = 50) :
    ∃ H1 N1, writeP N H (some 0) b 1 = ((near 0, near 50), 0, H1, N1) ∧ XDev N1 ∧ N1.acts ≤ N.acts + 1 ∧ ExKeep N N1 H H1 := by
  have he : H.el.getD 0 0 = 50 := by rw [hH.el]; rfl
  have hw := writeP_old (N := N) (b := b) (age := 1) (k := 0) (H := H) (by rw [hH.Z, hb]; rfl) (by rw [he, hH.Z, hb]; rfl)
  obtain ⟨H2, N2, hw2, hk2, ha2, hop2, hil2, hel2⟩ := writeAt_yes (N := N) (H := H) (k := 0) (b := b) (age := 1) hN.off hN.cut (by rw [hN.S]; decide) (by rw [hN.S]; decide) (by rw [he, hb, hN.Z]; decide) (by rw [hN.Z]; decide) (by rw [hb]; decide) (hN.notBad 0)
  rw [he] at hw2
  exact ⟨H2, N2, hw.trans hw2, hN.keep hk2 (by omega), by omega, hk2⟩
end Go.Proofs.YthiimpleljaimaaGreatDoor

