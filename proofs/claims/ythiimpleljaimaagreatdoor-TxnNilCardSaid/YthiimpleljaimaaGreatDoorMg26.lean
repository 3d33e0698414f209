/- names.Split of the path "/a". -/
import Derived.Test.YthiimpleljaimaaGreatDoorMg10
import Derived.Lib.Bytealg
import Derived.Laws.RangeString
import Derived.Test.YthiimpleljaimaaGreatDoorMg28
namespace Go.Proofs.YthiimpleljaimaaGreatDoor
open Go Go.RowKit Flo

abbrev pathA : ByteArray := { data := #[47, 97] }
abbrev nameA : ByteArray := { data := #[97] }
abbrev slashA : ByteArray := { data := #[47] }
theorem cntA (w : World) : (callFunc 315 #[.string nameA, .int .u8 47]).run Tryz.prog w = .ok (.value (i64 0)) w := by
  rw [run_callFunc_extern Tryz.func315 (by kernel_rfl) (by kernel_rfl) (by kernel_rfl) (e := Extern.BytealgCount.count) (by kernel_rfl), Lib.run_countString]
  rfl
set_option maxHeartbeats 1000000 in
set_option maxRecDepth 100000 in
theorem countA (w : World) : Gives 308 #[.string nameA, .string slashA] w (i64 0) := by
  have h := fun W => cntA W
  have hb : (((slashA[0]'(by decide)).toNat : Nat) : Int) = 47 := rfl
  go_enter Tryz.func308, Tryz.ntmps308
  go_wp2_with fail
  go_ret
  exact ⟨rfl, rfl⟩
theorem info_strS : (Tryz.prog.info? 9).map (fun i => (i.zero, i.size, i.bytes)) = some (some (.string { data := #[] }), 1, 16) := by kernel_rfl
set_option maxHeartbeats 4000000 in
set_option maxRecDepth 100000 in
theorem genSplitA (w : World) : Calls Tryz.prog 300 #[.string nameA, .string slashA, i64 0, i64 (-1)] w fun e w' => e = .returned (.slice (some ⟨w.heap.size, 0, none⟩) 1 1) ∧ w' = w.alloc (.cells #[.string nameA] 9) := by
  have G := fun W => Lib.hid (countA W)
  obtain ⟨i0, hi, hz0, hz1, hz2⟩ := info_parts info_strS
  have hmk := fun W => run_make (P := Tryz.prog) W 39 9 i0 _ Tryz.underlying39 hi hz0 .i64 .i64 (1 : Int) (1 : Int) (by omega) (Int.le_refl _) (by rw [hz2]; decide) (by omega)
  have hz : madeCells (Value.string { data := #[] }).cells ((1 : Int).toNat * i0.size) = #[Value.string { data := #[] }] := by rw [hz1]; simp [madeCells, Value.cells]; exact ⟨0, by decide, by simp⟩
  rw [hz] at hmk
  go_enter Tryz.func300, Tryz.ntmps300
  go_wp2_with fail
  refine (G _).out.mono ?_; rintro e w1 ⟨rfl, rfl⟩
  go_wp2_with fail
  go_loopw [0, 10] (fun s i wr => s = .string nameA ∧ i = i64 0 ∧ wr = w1.alloc (.cells #[Value.string { data := #[] }] 9)) (fun _ _ _ => 0)
  case atStart => exact ⟨rfl, rfl, rfl⟩
  case round =>
    obtain ⟨rfl, rfl, rfl⟩ := hrel
    go_wp2_with fail
    go_ret
    exact ⟨rfl, rfl⟩
set_option maxHeartbeats 1000000 in
set_option maxRecDepth 100000 in
theorem splitA (w : World) : Calls Tryz.prog 292 #[.string nameA, .string slashA] w fun e w' => e = .returned (.slice (some ⟨w.heap.size, 0, none⟩) 1 1) ∧ w' = w.alloc (.cells #[.string nameA] 9) := by
  have G := fun W => Lib.hid (genSplitA W)
  go_enter Tryz.func292, Tryz.ntmps292
  go_wp2_with fail
  refine (G _).out.mono ?_; rintro e w1 ⟨rfl, rfl⟩
  go_wp2_with fail
  go_ret
  exact ⟨rfl, rfl⟩

/-! ### keys.Name of one letter -/
theorem next_a (w : World) (ty : TypeId) : (Instr.next (.pointer (some ⟨w.heap.size, 0, none⟩)) true ty).run Tryz.prog (w.iter nameA 0) = .ok (.tuple #[.bool true, .int .i64 0, .int .i32 97]) (w.iter nameA 1) :=
  run_next_ascii (P := Tryz.prog) w nameA 0 ty (by decide) (by decide)
theorem next_end (w : World) (ty : TypeId) : (Instr.next (.pointer (some ⟨w.heap.size, 0, none⟩)) true ty).run Tryz.prog (w.iter nameA 1) = .ok (.tuple #[.bool false]) (w.iter nameA 1) :=
  run_next_end (P := Tryz.prog) w nameA 1 ty (by decide)
set_option maxHeartbeats 4000000 in
set_option maxRecDepth 100000 in
theorem nameA_may (w : World) : Makes 303 #[.string nameA] w (.bool true) := by
  go_enter Tryz.func303, Tryz.ntmps303
  go_wp2_with fail
  go_loopw [4] (fun v wr => (v = undef ∧ wr = w.iter nameA 0) ∨ (v = .int .i32 97 ∧ wr = w.iter nameA 1)) (fun v _ => match v with | .int _ _ => 0 | _ => 1)
  case atStart => exact .inl ⟨rfl, rfl⟩
  case round =>
    rcases hrel with ⟨rfl, rfl⟩ | ⟨rfl, rfl⟩
    · have hn := fun ty => next_a w ty
      go_wp2_with fail
      exact ⟨.inr ⟨rfl, trivial⟩, by decide⟩
    · have hn := fun ty => next_end w ty
      go_wp2_with fail
      go_ret
      exact ⟨rfl, Base.al (Below.refl _ _) _⟩
set_option maxHeartbeats 4000000 in
set_option maxRecDepth 100000 in
theorem may1_A (w : World) : Makes 302 #[.string nameA] w (.bool false) := by
  have G := fun W => Lib.hid (nameA_may W)
  go_enter Tryz.func302, Tryz.ntmps302
  go_wp2_with fail
  refine (G _).out.mono ?_; rintro e w1 ⟨rfl, hb⟩
  go_wp2_with fail
  go_ret
  exact ⟨rfl, hb⟩
set_option maxHeartbeats 4000000 in
set_option maxRecDepth 100000 in
theorem indexFuncA (b : Nat) (w : World) (h : w.heap[b]? = some (.cells #[.string nameA] 9 (0, 0))) : Makes 310 #[.slice (some ⟨b, 0, none⟩) 1 1, .func (.func 302) #[] #[]] w (i64 (-1)) := by
  have G := fun W => Lib.hid (may1_A W)
  have c0 : w.cell? ⟨b, 0, none⟩ = some (.string nameA) := cell_blk h 0
  have hlt := (Array.getElem?_eq_some_iff.1 h).1
  clear h
  go_enter Tryz.func310, Tryz.ntmps310
  go_wp2_with fail
  go_loopw [8] (fun i wr => (i = i64 0 ∧ wr = w) ∨ (i = i64 1 ∧ Below w.heap.size w wr)) (fun i _ => 1 - (intOf i).toNat)
  case atStart => exact .inl ⟨rfl, rfl⟩
  case round =>
    rcases hrel with ⟨rfl, rfl⟩ | ⟨rfl, hb⟩
    · go_wp2_with fail
      refine (G _).out.mono ?_; rintro e w1 ⟨rfl, hb⟩
      go_wp2_with fail
      exact ⟨.inr ⟨rfl, hb⟩, by simp [intOf]⟩
    · go_wp2_with fail
      go_ret
      exact ⟨rfl, hb⟩
set_option maxHeartbeats 4000000 in
set_option maxRecDepth 100000 in
theorem containsA (b : Nat) (w : World) (h : w.heap[b]? = some (.cells #[.string nameA] 9 (0, 0))) : Makes 301 #[.slice (some ⟨b, 0, none⟩) 1 1, .func (.func 302) #[] #[]] w (.bool false) := by
  have G := Lib.hid (indexFuncA b w h)
  clear h
  go_enter Tryz.func301, Tryz.ntmps301
  go_wp2_with fail
  refine G.out.mono ?_; rintro e w1 ⟨rfl, hb⟩
  go_wp2_with fail
  go_ret
  exact ⟨rfl, hb⟩
set_option maxHeartbeats 4000000 in
set_option maxRecDepth 100000 in
theorem namesMayA (b : Nat) (w : World) (h : w.heap[b]? = some (.cells #[.string nameA] 9 (0, 0))) : Makes 293 #[.slice (some ⟨b, 0, none⟩) 1 1] w (.bool true) := by
  have G := Lib.hid (containsA b w h)
  clear h
  go_enter Tryz.func293, Tryz.ntmps293
  go_wp2_with fail
  refine G.out.mono ?_; rintro e w1 ⟨rfl, hb⟩
  go_wp2_with fail
  go_ret
  exact ⟨rfl, hb⟩
set_option maxHeartbeats 4000000 in
set_option maxRecDepth 100000 in
theorem namesSplitA (w : World) : Calls Tryz.prog 283 #[.string pathA] w fun e w' => ∃ b, e = .returned (.tuple #[.slice (some ⟨b, 0, none⟩) 1 1, i64 0]) ∧ w'.heap[b]? = some (.cells #[.string nameA] 9 (0, 0)) ∧ w.heap.size ≤ b ∧ Below w.heap.size w w' := by
  have G := fun W => Lib.hid (splitA W)
  have GM := fun b W (h : W.heap[b]? = some (.cells #[.string nameA] 9 (0, 0))) => Lib.hid (namesMayA b W h)
  have hb : (((pathA[0]'(by decide)).toNat : Nat) : Int) = 47 := rfl
  go_enter Tryz.func283, Tryz.ntmps283
  have hx : pathA.extract 1 2 = nameA := by kernel_rfl
  go_wp2_with fail
  refine (G _).out.mono ?_; rintro e w1 ⟨rfl, rfl⟩
  have hbk := blk_new w (.cells #[.string nameA] 9)
  have G2 := GM _ _ hbk
  go_wp2_with fail
  refine G2.out.mono ?_; rintro e w2 ⟨rfl, hb2⟩
  have HB := Lib.hid (blk_below hbk hb2)
  have hb3 := Base.tr (Base.al (Below.refl _ w) (.cells #[.string nameA] 9)) hb2
  clear hbk G2 hb2
  go_wp2_with fail
  go_ret2
  exact ⟨_, rfl, HB.out, Nat.le_refl _, hb3⟩
end Go.Proofs.YthiimpleljaimaaGreatDoor

/- Package walk: Find of "/a", where there is none. -/
namespace Go.Proofs.YthiimpleljaimaaGreatDoor
open Go Go.RowKit Flo
attribute [local go_sem] run_store_complex

/-- A spot's cells. -/
abbrev spotL (d : Nat) (name : ByteArray) (i k l s p : Nat) : List Value := [.int .u32 (d : Int), .string name, .int .u32 (i : Int), .int .u8 (k : Int), .int .u32 (l : Int), .int .u32 (s : Int), .int .u32 (p : Int)]
/-- A block that a view's writing leaves alone. -/
abbrev spotAt (w : World) (g : Nat) (l : List Value) : Prop := w.heap[g]? = some (.cells l.toArray 347 (0, 0))

set_option maxHeartbeats 16000000 in
set_option maxRecDepth 100000 in
theorem findA {w : World} {B : Nat} {V : VwV} (h : VwR w B V) (hn1 : getT (keyI 1) V.shown = none) (hn2 : getT (keyE 1 nameA) V.shown = none) (hs : V.reads.size ≤ 400000) :
    Calls Tryz.prog 257 #[V.ptr, .string pathA] w fun e w' => e = .returned (.tuple #[.agg (spotL 1 nameA 0 0 0 0 0).toArray, i64 0]) ∧ ∃ rv, VwR w' B { V with reads := setT (keyE 1 nameA) { data := #[] } (setT (keyI 1) { data := #[] } V.reads), readsV := rv } ∧ Out (· = V.b) w w' := by
  have GN := fun W => Lib.hid (namesSplitA W)
  have GL := fun W (hb : Below w.heap.size w W) => Lib.hid (loadRoot (h.below hb) hn1 (by omega))
  have hz := setT_size (keyI 1) { data := #[] } V.reads
  have GC : ∀ W rv, VwR W B { V with reads := setT (keyI 1) { data := #[] } V.reads, readsV := rv } → Hid (Calls Tryz.prog 53 #[V.ptr, .int .u32 1, .string nameA] W fun e w' => e = .returned (.tuple #[.int .u32 0, .bool false]) ∧ ∃ rv', VwR w' B { V with reads := setT (keyE 1 nameA) { data := #[] } (setT (keyI 1) { data := #[] } V.reads), readsV := rv' } ∧ Out (· = V.b) W w') := fun W rv hv => Lib.hid (childNone hv 1 nameA (by decide) (by decide) hn2 (by show (setT _ _ V.reads).size ≤ 500000; omega))
  have hlt := h.lt
  generalize setT (keyE 1 nameA) { data := #[] } (setT (keyI 1) { data := #[] } V.reads) = R2 at *
  generalize setT (keyI 1) { data := #[] } V.reads = R1 at *
  clear h hn1 hn2 hs hz
  go_enter Tryz.func257, Tryz.ntmps257
  go_wp2_with fail
  refine (GN _).out.mono ?_; rintro e w1 ⟨nb, rfl, hnb, hnbn, hb1⟩
  have hS1 : spotAt w1 w.heap.size (spotL 0 { data := #[] } 0 0 0 0 0) := blk_below (blk_new w _) hb1
  have hb2 := Base.tr (Base.al (Below.refl _ w) (.cells #[.int .u32 0, .string { data := #[] }, .int .u32 0, .int .u8 0, .int .u32 0, .int .u32 0, .int .u32 0] 347)) hb1
  have GL1 := GL w1 hb2
  have HS1 := Lib.hid hS1
  have HNB := Lib.hid hnb
  have hnl := (Array.getElem?_eq_some_iff.1 hnb).1
  have hnV : nb ≠ V.b := by simp at hnbn; omega
  have hSV : w.heap.size ≠ V.b := by omega
  clear hS1 hnb hb1 GL GN
  go_wp2_with fail
  refine GL1.out.mono ?_; rintro e w2 ⟨rfl, rv, hv2, ho2⟩
  have hN2 := ho2.blk HNB.out hnV
  have hS2 : spotAt w2 w.heap.size (spotL 0 { data := #[] } 0 0 0 0 0) := ho2.blk HS1.out hSV
  have HO2 := Lib.hid ((Out.of_below (O := (· = V.b)) hb2).trans ho2)
  have hz2 := HO2.out.size
  have HV2 := Lib.hid hv2
  have HN2 := Lib.hid hN2
  have HS2 := Lib.hid hS2
  clear hN2 hS2 hv2 ho2 GL1 HS1 HNB
  go_wp2_with fail
  obtain ⟨w3, hw3⟩ : ∃ W, W = (w2.alloc (.cells #[.int .u8 2, .int .u32 2, .int .u32 0, .int .u32 1] 42)).alloc (.cells #[.int .u32 0, .string { data := #[] }, .int .u32 1, .int .u8 2, .int .u32 2, .int .u32 0, .int .u32 1] 347) := ⟨_, rfl⟩
  rw [← hw3]
  have hb3 : Below w2.heap.size w2 w3 := by rw [hw3]; exact Base.al (Base.al (Below.refl _ _) _) _
  have hT3 : spotAt w3 (w2.heap.size + 1) (spotL 0 { data := #[] } 1 2 2 0 1) := by rw [hw3]; exact blk_new1 w2 _ _
  have HV3 := Lib.hid (HV2.out.below hb3)
  have HO3 := Lib.hid (HO2.out.then hb3)
  have HN3 := Lib.hid (blk_below HN2.out hb3)
  have HS3 : Hid (spotAt w3 w.heap.size (spotL 0 { data := #[] } 0 0 0 0 0)) := Lib.hid (blk_below HS2.out hb3)
  have HT3 := Lib.hid hT3
  clear hw3 hb3 hT3 HV2 HO2 HN2 HS2
  generalize hTT : w2.heap.size + 1 = T10 at *
  have hTS : w.heap.size < T10 := by omega
  have hTV : T10 ≠ V.b := by omega
  go_loopw [35] (fun iv wr => (iv = i64 0 ∧ wr = w3) ∨ (iv = i64 1 ∧ Hid (spotAt wr T10 (spotL 1 nameA 0 0 0 0 0) ∧ spotAt wr w.heap.size (spotL 0 { data := #[] } 0 0 0 0 0) ∧ (∃ rv, VwR wr B { V with reads := R2, readsV := rv }) ∧ Out (· = V.b) w wr))) (fun iv _ => 1 - (intOf iv).toNat)
  case atStart => exact .inl ⟨rfl, rfl⟩
  case round =>
    rcases hrel with ⟨rfl, rfl⟩ | ⟨rfl, hst⟩
    · have n0 : wr.cell? ⟨nb, 0, none⟩ = some (.string nameA) := cell_blk HN3.out 0
      have hnl3 := (Array.getElem?_eq_some_iff.1 HN3.out).1
      have z0 : wr.cell? ⟨T10, 0, none⟩ = some (.int .u32 0) := cell_blk HT3.out 0
      have z1 : wr.cell? ⟨T10, 1, none⟩ = some (.string { data := #[] }) := cell_blk HT3.out 1
      have z2 : wr.cell? ⟨T10, 2, none⟩ = some (.int .u32 1) := cell_blk HT3.out 2
      have z3 : wr.cell? ⟨T10, 3, none⟩ = some (.int .u8 2) := cell_blk HT3.out 3
      have z4 : wr.cell? ⟨T10, 4, none⟩ = some (.int .u32 2) := cell_blk HT3.out 4
      have z5 : wr.cell? ⟨T10, 5, none⟩ = some (.int .u32 0) := cell_blk HT3.out 5
      have z6 : wr.cell? ⟨T10, 6, none⟩ = some (.int .u32 1) := cell_blk HT3.out 6
      have fz := fun o => frozen_blk HT3.out o
      have hlT := (Array.getElem?_eq_some_iff.1 HT3.out).1
      go_wp2_with fail
      have hs : (((((((wr.setCell ⟨T10, 0, none⟩ (.int .u32 1)).setCell ⟨T10, 1, none⟩ (.string nameA)).setCell ⟨T10, 2, none⟩ (.int .u32 0)).setCell ⟨T10, 3, none⟩ (.int .u8 0)).setCell ⟨T10, 4, none⟩ (.int .u32 0)).setCell ⟨T10, 5, none⟩ (.int .u32 0)).setCell ⟨T10, 6, none⟩ (.int .u32 0)) = sets wr T10 0 (spotL 1 nameA 0 0 0 0 0) := rfl
      rw [hs]
      have hT4 : spotAt (sets wr T10 0 (spotL 1 nameA 0 0 0 0 0)) T10 (spotL 1 nameA 0 0 0 0 0) := sets_at HT3.out _ rfl
      have hV4 := HV3.out.sets HT3.out (by decide) (by decide) (by decide) (spotL 1 nameA 0 0 0 0 0) 0
      have hS4 : spotAt (sets wr T10 0 (spotL 1 nameA 0 0 0 0 0)) w.heap.size (spotL 0 { data := #[] } 0 0 0 0 0) := sets_old (by omega) _ _ _ HS3.out
      have hO4 : Out (· = V.b) w (sets wr T10 0 (spotL 1 nameA 0 0 0 0 0)) := outTr HO3.out (Out.of_sets (Q := (· = T10)) wr rfl _ 0) (fun k hk => .inr (by rw [hk]; omega))
      generalize sets wr T10 0 (spotL 1 nameA 0 0 0 0 0) = w4 at *
      have GC4 := GC w4 rv hV4
      have HT4 := Lib.hid hT4
      have HS4 := Lib.hid hS4
      have HO4 := Lib.hid hO4
      clear hs hT4 hV4 hS4 hO4 n0 z0 z1 z2 z3 z4 z5 z6 fz GC
      refine GC4.out.mono ?_; rintro e w5 ⟨rfl, rv5, hv5, ho5⟩
      have HF : Hid (spotAt w5 T10 (spotL 1 nameA 0 0 0 0 0) ∧ spotAt w5 w.heap.size (spotL 0 { data := #[] } 0 0 0 0 0) ∧ (∃ rv, VwR w5 B { V with reads := R2, readsV := rv }) ∧ Out (· = V.b) w w5) := Lib.hid ⟨ho5.blk HT4.out hTV, ho5.blk HS4.out hSV, ⟨rv5, hv5⟩, HO4.out.trans ho5⟩
      clear hv5 ho5 GC4 HT4 HS4 HO4
      go_wp2_with fail
      exact ⟨.inr ⟨rfl, HF⟩, by simp [intOf]⟩
    · obtain ⟨hT, hS, ⟨rv9, hV⟩, hO⟩ := hst.out
      have z0 : wr.cell? ⟨T10, 0, none⟩ = some (.int .u32 1) := cell_blk hT 0
      have z1 : wr.cell? ⟨T10, 1, none⟩ = some (.string nameA) := cell_blk hT 1
      have z2 : wr.cell? ⟨T10, 2, none⟩ = some (.int .u32 0) := cell_blk hT 2
      have z3 : wr.cell? ⟨T10, 3, none⟩ = some (.int .u8 0) := cell_blk hT 3
      have z4 : wr.cell? ⟨T10, 4, none⟩ = some (.int .u32 0) := cell_blk hT 4
      have z5 : wr.cell? ⟨T10, 5, none⟩ = some (.int .u32 0) := cell_blk hT 5
      have z6 : wr.cell? ⟨T10, 6, none⟩ = some (.int .u32 0) := cell_blk hT 6
      have y0 : wr.cell? ⟨w.heap.size, 0, none⟩ = some (.int .u32 0) := cell_blk hS 0
      have y1 : wr.cell? ⟨w.heap.size, 1, none⟩ = some (.string { data := #[] }) := cell_blk hS 1
      have y2 : wr.cell? ⟨w.heap.size, 2, none⟩ = some (.int .u32 0) := cell_blk hS 2
      have y3 : wr.cell? ⟨w.heap.size, 3, none⟩ = some (.int .u8 0) := cell_blk hS 3
      have y4 : wr.cell? ⟨w.heap.size, 4, none⟩ = some (.int .u32 0) := cell_blk hS 4
      have y5 : wr.cell? ⟨w.heap.size, 5, none⟩ = some (.int .u32 0) := cell_blk hS 5
      have y6 : wr.cell? ⟨w.heap.size, 6, none⟩ = some (.int .u32 0) := cell_blk hS 6
      have fzS := fun o => frozen_blk hS o
      have hlT := (Array.getElem?_eq_some_iff.1 hT).1
      have hlS := (Array.getElem?_eq_some_iff.1 hS).1
      have HS := Lib.hid hS
      have HV := Lib.hid hV
      have HO := Lib.hid hO
      clear hT hS hV hO hst GC HT3 HS3 HV3 HO3 HN3
      go_wp2_with fail
      have hs : (((((((wr.setCell ⟨w.heap.size, 0, none⟩ (.int .u32 1)).setCell ⟨w.heap.size, 1, none⟩ (.string nameA)).setCell ⟨w.heap.size, 2, none⟩ (.int .u32 0)).setCell ⟨w.heap.size, 3, none⟩ (.int .u8 0)).setCell ⟨w.heap.size, 4, none⟩ (.int .u32 0)).setCell ⟨w.heap.size, 5, none⟩ (.int .u32 0)).setCell ⟨w.heap.size, 6, none⟩ (.int .u32 0)) = sets wr w.heap.size 0 (spotL 1 nameA 0 0 0 0 0) := rfl
      rw [hs]
      have hT4 : spotAt (sets wr w.heap.size 0 (spotL 1 nameA 0 0 0 0 0)) w.heap.size (spotL 1 nameA 0 0 0 0 0) := sets_at HS.out _ rfl
      have hV4 := HV.out.sets HS.out (by decide) (by decide) (by decide) (spotL 1 nameA 0 0 0 0 0) 0
      have hO4 : Out (· = V.b) w (sets wr w.heap.size 0 (spotL 1 nameA 0 0 0 0 0)) := outTr HO.out (Out.of_sets (Q := (· = w.heap.size)) wr rfl _ 0) (fun k hk => .inr (by rw [hk]; exact Nat.le_refl _))
      generalize sets wr w.heap.size 0 (spotL 1 nameA 0 0 0 0 0) = w4 at *
      have c0 : w4.cell? ⟨w.heap.size, 0, none⟩ = some (.int .u32 1) := cell_blk hT4 0
      have c1 : w4.cell? ⟨w.heap.size, 1, none⟩ = some (.string nameA) := cell_blk hT4 1
      have c2 : w4.cell? ⟨w.heap.size, 2, none⟩ = some (.int .u32 0) := cell_blk hT4 2
      have c3 : w4.cell? ⟨w.heap.size, 3, none⟩ = some (.int .u8 0) := cell_blk hT4 3
      have c4 : w4.cell? ⟨w.heap.size, 4, none⟩ = some (.int .u32 0) := cell_blk hT4 4
      have c5 : w4.cell? ⟨w.heap.size, 5, none⟩ = some (.int .u32 0) := cell_blk hT4 5
      have c6 : w4.cell? ⟨w.heap.size, 6, none⟩ = some (.int .u32 0) := cell_blk hT4 6
      exact bodyPost_ret (v := .tuple #[.agg (spotL 1 nameA 0 0 0 0 0).toArray, i64 0]) (by simp [results, Tryz.results257, go_sem, c0, c1, c2, c3, c4, c5, c6]) rfl ⟨rfl, rv9, hV4, hO4⟩
end Go.Proofs.YthiimpleljaimaaGreatDoor

