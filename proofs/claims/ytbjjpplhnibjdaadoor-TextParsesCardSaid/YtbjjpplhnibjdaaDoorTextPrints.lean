/- flintlaw26.TextPrints: what it computes. -/
import Derived.Test.YtbjjpplhnibjdaaDoorPrPl
namespace Go.Proofs.YtbjjpplhnibjdaaDoor
open Go Go.RowKit

theorem print_any (o : OpT) (v : Value) (w : World) (ha : OpArg w o v) (hw : WordsIn w) (ht : ∀ W, Below w.heap.size w W → Pow10 W) :
    Makes 9 #[.agg (o.cells v)] w (.tuple #[.string (toB (printL o)), i64 (printE o)]) := by
  unfold printL printE
  by_cases h : o.kind = 0 ∨ 16 < o.kind
  · rw [if_pos h, if_pos h]; exact print_no o v w ha hw h
  · rw [if_neg h, if_neg h]; exact print_ok o v w ha hw ht (by omega) (by omega)
theorem rprint_any (o : OpT) (v : Value) (w : World) (ha : OpArg w o v) :
    Makes 10 #[.agg (o.cells v)] w (.tuple #[.string (toB (printL o)), i64 (printE o)]) := by
  unfold printL printE
  by_cases h : o.kind = 0 ∨ 16 < o.kind
  · rw [if_pos h, if_pos h]; exact rprint_no o v w ha h
  · rw [if_neg h, if_neg h]; exact rprint_ok o v w ha (by omega) (by omega)
theorem OpArg.below {w w' : World} {o : OpT} {v : Value} (h : OpArg w o v) (hb : Below w.heap.size w w') : OpArg w' o v :=
  { h with byt := Sl.below h.byt hb }

set_option maxHeartbeats 16000000 in
set_option maxRecDepth 100000 in
theorem textPrints_great (k : Nat) (s1 s2 : ByteArray) (h f n : Int) (A : Option Addr) (m c : Nat) (w : World) (hw : WordsIn w) (hg : greatB s1.size s2.size m = true) :
    Makes 4 #[.agg #[bv k, .string s1, .string s2, i64 h, i64 f, i64 n, .slice A m c]] w (.bool true) := by
  have GG := fun W => great_any k s1 s2 h f n A m c W
  rw [hg] at GG
  have HG := fun W => Lib.hid (GG W)
  have HF := fun W hW => Lib.hid (fixed26 W hW)
  clear GG hg
  go_enter Tryd.func4, Tryd.ntmps4
  go_wp2_with fail
  refine (HG _).out.mono ?_; rintro e1 w1 ⟨rfl, hb1⟩
  have hB1 := Base.tr (Base.al (Below.refl _ w) _) hb1
  go_wp2_with fail
  refine (HF _ (hw.below hB1)).out.mono ?_; rintro e2 w2 ⟨rfl, hb2⟩
  go_wp2_with fail
  go_ret
  exact ⟨rfl, Base.tr hB1 hb2⟩

theorem hexC_lt {d : Nat} (h : d < 16) : hexC d < 256 := by unfold hexC; split <;> omega
theorem quoteB_lt : ∀ l : List Nat, (∀ b ∈ l, b < 256) → ∀ b ∈ quoteB l, b < 256
  | [], _, b, hb => by cases hb
  | c :: l, h, b, hb => by
    rw [quoteB] at hb
    rcases List.mem_append.1 hb with hb | hb
    · have hc := h c (List.mem_cons_self ..)
      unfold quoteC at hb
      split at hb
      · rw [List.mem_singleton.1 hb]; exact hc
      · simp at hb
        rcases hb with rfl | rfl | rfl
        · decide
        · exact hexC_lt (by omega)
        · exact hexC_lt (by omega)
    · exact quoteB_lt l (fun x hx => h x (List.mem_cons_of_mem _ hx)) b hb
theorem quoteL_lt (l : List Nat) (h : ∀ b ∈ l, b < 256) : ∀ b ∈ quoteL l, b < 256 := by
  intro b hb
  unfold quoteL at hb
  rcases List.mem_cons.1 hb with rfl | hb
  · decide
  · rcases List.mem_append.1 hb with hb | hb
    · exact quoteB_lt l h b hb
    · rw [List.mem_singleton.1 hb]; decide
theorem decI_lt (n : Int) : ∀ b ∈ decI n, b < 256 := by
  intro b hb
  unfold decI at hb
  split at hb
  · rcases List.mem_cons.1 hb with rfl | hb
    · decide
    · have := decN_dig (n.natAbs + 1) n.natAbs (by omega) b hb; omega
  · have := decN_dig (n.toNat + 1) n.toNat (by omega) b hb; omega
theorem printB_lt (o : OpT) (h1 : ∀ b ∈ o.path, b < 256) (h2 : ∀ b ∈ o.other, b < 256) (h3 : ∀ b ∈ o.data, b < 256) : ∀ ps : List Nat, ∀ b ∈ printB ps o, b < 256
  | [], b, hb => by cases hb
  | p :: ps, b, hb => by
    rw [printB] at hb
    rcases List.mem_cons.1 hb with rfl | hb
    · decide
    rcases List.mem_append.1 hb with hb | hb
    · unfold partS at hb
      split at hb; · exact quoteL_lt _ h1 b hb
      split at hb; · exact quoteL_lt _ h2 b hb
      split at hb; · exact decI_lt _ b hb
      split at hb; · exact decI_lt _ b hb
      split at hb; · exact decI_lt _ b hb
      split at hb; · exact quoteL_lt _ h3 b hb
      cases hb
    · exact printB_lt o h1 h2 h3 ps b hb
theorem printL_lt (o : OpT) (h1 : ∀ b ∈ o.path, b < 256) (h2 : ∀ b ∈ o.other, b < 256) (h3 : ∀ b ∈ o.data, b < 256) : ∀ b ∈ printL o, b < 256 := by
  intro b hb
  unfold printL at hb
  split at hb
  · cases hb
  · rename_i hk
    rcases List.mem_append.1 hb with hb | hb
    · have := word_low o.kind (by omega) b hb; omega
    · exact printB_lt o h1 h2 h3 _ b hb
theorem back_of (o : OpT) (hk : o.kind ≤ 16) (h0 : o.kind ≠ 0) (h1 : ∀ b ∈ o.path, b < 256) (h2 : ∀ b ∈ o.other, b < 256) (h3 : ∀ b ∈ o.data, b < 256)
    (s1 : smallB (partT o).handle = true) (s2 : smallB (partT o).from_ = true) (s3 : smallB (partT o).n = true) : ∀ p ∈ partsL o.kind, Back p o := by
  intro p hp
  have hc := class_fin o.kind hk h0
  have him := parts_mem o.kind p hp
  unfold partT at s1 s2 s3
  refine ⟨him, h1, h2, h3, ?_, ?_, ?_⟩
  all_goals
    intro hpe
    subst hpe
    generalize partsL o.kind = ps at *
    generalize hasT o.kind = hs at *
    rcases hc with hc | hc | hc | hc | hc | hc | hc
    all_goals
      obtain ⟨rfl, rfl⟩ := Prod.mk.inj hc
      first | (exfalso; revert hp; decide) | exact s1 | exact s2 | exact s3
theorem part_byt {W : World} {o : OpT} {v : Value} (hs : ∃ A n c, v = .slice A n c) (h : Byt W v o.data) : (∃ A n c, partV o v = .slice A n c) ∧ Byt W (partV o v) (partT o).data := by
  unfold partV partT
  cases (hasT o.kind).2.2.2.2 with
  | true => exact ⟨hs, h⟩
  | false => exact ⟨⟨_, _, _, rfl⟩, own_Byt (l := []) (World.ownsRow_nil W 0 5 1)⟩

set_option maxHeartbeats 16000000 in
set_option maxRecDepth 100000 in
theorem textPrints_small (o : OpT) (A : Option Addr) (c : Nat) (w : World) (ha : OpArg w o (.slice A o.data.length c)) (hs : o.path.length ≤ 600 ∧ o.other.length ≤ 600 ∧ o.data.length ≤ 1500) (hw : WordsIn w) (ht : ∀ W, Below w.heap.size w W → Pow10 W) :
    Makes 4 #[.agg (o.cells (.slice A o.data.length c))] w (.bool true) := by
  have GG := fun W => great_any o.kind (toB o.path) (toB o.other) o.handle o.from_ o.n A o.data.length c W
  have hg : greatB (toB o.path).size (toB o.other).size o.data.length = false := by
    obtain ⟨_, _, _⟩ := hs
    unfold greatB
    rw [toB_size, toB_size]
    simp
    omega
  rw [hg] at GG
  have HG := fun W => Lib.hid (GG W)
  have HP := fun W (hb : Below w.heap.size w W) => Lib.hid (print_any o _ W (ha.below hb) (hw.below hb) (fun W' hb' => ht W' (Base.tr hb hb')))
  have HR := fun W (hb : Below w.heap.size w W) => Lib.hid (rprint_any o _ W (ha.below hb))
  have HPT := fun W => Lib.hid (part_any o (.slice A o.data.length c) W ⟨_, _, _, rfl⟩)
  have HA := Lib.hid ha
  obtain ⟨A9, n9, k9, h9⟩ := (part_byt (v := .slice A o.data.length c) ⟨_, _, _, rfl⟩ ha.byt).1
  simp only [h9] at HPT
  have H9 := Lib.hid h9
  have hk := ha.kind
  have kw : IntKind.i64.wrap (o.kind : Int) = (o.kind : Int) := by rw [IntKind.wrap_i64]; omega
  clear GG hg ha ht h9 hs
  unfold OpT.cells at HP HR ⊢
  obtain ⟨pl, hpl⟩ : ∃ pl, printL o = pl := ⟨_, rfl⟩
  have HPL := Lib.hid hpl
  rw [hpl] at HP HR
  clear hpl
  obtain ⟨E, hE⟩ : ∃ E, printE o = E := ⟨_, rfl⟩
  have HE := Lib.hid hE
  rw [hE] at HP HR
  clear hE
  go_enter Tryd.func4, Tryd.ntmps4
  go_wp2_with fail
  refine (HG _).out.mono ?_; rintro e1 w1 ⟨rfl, hb1⟩
  have hB1 := Base.tr (Base.al (Below.refl _ w) _) hb1
  have kg1 := blk_below (blk_new w _) hb1
  have c0 := cell_blk kg1 0
  have c1 := cell_blk kg1 1
  have c2 := cell_blk kg1 2
  have c3 := cell_blk kg1 3
  have c4 := cell_blk kg1 4
  have c5 := cell_blk kg1 5
  have c6 := cell_blk kg1 6
  have hz1 : w.heap.size < w1.heap.size := (Array.getElem?_eq_some_iff.1 kg1).1
  have KG1 := Lib.hid kg1
  clear kg1 hb1
  go_wp2_with fail
  refine (HP _ hB1).out.mono ?_; rintro e2 w2 ⟨rfl, hb2⟩
  have hB2 := Base.tr hB1 hb2
  have kg2 := blk_below KG1.out hb2
  clear c0 c1 c2 c3 c4 c5 c6
  have c0 := cell_blk kg2 0
  have c1 := cell_blk kg2 1
  have c2 := cell_blk kg2 2
  have c3 := cell_blk kg2 3
  have c4 := cell_blk kg2 4
  have c5 := cell_blk kg2 5
  have c6 := cell_blk kg2 6
  have hz2 : w.heap.size < w2.heap.size := (Array.getElem?_eq_some_iff.1 kg2).1
  have KG2 := Lib.hid kg2
  clear kg2 hb2
  go_wp2_with fail
  refine (HR _ hB2).out.mono ?_; rintro e3 w3 ⟨rfl, hb3⟩
  have hB3 := Base.tr hB2 hb3
  have kg3 := blk_below KG2.out hb3
  clear c0 c1 c2 c3 c4 c5 c6
  have c0 := cell_blk kg3 0
  have c1 := cell_blk kg3 1
  have c2 := cell_blk kg3 2
  have c3 := cell_blk kg3 3
  have c4 := cell_blk kg3 4
  have c5 := cell_blk kg3 5
  have c6 := cell_blk kg3 6
  have hz3 : w.heap.size < w3.heap.size := (Array.getElem?_eq_some_iff.1 kg3).1
  have KG3 := Lib.hid kg3
  have k0 := fun p : OnOf w3 => on_cell hz3 c0 p
  have GF := fun p : OnOf w3 => Lib.hid (fixed26 p.v (hw.below (Base.tr hB3 p.h)))
  have GW := fun p : OnOf w3 => Lib.hid (wordAt_any o.kind hk p.v (hw.below (Base.tr hB3 p.h)))
  have GV := fun p : OnOf w3 => Lib.hid (rword_any o.kind hk p.v)
  clear kg3 hb3
  go_wp2_with fail
  refine wp_region_quiet_on (by kernel_rfl) (by kernel_rfl) ?_
  repeat ((with_reducible refine wpQuiet_step (fun K hK => ?_)); go_simp; first | ((with_reducible refine hK _ ?_); clear hK K) | (rw [if_neg (by intro h; cases h)]; (with_reducible refine hK _ ?_); clear hK K) | (apply Exists.intro; refine ⟨fun _ => ?_, hK _ ?_⟩; (first | (with_reducible exact on_of (GF _).out) | (with_reducible exact on_of_same (GW _).out) | (with_reducible exact on_of (GV _).out)); clear hK K))
  with_reducible refine wpQuiet_nil ?_
  intro _ hw'
  obtain ⟨pq, hw''⟩ := hw'
  subst hw''
  have hB4 := Base.tr hB3 pq.h
  have kg4 := blk_below KG3.out pq.h
  generalize pq.v = w4 at *
  clear k0 GF GW GV c0 c1 c2 c3 c4 c5 c6 HP HR HG
  have c0 := cell_blk kg4 0
  have c1 := cell_blk kg4 1
  have c2 := cell_blk kg4 2
  have c3 := cell_blk kg4 3
  have c4 := cell_blk kg4 4
  have c5 := cell_blk kg4 5
  have c6 := cell_blk kg4 6
  have hz4 : w.heap.size < w4.heap.size := (Array.getElem?_eq_some_iff.1 kg4).1
  unfold OpT.cells at HPT
  have HB4 := Lib.hid hB4
  clear kg4 hB4
  have hbad : E = 28 ∨ (E = 0 ∧ o.kind ≠ 0 ∧ o.kind ≤ 16) := by
    rw [← HE.out]; unfold printE
    split
    · exact .inl rfl
    · exact .inr ⟨rfl, by omega, by omega⟩
  have HS := fun n W => Lib.hid (small_any n W)
  rcases hbad with rfl | ⟨rfl, hk0, hk16⟩
  · go_wp2_with fail
    refine (HPT _).out.mono ?_; rintro e5 w5 ⟨rfl, hb5⟩
    go_wp2_with fail
    all_goals (go_ret; exact ⟨rfl, Base.al (Base.tr HB4.out hb5) _⟩)
  · have hsz : (toB pl).size = pl.length := toB_size pl
    by_cases hl : 8192 < pl.length
    · have t1 : decide ((8192 : Int) < ((toB pl).size : Int)) = true := decide_eq_true (by omega)
      clear hsz
      go_wp2_with fail
      refine (HPT _).out.mono ?_; rintro e5 w5 ⟨rfl, hb5⟩
      go_wp2_with fail
      all_goals (go_ret; exact ⟨rfl, Base.al (Base.tr HB4.out hb5) _⟩)
    · have t1 : decide ((8192 : Int) < ((toB pl).size : Int)) = false := decide_eq_false (by omega)
      have HLE := Lib.hid hl
      have HK := Lib.hid (And.intro hk0 hk16)
      clear hsz hl hk0 hk16
      go_wp2_with fail
      refine (HPT _).out.mono ?_; rintro e5 w5 ⟨rfl, hb5⟩
      have hb6 := Base.al (Base.tr HB4.out hb5) (.cells ((partT o).cells (.slice A9 n9 k9)) 25)
      go_wp2_with fail
      refine (HS _ _).out.mono ?_; rintro e6 w6 ⟨rfl, rfl⟩
      cases s1 : smallB (partT o).handle with
      | false =>
        go_wp2_with fail
        all_goals (go_ret; exact ⟨rfl, hb6⟩)
      | true =>
        go_wp2_with fail
        refine (HS _ _).out.mono ?_; rintro e6 w6 ⟨rfl, rfl⟩
        cases s2 : smallB (partT o).from_ with
        | false =>
          go_wp2_with fail
          all_goals (go_ret; exact ⟨rfl, hb6⟩)
        | true =>
          go_wp2_with fail
          refine (HS _ _).out.mono ?_; rintro e6 w6 ⟨rfl, rfl⟩
          cases s3 : smallB (partT o).n with
          | false =>
            go_wp2_with fail
            all_goals (go_ret; exact ⟨rfl, hb6⟩)
          | true =>
            have hpp : tParse (sb (toB pl)) = .ok (partT o) := by
              rw [← HPL.out, sb_toB _ (printL_lt o HA.out.pathB HA.out.otherB HA.out.dataB)]
              exact parse_print o HK.out.2 HK.out.1 (back_of o HK.out.2 HK.out.1 HA.out.pathB HA.out.otherB HA.out.dataB s1 s2 s3) (by rw [HPL.out]; have := HLE.out; omega)
            have GP := fun W hW => parse_any (toB pl) W hW (by rw [toB_size]; have := HLE.out; omega)
            rw [hpp] at GP
            have HGP := fun W hW => Lib.hid (GP W hW)
            have hw6 := hw.below hb6
            have HB6 := Lib.hid hb6
            clear hpp GP hb6
            go_wp2_with fail
            refine (HGP _ hw6).out.mono ?_; rintro e7 w7 ⟨v7, rfl, own7, hb7⟩
            obtain ⟨A7, c7, rfl⟩ := own_val3 own7
            have kg7 := blk_below (blk_new w5 _) hb7
            have c0 := cell_blk kg7 0
            have c1 := cell_blk kg7 1
            have c2 := cell_blk kg7 2
            have c3 := cell_blk kg7 3
            have c4 := cell_blk kg7 4
            have c5 := cell_blk kg7 5
            have c6 := cell_blk kg7 6
            unfold OpT.cells at c0 c1 c2 c3 c4 c5 c6
            have hz7 : w5.heap.size < w7.heap.size := (Array.getElem?_eq_some_iff.1 kg7).1
            have hb8 := Base.al (Base.tr HB6.out hb7) (.cells ((partT o).cells (.slice A7 (partT o).data.length c7)) 25)
            have y7 : Byt (w7.alloc (.cells ((partT o).cells (.slice A7 (partT o).data.length c7)) 25)) (.slice A7 (partT o).data.length c7) (partT o).data := Sl.below (own_Byt own7) (Base.al (Below.refl _ w7) _)
            have y9 : Byt (w7.alloc (.cells ((partT o).cells (.slice A7 (partT o).data.length c7)) 25)) (.slice A9 n9 k9) (partT o).data := by
              have := (part_byt (v := .slice A o.data.length c) ⟨_, _, _, rfl⟩ HA.out.byt).2
              rw [H9.out] at this
              exact Sl.below this hb8
            have GS := Lib.hid (same_refl (partT o) (.slice A7 (partT o).data.length c7) (.slice A9 n9 k9) _ ⟨_, _, _, rfl⟩ y7 ⟨_, _, _, rfl⟩ y9)
            have HB8 := Lib.hid hb8
            unfold OpT.cells at GS
            clear kg7 hb7 hb8 y7 y9 own7 HGP hw6
            unfold OpT.cells
            go_wp2_with fail
            refine GS.out.mono ?_; rintro e8 w8 ⟨rfl, hb9⟩
            go_wp2_with fail
            go_ret
            exact ⟨rfl, Base.tr HB8.out hb9⟩
end Go.Proofs.YtbjjpplhnibjdaaDoor
