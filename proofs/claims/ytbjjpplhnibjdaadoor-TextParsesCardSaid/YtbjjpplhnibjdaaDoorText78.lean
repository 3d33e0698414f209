/- Package text: the reader's op. -/
import Derived.Test.YtbjjpplhnibjdaaDoorText56
import Derived.Defers
import Derived.Recover
namespace Go.Proofs.YtbjjpplhnibjdaaDoor
open Go Go.RowKit

theorem tPart_need {l : List Nat} {p a e : Nat} {o : OpT} (hn : tNeed l a 32 = .error e) : tPart l p o a = .error e := by unfold tPart; rw [hn]
theorem tPart_112 {l : List Nat} {a b c : Nat} {o : OpT} {x : List Nat} (hn : tNeed l a 32 = .ok b) (hq : tQuoted l b = .ok (x, c)) : tPart l 112 o a = .ok ({ o with path := x }, c) := by unfold tPart; rw [hn]; simp [hq]
theorem tPartE_112 {l : List Nat} {a b e : Nat} {o : OpT} (hn : tNeed l a 32 = .ok b) (hq : tQuoted l b = .error e) : tPart l 112 o a = .error e := by unfold tPart; rw [hn]; simp [hq]
theorem tPart_111 {l : List Nat} {a b c : Nat} {o : OpT} {x : List Nat} (hn : tNeed l a 32 = .ok b) (hq : tQuoted l b = .ok (x, c)) : tPart l 111 o a = .ok ({ o with other := x }, c) := by unfold tPart; rw [hn]; simp [hq]
theorem tPartE_111 {l : List Nat} {a b e : Nat} {o : OpT} (hn : tNeed l a 32 = .ok b) (hq : tQuoted l b = .error e) : tPart l 111 o a = .error e := by unfold tPart; rw [hn]; simp [hq]
theorem tPart_104 {l : List Nat} {a b c : Nat} {o : OpT} {x : Int} (hn : tNeed l a 32 = .ok b) (hq : tNumber l b = .ok (x, c)) : tPart l 104 o a = .ok ({ o with handle := x }, c) := by unfold tPart; rw [hn]; simp [hq]
theorem tPartE_104 {l : List Nat} {a b e : Nat} {o : OpT} (hn : tNeed l a 32 = .ok b) (hq : tNumber l b = .error e) : tPart l 104 o a = .error e := by unfold tPart; rw [hn]; simp [hq]
theorem tPart_102 {l : List Nat} {a b c : Nat} {o : OpT} {x : Int} (hn : tNeed l a 32 = .ok b) (hq : tNumber l b = .ok (x, c)) : tPart l 102 o a = .ok ({ o with from_ := x }, c) := by unfold tPart; rw [hn]; simp [hq]
theorem tPartE_102 {l : List Nat} {a b e : Nat} {o : OpT} (hn : tNeed l a 32 = .ok b) (hq : tNumber l b = .error e) : tPart l 102 o a = .error e := by unfold tPart; rw [hn]; simp [hq]
theorem tPart_110 {l : List Nat} {a b c : Nat} {o : OpT} {x : Int} (hn : tNeed l a 32 = .ok b) (hq : tNumber l b = .ok (x, c)) : tPart l 110 o a = .ok ({ o with n := x }, c) := by unfold tPart; rw [hn]; simp [hq]
theorem tPartE_110 {l : List Nat} {a b e : Nat} {o : OpT} (hn : tNeed l a 32 = .ok b) (hq : tNumber l b = .error e) : tPart l 110 o a = .error e := by unfold tPart; rw [hn]; simp [hq]
theorem tPart_100 {l : List Nat} {a b c : Nat} {o : OpT} {x : List Nat} (hn : tNeed l a 32 = .ok b) (hq : tQuoted l b = .ok (x, c)) : tPart l 100 o a = .ok ({ o with data := x }, c) := by unfold tPart; rw [hn]; simp [hq]
theorem tPartE_100 {l : List Nat} {a b e : Nat} {o : OpT} (hn : tNeed l a 32 = .ok b) (hq : tQuoted l b = .error e) : tPart l 100 o a = .error e := by unfold tPart; rw [hn]; simp [hq]
theorem parts_mem (k : Nat) : ∀ p ∈ partsL k, p = 112 ∨ p = 111 ∨ p = 104 ∨ p = 102 ∨ p = 110 ∨ p = 100 := by
  intro p hp
  unfold partsL at hp
  repeat' split at hp
  all_goals simp at hp
  all_goals omega
def iterPos : Option Obj → Nat | some (.stringIter _ p) => p | _ => 0
/-- An operation that was read, or what is thrown. -/
def OpPost (w : World) (r : Nat) (x : Except Nat OpT) (e : Ending) (w' : World) : Prop :=
  match x with
  | .ok o => ∃ v, e = .returned (.agg (o.cells v)) ∧ w'.ownsRow w.heap.size 5 1 v o.data.length (o.data.map bv) ∧ w.grownBy w' (some r)
  | .error k => e = .panicked (thrown k) ∧ w.grownBy w' (some r)
theorem own_val3 {w : World} {base : Nat} {e : TypeId} {size : Nat} {v : Value} {n : Nat} {xs : List Value} (h : w.ownsRow base e size v n xs) : ∃ A c, v = .slice A n c := by
  rcases h.2 with ⟨h1, h2⟩ | ⟨g', c', _, h1, _⟩
  · exact ⟨_, _, by rw [h1, h2]⟩
  · exact ⟨_, _, h1⟩

set_option maxHeartbeats 16000000 in
set_option maxRecDepth 100000 in
theorem op_any (r : Nat) (s : ByteArray) (w : World) (h : RdT w r s 0) (hw : WordsIn w) (hr0 : r ≠ 0) (hm : s.size ≤ 50000) :
    Calls Tryd.prog 18 #[.pointer (some ⟨r, 0, none⟩)] w (OpPost w r (tOp (sb s))) := by
  have hm1 : s.size ≤ 100000 := by omega
  have hr := (Array.getElem?_eq_some_iff.1 h).1
  have GR := fun W h' => Lib.hid (run_any r s 0 97 122 W h' (Nat.zero_le _) hm1)
  rw [List.drop_zero, Nat.zero_add] at GR
  have hE := runN_le 97 122 (sb s)
  rw [sb_len] at hE
  have hwl : ∀ b ∈ runL 97 122 (sb s) 0, b < 256 := fun b hb => by have := (runL_mem 97 122 (sb s) 0 b hb).2; omega
  have GI := fun W hW => Lib.hid (index_words (runL 97 122 (sb s) 0) hwl 16 W hW)
  unfold tOp
  unfold wordI at GI
  generalize runN 97 122 (sb s) = E at *
  generalize runL 97 122 (sb s) 0 = wd at *
  cases hwi : wordIdx wd with
  | none =>
    rw [hwi] at GI
    simp only at GI ⊢
    clear hwi hwl
    go_enter Tryd.func18, Tryd.ntmps18
    go_wp2_with fail
    refine (GR _ (blk_old h)).out.mono ?_; rintro e1 w1 ⟨rfl, hR1, hg1⟩
    have hg1' := grown_trans (grown_al (grown_same w (some r)) _) hg1
    have hw1 := hw.grown hg1' hr0
    go_wp2_with fail
    refine (GI _ hw1).out.mono ?_; rintro e2 w2 ⟨rfl, rfl⟩
    go_wp2_with fail
    exact ⟨rfl, rfl, hg1'⟩
  | some i =>
    have hi16 : i < 16 := by
      unfold wordIdx at hwi
      have := (List.findIdx?_eq_some_iff_getElem.1 hwi).1
      exact this
    rw [hwi] at GI
    simp only at GI ⊢
    clear hwi hwl
    have hpm := Lib.hid (parts_mem (i + 1))
    have GP := fun W => Lib.hid (parts_any (i + 1) W (by omega))
    obtain ⟨R, hR⟩ : ∃ R, tParts (sb s) (partsL (i + 1)) (zeroT (i + 1)) E = R := ⟨_, rfl⟩
    rw [hR]
    obtain ⟨ps, hps⟩ : ∃ ps, partsL (i + 1) = ps := ⟨_, rfl⟩
    rw [hps] at GP hpm hR
    obtain ⟨X, hX⟩ : ∃ X, opEnd (sb s) R = X := ⟨_, rfl⟩
    rw [hX]
    have HX := Lib.hid hX
    have HR0 : Hid (tParts (sb s) (ps.drop 0) (zeroT (i + 1)) E = R) := Lib.hid hR
    clear hps hR hX
    have GN := fun W a h' ha => Lib.hid (need_any r s a 32 W h' ha hm1)
    have GQ := fun W a h' ha => Lib.hid (quoted_any r s a W h' ha (by omega))
    have GU := fun W a h' ha => Lib.hid (number_any r s a W h' ha (by omega))
    have kwi : IntKind.i64.wrap ((i : Int) + 1) = (i : Int) + 1 := by rw [IntKind.wrap_i64]; omega
    have kwu : IntKind.u8.wrap ((i : Int) + 1) = (i : Int) + 1 := by rw [IntKind.wrap_u8]; omega
    have hi1 : ¬ ((i : Int) + 1 < 1) := by omega
    go_enter Tryd.func18, Tryd.ntmps18
    go_wp2_with fail
    refine (GR _ (blk_old h)).out.mono ?_; rintro e1 w1 ⟨rfl, hR1, hg1⟩
    have kr := (hg1.block w.heap.size (by simp) (fun e => by injection e with e; omega)).trans (blk_new w _)
    have hg1' := grown_trans (grown_al (grown_same w (some r)) _) hg1
    have hw1 := hw.grown hg1' hr0
    have hs1 : w.heap.size < w1.heap.size := (Array.getElem?_eq_some_iff.1 kr).1
    clear hg1
    go_wp2_with fail
    refine (GI _ hw1).out.mono ?_; rintro e2 w2 ⟨rfl, rfl⟩
    go_wp2_with fail
    refine (GP _).out.mono ?_; rintro e3 w3 ⟨rfl, rfl⟩
    go_wp2_with fail
    have st0 := Lib.hid (show OpSt w r w.heap.size w2.heap.size (w2.heap.size + 1) s (toB ps) ((w2.alloc (.cells (OpT.cells (zeroT (i + 1)) (.slice none 0 0)) 25)).iter (toB ps) 0) E 0 (zeroT (i + 1)) (.slice none 0 0) from
      { rd := blk_old (blk_old hR1), res := blk_old (blk_old kr), op := blk_old (blk_new w2 _), iter := blk_new1 w2 _ _, own := World.ownsRow_nil _ _ _ _, grown := grown_al (grown_al hg1' _) _, l0 := hr, l1 := Nat.le_refl _, l2 := hs1, l3 := Nat.lt_succ_self _ })
    have hpo := hs1
    clear hR1 kr hg1' hw1 hs1 GR GI GP
    change Code.wp _ _ _ _ ((w2.alloc (.cells (OpT.cells (zeroT (i + 1)) (.slice none 0 0)) 25)).iter (toB ps) 0)
    generalize ((w2.alloc (.cells (OpT.cells (zeroT (i + 1)) (.slice none 0 0)) 25)).iter (toB ps) 0) = x2 at *
    generalize w2.heap.size = po at *
    go_loopw [7] (fun _ wr => ∃ (a j : Nat) (o : OpT) (v : Value), Hid (OpSt w r w.heap.size po (po + 1) s (toB ps) wr a j o v) ∧ a ≤ s.size ∧ j ≤ ps.length ∧ Hid (tParts (sb s) (ps.drop j) o a = R)) (fun _ wr => ps.length - iterPos (wr.heap[po + 1]?))
    case atStart => exact ⟨E, 0, _, _, st0, hE, Nat.zero_le _, HR0⟩
    case round =>
      obtain ⟨a, j, o, v, hst, ha, hj, hgo⟩ := hrel
      clear st0 HR0
      have hpsz := toB_size ps
      have hit : iterPos (wr.heap[po + 1]?) = j := by rw [hst.out.iter]; rfl
      have HIT := Lib.hid hit
      clear hit
      by_cases hlt : j < ps.length
      · have hdr : ps.drop j = ps[j] :: ps.drop (j + 1) := List.drop_eq_getElem_cons hlt
        have hmem : ps[j] ∈ ps := List.getElem_mem hlt
        have hgd : ps.getD j 0 = ps[j] := by simp [List.getD, hlt]
        obtain ⟨p, hp⟩ : ∃ p, ps[j] = p := ⟨_, rfl⟩
        rw [hp] at hdr hmem hgd
        have hpm1 := hpm.out p hmem
        have hp256 : ∀ x ∈ ps, x < 256 := fun x hx => by have := hpm.out x hx; omega
        have hjs : j < (toB ps).size := by rw [hpsz]; exact hlt
        have hb := (toB_get hp256 hjs).trans hgd
        have hnx : ∀ ty, (Instr.next (.pointer (some ⟨po + 1, 0, none⟩)) true ty).run Tryd.prog wr = .ok (.tuple #[.bool true, .int .i64 j, .int .i32 p]) (iterSet wr (po + 1) (.stringIter (toB ps) (j + 1))) := fun ty => by
          have := run_next_at (P := Tryd.prog) wr (po + 1) (toB ps) j ty hst.out.iter hjs (by show ((toB ps)[j]).toNat < 128; rw [hb]; omega)
          rw [show ((toB ps)[j]'hjs).toNat = p from hb] at this
          exact this
        have hst1 := hst.out.next
        generalize iterSet wr (po + 1) (.stringIter (toB ps) (j + 1)) = wn at *
        have hgo1 := hgo.out
        rw [hdr, tParts] at hgo1
        have hj1 : j + 1 ≤ ps.length := hlt
        have G0 := GN wn a hst1.rd ha
        have HS := Lib.hid hst1
        have HJ := Lib.hid hj1
        clear hp hdr hmem hgd hp256 hjs hb hgo hst1 hlt hj hj1 hst hpsz
        cases hn : tNeed (sb s) a 32 with
        | error e =>
          rw [hn] at G0
          rw [tPart_need hn] at hgo1
          have hgo2 : Except.error e = R := hgo1
          subst hgo2
          clear hn hgo1 hpm1
          go_wp2_with fail
          refine G0.out.mono ?_; rintro e5 w5 ⟨rfl, hg5⟩
          go_wp2_with fail
          rw [← HX.out]
          exact ⟨rfl, rfl, grown_trans HS.out.grown hg5⟩
        | ok b =>
          rw [hn] at G0
          obtain ⟨hb1, hb2⟩ := tNeed_ok hn
          rw [sb_len] at hb2
          have hbs : b ≤ s.size := by omega
          clear hb1 hb2
          rcases hpm1 with rfl | rfl | rfl | rfl | rfl | rfl
          · cases hq : tQuoted (sb s) b with
            | error e =>
              rw [tPartE_112 hn hq] at hgo1
              have hgo2 : Except.error e = R := hgo1
              subst hgo2
              have G1 := fun W h' => GQ W b h' hbs
              rw [hq] at G1
              clear hn hgo1 hq
              go_wp2_with fail
              refine G0.out.mono ?_; rintro e5 w5 ⟨rfl, hR5, hg5⟩
              go_wp2_with fail
              refine (G1 _ hR5).out.mono ?_; rintro e6 w6 ⟨rfl, hg6⟩
              go_wp2_with fail
              rw [← HX.out]
              exact ⟨rfl, rfl, grown_trans HS.out.grown (grown_trans hg5 hg6)⟩
            | ok q =>
              obtain ⟨x, c⟩ := q
              rw [tPart_112 hn hq] at hgo1
              have hc : c ≤ s.size := by have := (tQuoted_le hq).1; rwa [sb_len] at this
              have G1 := fun W h' => GQ W b h' hbs
              rw [hq] at G1
              have HGO := Lib.hid (show tParts (sb s) (ps.drop (j + 1)) { o with path := x } c = R from hgo1)
              clear hn hgo1 hq
              go_wp2_with fail
              refine G0.out.mono ?_; rintro e5 w5 ⟨rfl, hR5, hg5⟩
              have HS5 := HS.out.call hg5 hR5
              go_wp2_with fail
              refine (G1 _ hR5).out.mono ?_; rintro e6 w6 ⟨v6, rfl, hown6, hR6, hg6⟩
              have HS6 := HS5.call hg6 hR6
              obtain ⟨A6, c6, rfl⟩ := own_val3 hown6
              have hcv := conv_any (own_Byt (l := x) hown6)
              have p1 : w6.cell? ⟨po, 1, none⟩ = some (.string (toB o.path)) := cell_blk HS6.op 1
              have fp := fun k => frozen_blk HS6.op k
              have HS7 := Lib.hid (HS6.set 1 (.string (toB x)) { o with path := x } v rfl (HS6.own_set 1 _))
              clear HS5 HS6 hg5 hg6 hR5 hR6 hnx
              go_wp2_with fail
              refine ⟨⟨c, j + 1, _, _, HS7, hc, HJ.out, HGO⟩, ?_⟩
              rw [HIT.out, HS7.out.iter]
              show ps.length - (j + 1) < ps.length - j
              have := HJ.out
              omega
          · cases hq : tQuoted (sb s) b with
            | error e =>
              rw [tPartE_111 hn hq] at hgo1
              have hgo2 : Except.error e = R := hgo1
              subst hgo2
              have G1 := fun W h' => GQ W b h' hbs
              rw [hq] at G1
              clear hn hgo1 hq
              go_wp2_with fail
              refine G0.out.mono ?_; rintro e5 w5 ⟨rfl, hR5, hg5⟩
              go_wp2_with fail
              refine (G1 _ hR5).out.mono ?_; rintro e6 w6 ⟨rfl, hg6⟩
              go_wp2_with fail
              rw [← HX.out]
              exact ⟨rfl, rfl, grown_trans HS.out.grown (grown_trans hg5 hg6)⟩
            | ok q =>
              obtain ⟨x, c⟩ := q
              rw [tPart_111 hn hq] at hgo1
              have hc : c ≤ s.size := by have := (tQuoted_le hq).1; rwa [sb_len] at this
              have G1 := fun W h' => GQ W b h' hbs
              rw [hq] at G1
              have HGO := Lib.hid (show tParts (sb s) (ps.drop (j + 1)) { o with other := x } c = R from hgo1)
              clear hn hgo1 hq
              go_wp2_with fail
              refine G0.out.mono ?_; rintro e5 w5 ⟨rfl, hR5, hg5⟩
              have HS5 := HS.out.call hg5 hR5
              go_wp2_with fail
              refine (G1 _ hR5).out.mono ?_; rintro e6 w6 ⟨v6, rfl, hown6, hR6, hg6⟩
              have HS6 := HS5.call hg6 hR6
              obtain ⟨A6, c6, rfl⟩ := own_val3 hown6
              have hcv := conv_any (own_Byt (l := x) hown6)
              have p2 : w6.cell? ⟨po, 2, none⟩ = some (.string (toB o.other)) := cell_blk HS6.op 2
              have fp := fun k => frozen_blk HS6.op k
              have HS7 := Lib.hid (HS6.set 2 (.string (toB x)) { o with other := x } v rfl (HS6.own_set 2 _))
              clear HS5 HS6 hg5 hg6 hR5 hR6 hnx
              go_wp2_with fail
              refine ⟨⟨c, j + 1, _, _, HS7, hc, HJ.out, HGO⟩, ?_⟩
              rw [HIT.out, HS7.out.iter]
              show ps.length - (j + 1) < ps.length - j
              have := HJ.out
              omega
          · cases hq : tNumber (sb s) b with
            | error e =>
              rw [tPartE_104 hn hq] at hgo1
              have hgo2 : Except.error e = R := hgo1
              subst hgo2
              have G1 := fun W h' => GU W b h' hbs
              rw [hq] at G1
              clear hn hgo1 hq
              go_wp2_with fail
              refine G0.out.mono ?_; rintro e5 w5 ⟨rfl, hR5, hg5⟩
              go_wp2_with fail
              refine (G1 _ hR5).out.mono ?_; rintro e6 w6 ⟨rfl, hg6⟩
              go_wp2_with fail
              rw [← HX.out]
              exact ⟨rfl, rfl, grown_trans HS.out.grown (grown_trans hg5 hg6)⟩
            | ok q =>
              obtain ⟨x, c⟩ := q
              rw [tPart_104 hn hq] at hgo1
              have hc : c ≤ s.size := by have := tNumber_le hq (by rw [sb_len]; exact hbs); rwa [sb_len] at this
              have G1 := fun W h' => GU W b h' hbs
              rw [hq] at G1
              have HGO := Lib.hid (show tParts (sb s) (ps.drop (j + 1)) { o with handle := x } c = R from hgo1)
              clear hn hgo1 hq
              go_wp2_with fail
              refine G0.out.mono ?_; rintro e5 w5 ⟨rfl, hR5, hg5⟩
              have HS5 := HS.out.call hg5 hR5
              go_wp2_with fail
              refine (G1 _ hR5).out.mono ?_; rintro e6 w6 ⟨rfl, hR6, hg6⟩
              have HS6 := HS5.call hg6 hR6
              have p3 : w6.cell? ⟨po, 3, none⟩ = some (i64 o.handle) := cell_blk HS6.op 3
              have fp := fun k => frozen_blk HS6.op k
              have HS7 := Lib.hid (HS6.set 3 (i64 x) { o with handle := x } v rfl (HS6.own_set 3 _))
              clear HS5 HS6 hg5 hg6 hR5 hR6 hnx
              go_wp2_with fail
              refine ⟨⟨c, j + 1, _, _, HS7, hc, HJ.out, HGO⟩, ?_⟩
              rw [HIT.out, HS7.out.iter]
              show ps.length - (j + 1) < ps.length - j
              have := HJ.out
              omega
          · cases hq : tNumber (sb s) b with
            | error e =>
              rw [tPartE_102 hn hq] at hgo1
              have hgo2 : Except.error e = R := hgo1
              subst hgo2
              have G1 := fun W h' => GU W b h' hbs
              rw [hq] at G1
              clear hn hgo1 hq
              go_wp2_with fail
              refine G0.out.mono ?_; rintro e5 w5 ⟨rfl, hR5, hg5⟩
              go_wp2_with fail
              refine (G1 _ hR5).out.mono ?_; rintro e6 w6 ⟨rfl, hg6⟩
              go_wp2_with fail
              rw [← HX.out]
              exact ⟨rfl, rfl, grown_trans HS.out.grown (grown_trans hg5 hg6)⟩
            | ok q =>
              obtain ⟨x, c⟩ := q
              rw [tPart_102 hn hq] at hgo1
              have hc : c ≤ s.size := by have := tNumber_le hq (by rw [sb_len]; exact hbs); rwa [sb_len] at this
              have G1 := fun W h' => GU W b h' hbs
              rw [hq] at G1
              have HGO := Lib.hid (show tParts (sb s) (ps.drop (j + 1)) { o with from_ := x } c = R from hgo1)
              clear hn hgo1 hq
              go_wp2_with fail
              refine G0.out.mono ?_; rintro e5 w5 ⟨rfl, hR5, hg5⟩
              have HS5 := HS.out.call hg5 hR5
              go_wp2_with fail
              refine (G1 _ hR5).out.mono ?_; rintro e6 w6 ⟨rfl, hR6, hg6⟩
              have HS6 := HS5.call hg6 hR6
              have p4 : w6.cell? ⟨po, 4, none⟩ = some (i64 o.from_) := cell_blk HS6.op 4
              have fp := fun k => frozen_blk HS6.op k
              have HS7 := Lib.hid (HS6.set 4 (i64 x) { o with from_ := x } v rfl (HS6.own_set 4 _))
              clear HS5 HS6 hg5 hg6 hR5 hR6 hnx
              go_wp2_with fail
              refine ⟨⟨c, j + 1, _, _, HS7, hc, HJ.out, HGO⟩, ?_⟩
              rw [HIT.out, HS7.out.iter]
              show ps.length - (j + 1) < ps.length - j
              have := HJ.out
              omega
          · cases hq : tNumber (sb s) b with
            | error e =>
              rw [tPartE_110 hn hq] at hgo1
              have hgo2 : Except.error e = R := hgo1
              subst hgo2
              have G1 := fun W h' => GU W b h' hbs
              rw [hq] at G1
              clear hn hgo1 hq
              go_wp2_with fail
              refine G0.out.mono ?_; rintro e5 w5 ⟨rfl, hR5, hg5⟩
              go_wp2_with fail
              refine (G1 _ hR5).out.mono ?_; rintro e6 w6 ⟨rfl, hg6⟩
              go_wp2_with fail
              rw [← HX.out]
              exact ⟨rfl, rfl, grown_trans HS.out.grown (grown_trans hg5 hg6)⟩
            | ok q =>
              obtain ⟨x, c⟩ := q
              rw [tPart_110 hn hq] at hgo1
              have hc : c ≤ s.size := by have := tNumber_le hq (by rw [sb_len]; exact hbs); rwa [sb_len] at this
              have G1 := fun W h' => GU W b h' hbs
              rw [hq] at G1
              have HGO := Lib.hid (show tParts (sb s) (ps.drop (j + 1)) { o with n := x } c = R from hgo1)
              clear hn hgo1 hq
              go_wp2_with fail
              refine G0.out.mono ?_; rintro e5 w5 ⟨rfl, hR5, hg5⟩
              have HS5 := HS.out.call hg5 hR5
              go_wp2_with fail
              refine (G1 _ hR5).out.mono ?_; rintro e6 w6 ⟨rfl, hR6, hg6⟩
              have HS6 := HS5.call hg6 hR6
              have p5 : w6.cell? ⟨po, 5, none⟩ = some (i64 o.n) := cell_blk HS6.op 5
              have fp := fun k => frozen_blk HS6.op k
              have HS7 := Lib.hid (HS6.set 5 (i64 x) { o with n := x } v rfl (HS6.own_set 5 _))
              clear HS5 HS6 hg5 hg6 hR5 hR6 hnx
              go_wp2_with fail
              refine ⟨⟨c, j + 1, _, _, HS7, hc, HJ.out, HGO⟩, ?_⟩
              rw [HIT.out, HS7.out.iter]
              show ps.length - (j + 1) < ps.length - j
              have := HJ.out
              omega
          · cases hq : tQuoted (sb s) b with
            | error e =>
              rw [tPartE_100 hn hq] at hgo1
              have hgo2 : Except.error e = R := hgo1
              subst hgo2
              have G1 := fun W h' => GQ W b h' hbs
              rw [hq] at G1
              clear hn hgo1 hq
              go_wp2_with fail
              refine G0.out.mono ?_; rintro e5 w5 ⟨rfl, hR5, hg5⟩
              go_wp2_with fail
              refine (G1 _ hR5).out.mono ?_; rintro e6 w6 ⟨rfl, hg6⟩
              go_wp2_with fail
              rw [← HX.out]
              exact ⟨rfl, rfl, grown_trans HS.out.grown (grown_trans hg5 hg6)⟩
            | ok q =>
              obtain ⟨x, c⟩ := q
              rw [tPart_100 hn hq] at hgo1
              have hc : c ≤ s.size := by have := (tQuoted_le hq).1; rwa [sb_len] at this
              have G1 := fun W h' => GQ W b h' hbs
              rw [hq] at G1
              have HGO := Lib.hid (show tParts (sb s) (ps.drop (j + 1)) { o with data := x } c = R from hgo1)
              clear hn hgo1 hq
              go_wp2_with fail
              refine G0.out.mono ?_; rintro e5 w5 ⟨rfl, hR5, hg5⟩
              have HS5 := HS.out.call hg5 hR5
              go_wp2_with fail
              refine (G1 _ hR5).out.mono ?_; rintro e6 w6 ⟨v6, rfl, hown6, hR6, hg6⟩
              have HS6 := HS5.call hg6 hR6
              obtain ⟨A6, c6, rfl⟩ := own_val3 hown6
              have hit5 := (Array.getElem?_eq_some_iff.1 HS5.iter).1
              have own7 : (w6.setCell ⟨po, 6, none⟩ (.slice A6 x.length c6)).ownsRow (po + 1 + 1) 5 1 (.slice A6 x.length c6) x.length (x.map bv) := own_keepG (own_base hown6 hit5) fun g y hb hy => blk_set hy _ _ (by omega)
              have p6 : w6.cell? ⟨po, 6, none⟩ = some v := cell_blk HS6.op 6
              have fp := fun k => frozen_blk HS6.op k
              have HS7 := Lib.hid (HS6.set 6 (.slice A6 x.length c6) { o with data := x } (.slice A6 x.length c6) rfl own7)
              clear own7 hit5
              clear HS5 HS6 hg5 hg6 hR5 hR6 hnx
              go_wp2_with fail
              refine ⟨⟨c, j + 1, _, _, HS7, hc, HJ.out, HGO⟩, ?_⟩
              rw [HIT.out, HS7.out.iter]
              show ps.length - (j + 1) < ps.length - j
              have := HJ.out
              omega
      · have hje : j = ps.length := by omega
        have hnx : ∀ ty, (Instr.next (.pointer (some ⟨po + 1, 0, none⟩)) true ty).run Tryd.prog wr = .ok (.tuple #[.bool false]) wr := fun ty => run_next_over wr (po + 1) (toB ps) j ty hst.out.iter (by rw [hpsz]; omega)
        have hgo1 := hgo.out
        rw [hje, List.drop_length, tParts] at hgo1
        subst hgo1
        have hx := HX.out
        rw [opEnd, sb_len] at hx
        have hR := hst.out.rd
        have c0 : wr.cell? ⟨r, 0, none⟩ = some (.string s) := cell_blk hR 0
        have c1 : wr.cell? ⟨r, 1, none⟩ = some (i64 a) := cell_blk hR 1
        have hrr := (Array.getElem?_eq_some_iff.1 hR).1
        have k0 := fun p : OnOf wr => on_cell hrr c0 p
        have k1 := fun p : OnOf wr => on_cell hrr c1 p
        have HS := hst
        clear hje hgo hlt hj hst hpsz hR c0 c1 HX
        by_cases hal : a < s.size
        · rw [if_pos hal] at hx
          subst hx
          have t1 : decide ((a : Int) < (s.size : Int)) = true := decide_eq_true (by omega)
          go_wp2_with fail
          refine wp_region_quiet_on (by kernel_rfl) (by kernel_rfl) ?_
          repeat ((with_reducible refine wpQuiet_step (fun K hK => ?_)); go_simp; first | ((with_reducible refine hK _ ?_); clear hK K) | (rw [if_neg (by intro h; cases h)]; (with_reducible refine hK _ ?_); clear hK K) | (apply Exists.intro; refine ⟨fun _ => ?_, hK _ ?_⟩; (fail); clear hK K))
          with_reducible refine wpQuiet_nil ?_
          intro _ hw'
          obtain ⟨pq, hw''⟩ := hw'
          subst hw''
          go_wp2_with fail
          exact ⟨rfl, rfl, grown_below HS.out.grown pq.h⟩
        · rw [if_neg hal] at hx
          subst hx
          have t1 : decide ((a : Int) < (s.size : Int)) = false := decide_eq_false (by omega)
          obtain ⟨A, cq, rfl⟩ := own_val3 HS.out.own
          go_wp2_with fail
          refine wp_region_quiet_on (by kernel_rfl) (by kernel_rfl) ?_
          repeat ((with_reducible refine wpQuiet_step (fun K hK => ?_)); go_simp; first | ((with_reducible refine hK _ ?_); clear hK K) | (rw [if_neg (by intro h; cases h)]; (with_reducible refine hK _ ?_); clear hK K) | (apply Exists.intro; refine ⟨fun _ => ?_, hK _ ?_⟩; (fail); clear hK K))
          with_reducible refine wpQuiet_nil ?_
          intro _ hw'
          obtain ⟨pq, hw''⟩ := hw'
          subst hw''
          have kp := blk_below HS.out.op pq.h
          have kq := blk_below HS.out.res pq.h
          have hg9 := grown_below HS.out.grown pq.h
          have own9 := own_below HS.out.own pq.h
          have l1 := HS.out.l1
          have l2 := HS.out.l2
          generalize pq.v = w9 at *
          have fq := fun o => frozen_blk kq o
          have p0 := cell_blk kp 0
          have p1 := cell_blk kp 1
          have p2 := cell_blk kp 2
          have p3 := cell_blk kp 3
          have p4 := cell_blk kp 4
          have p5 := cell_blk kp 5
          have p6 := cell_blk kp 6
          have q0 := cell_blk kq 0
          have q1 := cell_blk kq 1
          have q2 := cell_blk kq 2
          have q3 := cell_blk kq 3
          have q4 := cell_blk kq 4
          have q5 := cell_blk kq 5
          have q6 := cell_blk kq 6
          unfold OpT.cells at p0 p1 p2 p3 p4 p5 p6
          clear k0 k1 hnx
          have hne : w.heap.size ≠ po := by omega
          have hne2 : po ≠ w.heap.size := by omega
          go_wp2_with fail
          change bodyPost _ _ _ _ _ (sets w9 w.heap.size 0 [bv o.kind, .string (toB o.path), .string (toB o.other), i64 o.handle, i64 o.from_, i64 o.n, .slice A o.data.length cq])
          have e7 := sets_at kq [bv o.kind, .string (toB o.path), .string (toB o.other), i64 o.handle, i64 o.from_, i64 o.n, .slice A o.data.length cq] rfl
          have g7 := grown_sets (Nat.le_refl w.heap.size) [bv o.kind, .string (toB o.path), .string (toB o.other), i64 o.handle, i64 o.from_, i64 o.n, .slice A o.data.length cq] w9 0 hg9
          have o7 : (sets w9 w.heap.size 0 [bv o.kind, .string (toB o.path), .string (toB o.other), i64 o.handle, i64 o.from_, i64 o.n, .slice A o.data.length cq]).ownsRow w.heap.size 5 1 (.slice A o.data.length cq) o.data.length (o.data.map bv) := own_base (own_keepG own9 fun g x hb hx => sets_old (by omega) _ _ _ hx) (by omega)
          generalize sets w9 w.heap.size 0 [bv o.kind, .string (toB o.path), .string (toB o.other), i64 o.handle, i64 o.from_, i64 o.n, .slice A o.data.length cq] = y at *
          have c0 := cell_blk e7 0
          have c1 := cell_blk e7 1
          have c2 := cell_blk e7 2
          have c3 := cell_blk e7 3
          have c4 := cell_blk e7 4
          have c5 := cell_blk e7 5
          have c6 := cell_blk e7 6
          exact bodyPost_ret (v := .agg (o.cells (.slice A o.data.length cq))) (by simp [results, Tryd.results18, go_sem, OpT.cells, c0, c1, c2, c3, c4, c5, c6]) rfl ⟨_, rfl, o7, g7⟩
end Go.Proofs.YtbjjpplhnibjdaaDoor

/- text.Parse: what is thrown is caught. -/
namespace Go.Proofs.YtbjjpplhnibjdaaDoor
open Go Go.RowKit

def tParse (l : List Nat) : Except Nat OpT := if 8192 < l.length then .error 4 else tOp l
abbrev noOp : List Value := [.int .u8 0, .string ByteArray.empty, .string ByteArray.empty, .int .i64 0, .int .i64 0, .int .i64 0, .slice none 0 0]

set_option maxHeartbeats 2000000 in
set_option maxRecDepth 100000 in
theorem catch_idle (p q : Addr) (w : World) :
    CallsD Tryd.prog 17 #[.pointer (some p), .pointer (some q)] .returning w fun e u' w' => e = .returned (.tuple #[]) ∧ u' = .returning ∧ w' = w := by
  refine callsD_of_wpS Tryd.func17 rfl fun c₀ cs hu => ?_
  apply wpS_seq
  apply wpS_region
  simp only [Tryd.ntmps17, List.size_toArray, List.length_cons, List.length_nil, Nat.reduceAdd, Nat.reduceSub, Array.replicate_succ, Array.replicate_zero, List.push_toArray, List.append_toArray, List.nil_append, List.cons_append]
  simp [wpOpsS, go_sem, recoverD, hu, Exit.thenS]
  refine wpS_of_wp ?_
  go_wp2
  simp [bodyPostS, results, Tryd.results17]
  cases c₀
  simp only at hu
  subst hu
  rfl

set_option maxHeartbeats 2000000 in
set_option maxRecDepth 100000 in
theorem catch_panic (P Q k : Nat) (w : World) (hP : w.heap[P]? = some (.cells noOp.toArray 25 (0, 0))) (hQ : w.heap[Q]? = some (.cells #[i64 0] 26 (0, 0))) (hne : P ≠ Q) :
    CallsD Tryd.prog 17 #[.pointer (some ⟨P, 0, none⟩), .pointer (some ⟨Q, 0, none⟩)] (.panicking (thrown k)) w fun e u' w' =>
      e = .returned (.tuple #[]) ∧ u' = .panicking [{ v := .iface 44 (i64 k), recovered := true }] ∧ w' = (sets w P 0 noOp).setCell ⟨Q, 0, none⟩ (i64 k) := by
  have p0 := cell_blk hP 0
  have p1 := cell_blk hP 1
  have p2 := cell_blk hP 2
  have p3 := cell_blk hP 3
  have p4 := cell_blk hP 4
  have p5 := cell_blk hP 5
  have p6 := cell_blk hP 6
  have q0 : w.cell? ⟨Q, 0, none⟩ = some (i64 0) := cell_blk hQ 0
  have fP := fun o => frozen_blk hP o
  have fQ := fun o => frozen_blk hQ o
  have hne2 := hne.symm
  have hta : ∀ W, (Instr.typeAssert (.iface 44 (i64 k)) 20 44 true).run Tryd.prog W = .ok (.tuple #[i64 k, .bool true]) W := fun W => by
    simp [Instr.typeAssert, run_underlying Tryd.underlying44]
  refine callsD_of_wpS Tryd.func17 rfl fun c₀ cs hu => ?_
  apply wpS_seq
  apply wpS_region
  simp only [Tryd.ntmps17, List.size_toArray, List.length_cons, List.length_nil, Nat.reduceAdd, Nat.reduceSub, Array.replicate_succ, Array.replicate_zero, List.push_toArray, List.append_toArray, List.nil_append, List.cons_append]
  simp [wpOpsS, go_sem, recoverD, hu, Exit.thenS]
  refine wpS_of_wp ?_
  go_wp2
  change bodyPostS _ _ _ _ _ _ _ _ ((sets w P 0 noOp).setCell ⟨Q, 0, none⟩ (i64 k))
  generalize ((sets w P 0 noOp).setCell ⟨Q, 0, none⟩ (i64 k)) = W
  simp [bodyPostS, results, Tryd.results17]
/-- What a line is. -/
def ParsePost (w : World) (x : Except Nat OpT) (e : Ending) (w' : World) : Prop :=
  match x with
  | .ok o => ∃ v, e = .returned (.tuple #[.agg (o.cells v), i64 0]) ∧ w'.ownsRow w.heap.size 5 1 v o.data.length (o.data.map bv) ∧ Below w.heap.size w w'
  | .error k => e = .returned (.tuple #[.agg ((zeroT 0).cells (.slice none 0 0)), i64 k]) ∧ Below w.heap.size w w'

set_option maxHeartbeats 4000000 in
set_option maxRecDepth 100000 in
theorem parse_any (s : ByteArray) (w : World) (hw : WordsIn w) (hsz : s.size ≤ 100000) : Calls Tryd.prog 6 #[.string s] w (ParsePost w (tParse (sb s))) := by
  have hmf : ∀ (fn : Fn) (first cap : Array Value) (w : World), (Instr.makeFunc fn first cap).run Tryd.prog w = .ok (.func fn first cap) w := fun _ _ _ _ => rfl
  unfold tParse
  rw [sb_len]
  by_cases hl : 8192 < s.size
  · rw [if_pos hl]
    have t1 : decide ((8192 : Int) < (s.size : Int)) = true := decide_eq_true (by omega)
    clear hl
    go_enter_defers Tryd.func6, Tryd.ntmps6
    go_wp2_with fail
    simp [bodyPostD, Leaves, settle, results, Tryd.results6, go_sem]
    exact ⟨rfl, Base.al (Base.al (Below.refl _ _) _) _⟩
  · rw [if_neg hl]
    have t1 : decide ((8192 : Int) < (s.size : Int)) = false := decide_eq_false (by omega)
    have hm : s.size ≤ 50000 := by omega
    have GO := fun W r h' hW hr => Lib.hid (op_any r s W h' hW hr hm)
    clear hl
    go_enter_defers Tryd.func6, Tryd.ntmps6
    go_wp2_with fail
    have hr : RdT (((w.alloc (.cells #[.int .u8 0, .string ByteArray.empty, .string ByteArray.empty, .int .i64 0, .int .i64 0, .int .i64 0, .slice none 0 0] 25)).alloc (.cells #[.int .i64 0] 26)).alloc (.cells #[.string s, .int .i64 0] 48)) (w.heap.size + 1 + 1) s 0 := blk_new2 w _ _ _
    have hP := blk_old (x := .cells #[.string s, .int .i64 0] 48) (blk_old (x := .cells #[.int .i64 0] 26) (blk_new w (.cells #[.int .u8 0, .string ByteArray.empty, .string ByteArray.empty, .int .i64 0, .int .i64 0, .int .i64 0, .slice none 0 0] 25)))
    have hQ := blk_old (x := .cells #[.string s, .int .i64 0] 48) (blk_new1 w (.cells #[.int .u8 0, .string ByteArray.empty, .string ByteArray.empty, .int .i64 0, .int .i64 0, .int .i64 0, .slice none 0 0] 25) (.cells #[.int .i64 0] 26))
    have hb3 : Below w.heap.size w (((w.alloc (.cells #[.int .u8 0, .string ByteArray.empty, .string ByteArray.empty, .int .i64 0, .int .i64 0, .int .i64 0, .slice none 0 0] 25)).alloc (.cells #[.int .i64 0] 26)).alloc (.cells #[.string s, .int .i64 0] 48)) := Base.al (Base.al (Base.al (Below.refl _ _) _) _) _
    change Calls _ _ _ (((w.alloc (.cells #[.int .u8 0, .string ByteArray.empty, .string ByteArray.empty, .int .i64 0, .int .i64 0, .int .i64 0, .slice none 0 0] 25)).alloc (.cells #[.int .i64 0] 26)).alloc (.cells #[.string s, .int .i64 0] 48)) _
    have hw3 := hw.below hb3
    generalize (((w.alloc (.cells #[.int .u8 0, .string ByteArray.empty, .string ByteArray.empty, .int .i64 0, .int .i64 0, .int .i64 0, .slice none 0 0] 25)).alloc (.cells #[.int .i64 0] 26)).alloc (.cells #[.string s, .int .i64 0] 48)) = w3 at *
    have G1 := GO w3 _ hr hw3 (by omega)
    have hsz3 := (Array.getElem?_eq_some_iff.1 hr).1
    clear GO hw3 hw
    cases hx : tOp (sb s) with
    | ok o =>
      rw [hx] at G1
      refine G1.out.mono ?_; rintro e1 w1 ⟨v, rfl, hown, hg1⟩
      have kP := (hg1.block w.heap.size (by omega) (fun e => by injection e with e; omega)).trans hP
      have kQ := (hg1.block (w.heap.size + 1) (by omega) (fun e => by injection e with e; omega)).trans hQ
      have hb1 := Base.gr hb3 hg1 (fun g hg => by injection hg with hg; omega)
      obtain ⟨A, c, rfl⟩ := own_val3 hown
      have hown1 : w1.ownsRow (w.heap.size + 1 + 1) 5 1 (.slice A o.data.length c) o.data.length (o.data.map bv) := own_base hown (by omega)
      have f0 := fun o => frozen_blk kP o
      have f1 := fun o => frozen_blk kQ o
      have p0 := cell_blk kP 0
      have p1 := cell_blk kP 1
      have p2 := cell_blk kP 2
      have p3 := cell_blk kP 3
      have p4 := cell_blk kP 4
      have p5 := cell_blk kP 5
      have p6 := cell_blk kP 6
      have q0 := cell_blk kQ 0
      unfold OpT.cells
      have HX := Lib.hid hx
      clear hx G1 hown hg1 hP hQ hr hb3 hsz3
      go_wp2_with fail
      change bodyPostD _ _ _ _ _ ((sets w1 w.heap.size 0 [bv o.kind, .string (toB o.path), .string (toB o.other), i64 o.handle, i64 o.from_, i64 o.n, .slice A o.data.length c]).setCell ⟨w.heap.size + 1, 0, none⟩ (.int .i64 0))
      have eP := blk_set (sets_at kP [bv o.kind, .string (toB o.path), .string (toB o.other), i64 o.handle, i64 o.from_, i64 o.n, .slice A o.data.length c] rfl) (k := w.heap.size + 1) 0 (.int .i64 0) (by omega)
      have eQ := heap_setCell (sets_old (g := w.heap.size) (by omega) [bv o.kind, .string (toB o.path), .string (toB o.other), i64 o.handle, i64 o.from_, i64 o.n, .slice A o.data.length c] w1 0 kQ) 0 (.int .i64 0)
      have o7 : ((sets w1 w.heap.size 0 [bv o.kind, .string (toB o.path), .string (toB o.other), i64 o.handle, i64 o.from_, i64 o.n, .slice A o.data.length c]).setCell ⟨w.heap.size + 1, 0, none⟩ (.int .i64 0)).ownsRow w.heap.size 5 1 (.slice A o.data.length c) o.data.length (o.data.map bv) := own_base (own_keepG hown1 fun g x hb hx => blk_set (sets_old (by omega) _ _ _ hx) _ _ (by omega)) (by omega)
      have b7 := Base.st (sets_below (a := w) (Nat.le_refl _) [bv o.kind, .string (toB o.path), .string (toB o.other), i64 o.handle, i64 o.from_, i64 o.n, .slice A o.data.length c] w1 0 hb1) (g := w.heap.size + 1) (Nat.le_succ _) 0 (.int .i64 0)
      generalize ((sets w1 w.heap.size 0 [bv o.kind, .string (toB o.path), .string (toB o.other), i64 o.handle, i64 o.from_, i64 o.n, .slice A o.data.length c]).setCell ⟨w.heap.size + 1, 0, none⟩ (.int .i64 0)) = y at *
      have c0 := cell_blk eP 0
      have c1 := cell_blk eP 1
      have c2 := cell_blk eP 2
      have c3 := cell_blk eP 3
      have c4 := cell_blk eP 4
      have c5 := cell_blk eP 5
      have c6 := cell_blk eP 6
      have c7 : y.cell? ⟨w.heap.size + 1, 0, none⟩ = some (.int .i64 0) := cell_blk eQ 0
      refine leaves_cons (f := 17) (args := #[.pointer (some ⟨w.heap.size, 0, none⟩), .pointer (some ⟨w.heap.size + 1, 0, none⟩)]) (by simp) (by simp [go_sem]) ?_
      refine (catch_idle _ _ _).mono ?_; rintro e u' w'' ⟨rfl, rfl, rfl⟩
      rw [HX.out]
      simp [Leaves, settle, results, Tryd.results6, go_sem, c0, c1, c2, c3, c4, c5, c6, c7]
      exact ⟨_, rfl, o7, b7⟩
    | error k =>
      rw [hx] at G1
      refine G1.out.mono ?_; rintro e1 w1 ⟨rfl, hg1⟩
      have kP := (hg1.block w.heap.size (by omega) (fun e => by injection e with e; omega)).trans hP
      have kQ := (hg1.block (w.heap.size + 1) (by omega) (fun e => by injection e with e; omega)).trans hQ
      have hb1 := Base.gr hb3 hg1 (fun g hg => by injection hg with hg; omega)
      have HX := Lib.hid hx
      clear hx G1 hg1 hP hQ hr hb3 hsz3
      go_wp2_with fail
      refine leaves_cons (f := 17) (args := #[.pointer (some ⟨w.heap.size, 0, none⟩), .pointer (some ⟨w.heap.size + 1, 0, none⟩)]) (by simp) (by simp [go_sem]) ?_
      refine (catch_panic w.heap.size (w.heap.size + 1) k w1 kP kQ (by omega)).mono ?_; rintro e u' w'' ⟨rfl, rfl, rfl⟩
      have eP := blk_set (sets_at kP noOp rfl) (k := w.heap.size + 1) 0 (i64 k) (by omega)
      have eQ := heap_setCell (sets_old (g := w.heap.size) (by omega) noOp w1 0 kQ) 0 (i64 k)
      have b7 := Base.st (sets_below (a := w) (Nat.le_refl _) noOp w1 0 hb1) (g := w.heap.size + 1) (Nat.le_succ _) 0 (i64 k)
      generalize ((sets w1 w.heap.size 0 noOp).setCell ⟨w.heap.size + 1, 0, none⟩ (i64 k)) = y at *
      have c0 := cell_blk eP 0
      have c1 := cell_blk eP 1
      have c2 := cell_blk eP 2
      have c3 := cell_blk eP 3
      have c4 := cell_blk eP 4
      have c5 := cell_blk eP 5
      have c6 := cell_blk eP 6
      have c7 : y.cell? ⟨w.heap.size + 1, 0, none⟩ = some (i64 k) := cell_blk eQ 0
      simp [Leaves, settle, results, Tryd.results6, go_sem, c0, c1, c2, c3, c4, c5, c6, c7]
      exact ⟨rfl, b7⟩
end Go.Proofs.YtbjjpplhnibjdaaDoor

