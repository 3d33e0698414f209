/- flintlaw07.linked: a ring of pairs at places of its own. -/
import Derived.Test.YtbbiohgillhmnaaRingD
import Derived.Test.YtbbiohgillhmnaaRingO
import Derived.Deep.DeepMust
namespace Go.Proofs.Ytbbiohgillhmnaa
open Go.RowKit Flo
attribute [local go_sem] run_store_complex

/-- Where the item number i stands. -/
noncomputable def spot (i : Nat) : Nat × Nat := (near ((i : Int) % 7), near (8 + 40 * (i : Int)))
noncomputable def spots (n : Nat) : List (Nat × Nat) := (List.range n).map spot
noncomputable def linkedL (seq : Int) (l : List Pair) : List Found :=
  (List.range l.length).map fun i => ⟨(spot i).1, (spot i).2, sizeB (l.getD i default).key (l.getD i default).value, false, linkItem seq l (List.replicate l.length seq) (spots l.length) i⟩
def linkedOk (seq : Int) (l : List Pair) : Prop := linkOk seq l (List.replicate l.length seq) (spots l.length)
def LinkedPost (w : World) (seq : Int) (l : List Pair) (e : Ending) (w' : World) : Prop :=
  (linkedOk seq l → ∃ v, e = .returned v ∧ w'.ownsRow w.heap.size 37 11 v l.length ((linkedL seq l).flatMap Found.row)) ∧
  (¬ linkedOk seq l → e = .returned (.slice none 0 0)) ∧ Below w.heap.size w w'

theorem spots_get {n i : Nat} (h : i < n) : (spots n).getD i (0, 0) = spot i := by
  unfold spots
  simp [List.getD, h]
theorem spots_len (n : Nat) : (spots n).length = n := by simp [spots]
theorem spots_succ (n : Nat) : spots (n + 1) = spots n ++ [spot n] := by unfold spots; rw [List.range_succ, List.map_append]; rfl
theorem spot_ok {i : Nat} (h : i ≤ 1000) : part? (spot i).1 = some (i % 7) ∧ part? (spot i).2 = some (8 + 40 * i) :=
  ⟨by have := part_some (nearest_Whole (n := i % 7) (by omega)); push_cast at this; exact this, by have := part_some (nearest_Whole (n := 8 + 40 * i) (by omega)); push_cast at this; exact this⟩

theorem info_u64 : (Try.prog.info? 28).map (fun i => (i.zero, i.size, i.bytes)) = some (some (.int .u64 0), 1, 8) := by kernel_rfl
theorem info_cplx : (Try.prog.info? 23).map (fun i => (i.zero, i.size, i.bytes)) = some (some (cx 0 0), 1, 16) := by kernel_rfl

theorem flat_at {f : Nat → List Value} {n k m : Nat} (hf : ∀ i, (f i).length = m) (hk : k < n) {q : Nat} {u : Value} (h : (f k)[q]? = some u) : ((List.range n).flatMap f)[k * m + q]? = some u := by
  rw [List.flatMap_def]
  exact flatten_get (k := m) (by intro x hx; obtain ⟨i, _, rfl⟩ := List.mem_map.1 hx; exact hf i) k (f k) (by simp [hk]) q u h

set_option maxHeartbeats 8000000 in
set_option maxRecDepth 100000 in
theorem linked_any (seq : Int) (A : Option Addr) (n cap : Nat) (l : List Pair) (w : World) (h : Pairs w (.slice A n cap) l) (hbig : l.length ≤ 100) :
    Calls Try.prog 21 #[.int .u64 seq, .slice A n cap] w (LinkedPost w seq l) := by
  have n1 := h.len
  rw [List.length_map] at n1
  subst n1
  obtain ⟨i0, hi, hz0, hz1, hz2⟩ := info_parts info_u64
  obtain ⟨i1, bi, bz0, bz1, bz2⟩ := info_parts info_cplx
  obtain ⟨i2, fi, fz0, fz1, fz2⟩ := info_parts info_Found
  have gof := fun (i : Nat) (hi : i ≤ 100) W => Lib.hid (of_in ((i : Int) % 7) (8 + 40 * (i : Int)) W (by omega) (by omega) (by omega) (by omega))
  go_enter Try.func21, Try.ntmps21
  go_wp2_with fail
  go_loopw [5, 6, 15] (fun va vb i wr => ∃ k : Nat, k ≤ l.length ∧ i = .int .i64 k ∧ wr.ownsRow w.heap.size 23 1 va k ((spots k).map fun p => cx p.1 p.2) ∧ wr.ownsRow w.heap.size 28 1 vb k ((List.replicate k seq).map (Value.int .u64)) ∧ (∀ g, va.ownBlock = some g → vb.ownBlock ≠ some g) ∧ Below w.heap.size w wr) (fun _ _ i _ => l.length - (intOf i).toNat)
  case atStart => exact ⟨0, by omega, rfl, World.ownsRow_nil _ _ _ _, World.ownsRow_nil _ _ _ _, (fun g h => by cases h), Below.refl _ _⟩
  case round =>
    obtain ⟨k, hk, rfl, howa, howb, hdis, hb⟩ := hrel
    by_cases hlt : k < l.length
    · have g1 := gof k (by omega)
      have HS : Hid (((spots (k + 1)).map fun p => cx p.1 p.2) = ((spots k).map fun p => cx p.1 p.2) ++ [cx (near ((k : Int) % 7)) (near (8 + 40 * (k : Int)))]) := by rw [spots_succ, List.map_append]; rfl
      have HR : Hid ((List.replicate (k + 1) seq).map (Value.int .u64) = (List.replicate k seq).map (Value.int .u64) ++ [.int .u64 seq]) := by rw [List.replicate_succ', List.map_append]; rfl
      generalize near ((k : Int) % 7) = na at *
      generalize near (8 + 40 * (k : Int)) = nb at *
      have OA := Lib.hid howa
      have OB := Lib.hid howb
      have HD := Lib.hid hdis
      clear howa howb hdis gof
      have hk100 : k ≤ 100 := by omega
      go_wp2_with fail
      refine (g1 _).out.mono ?_; rintro e x1 ⟨rfl, rfl⟩
      go_wp2_with (at_builtin; go_must (refine wpList_append_lies _ rfl _ _ 69 rfl w.heap.size 23 i1 _ 1 16 Try.underlying69 bi bz0 bz1 bz2 rfl (by decide) _ _ _ rfl (OA.out.alloc _) ⟨x1.heap.size, 0, none⟩ 1 1 [cx na nb] rfl rfl (news_at rfl _ _) (by simp [Value.oneCell']) (by decide) (by unfold maxLen; omega) (by omega) (by have := hb.size; simp; omega) (x1.heap.size + 1) (by simp) ?_))
      intro ga ca w2 hoa2 hgr2 hla hga
      have htot2 := grown_trans (grown_al (grown_same x1 u5.ownBlock) (.cells #[cx na nb] 23)) hgr2
      have hba := Base.gr hb htot2 (fun j hj => (OA.out.lt j hj).1)
      have hob2 := OB.out.kept htot2 (by
        cases hb6 : u6.ownBlock with
        | none => exact .inl rfl
        | some g => right; intro e; exact HD.out g e.symm hb6)
      have hd2 : u6.ownBlock ≠ some ga := by
        intro e
        rcases hla with h1 | h1
        · exact HD.out ga h1 e
        · have := (OB.out.lt ga e).2; omega
      have HOA2 := Lib.hid hoa2
      have HOB2 := Lib.hid hob2
      have HD2 := Lib.hid hd2
      clear hoa2 hob2 hd2 htot2 hgr2 hla
      go_wp2_with (at_builtin; go_must (refine wpList_append_lies _ rfl _ _ 67 rfl w.heap.size 28 i0 _ 1 8 Try.underlying67 hi hz0 hz1 hz2 rfl (by decide) _ _ _ rfl (HOB2.out.alloc _) ⟨w2.heap.size, 0, none⟩ 1 1 [.int .u64 seq] rfl rfl (news_at rfl _ _) (by simp [Value.oneCell']) (by decide) (by unfold maxLen; omega) (by omega) (by have := hba.size; simp; omega) (w2.heap.size + 1) (by simp) ?_))
      intro gb cb w3 hob3 hgr3 hlb hgb
      have htot3 := grown_trans (grown_al (grown_same w2 u6.ownBlock) (.cells #[.int .u64 seq] 28)) hgr3
      have hbb := Base.gr hba htot3 (fun j hj => (HOB2.out.lt j hj).1)
      have hoa3 := HOA2.out.kept htot3 (.inr (fun e => HD2.out e.symm))
      have hd3 : ∀ g, (Value.slice (some ⟨ga, 0, none⟩) (k + 1) ca).ownBlock = some g → (Value.slice (some ⟨gb, 0, none⟩) (k + 1) cb).ownBlock ≠ some g := by
        intro g h1 h2
        have e1 : ga = g := by simpa [Value.ownBlock] using h1
        have e2 : gb = g := by simpa [Value.ownBlock] using h2
        rcases hlb with h | h
        · exact HD2.out (by rw [h, e1, e2])
        · omega
      have HOA3 := Lib.hid hoa3
      have HOB3 := Lib.hid hob3
      have HD3 := Lib.hid hd3
      clear hoa3 hob3 hd3 htot3 hgr3 hlb
      go_wp2_with fail
      refine ⟨⟨k + 1, by omega, by go_num, ?_, ?_, HD3.out, hbb⟩, by simp [intOf]; omega⟩
      · rw [HS.out]; exact HOA3.out
      · rw [HR.out, List.map_replicate]; exact HOB3.out
    · have hke : k = l.length := by omega
      subst hke
      have hPl : Places wr u5 (spots l.length) := by
        have := own_Sl (w := wr) (v := u5) (xs := (spots l.length).map fun p => cx p.1 p.2) (by rw [List.length_map, spots_len]; exact howa)
        rw [List.map_map] at this
        exact this
      have hVr : U64s wr u6 (List.replicate l.length seq) := by
        have := own_Sl (w := wr) (v := u6) (xs := (List.replicate l.length seq).map (Value.int .u64)) (by rw [List.length_map, List.length_replicate]; exact howb)
        rw [List.map_map] at this
        exact this
      obtain ⟨A5, c5, h5, _⟩ := hPl
      obtain ⟨A6, c6, h6, _⟩ := hVr
      rw [List.length_map, spots_len] at h5
      rw [List.length_map, List.length_replicate] at h6
      subst h5
      subst h6
      have hPl : Places wr (.slice A5 l.length c5) (spots l.length) := by
        have := own_Sl (w := wr) (v := .slice A5 l.length c5) (xs := (spots l.length).map fun p => cx p.1 p.2) (by rw [List.length_map, spots_len]; exact howa)
        rw [List.map_map] at this
        exact this
      have hVr : U64s wr (.slice A6 l.length c6) (List.replicate l.length seq) := by
        have := own_Sl (w := wr) (v := .slice A6 l.length c6) (xs := (List.replicate l.length seq).map (Value.int .u64)) (by rw [List.length_map, List.length_replicate]; exact howb)
        rw [List.map_map] at this
        exact this
      have gl := Lib.hid (link_any seq A A6 A5 l.length l.length l.length cap c6 c5 l (List.replicate l.length seq) (spots l.length) wr (Sl.below h hb) hVr hPl (by omega))
      have HP := Lib.hid hPl
      clear hPl hVr howa howb hdis
      by_cases hok : linkedOk seq l
      · go_wp2_with fail
        refine gl.out.mono ?_; rintro e w2 ⟨hyes, -, hb2⟩
        obtain ⟨v, rfl, hown⟩ := hyes hok
        clear hyes
        have hpos : 0 < l.length := by have := hok.1; omega
        obtain ⟨g, cp, rfl, hg0, hg1, hcp, hcell⟩ := own_pos hown hpos (by decide)
        have HC := Lib.hid hcell
        clear hown hcell
        have gs := fun k v W => Lib.hid (ringSize_any k v W)
        have hbw := Base.tr hb hb2
        go_wp2_with fail
        go_loopw [10, 44] (fun v i wq => ∃ k : Nat, k ≤ l.length ∧ i = .int .i64 k ∧ wq.ownsRow w2.heap.size 37 11 v k (((linkedL seq l).take k).flatMap Found.row) ∧ Below w2.heap.size w2 wq) (fun _ i _ => l.length - (intOf i).toNat)
        case atStart => exact ⟨0, by omega, rfl, World.ownsRow_nil _ _ _ _, Below.refl _ _⟩
        case round =>
          obtain ⟨k, hk, rfl, hown, hbk⟩ := hrel
          by_cases hlt : k < l.length
          · obtain ⟨a3, o3, rfl, b3, p3⟩ := Places.cell (Sl.below (Sl.below HP.out hb2) hbk) (by rw [spots_len]; omega)
            have c0 := p3 k (by rw [spots_len]; omega)
            rw [spots_get hlt] at c0
            have hcl := fun q u (hq : (linkItem seq l (List.replicate l.length seq) (spots l.length) k).row[q]? = some u) => ((rd hbk).1 g (k * 8 + q) hg1).trans (HC.out (k * 8 + q) u (flat_at (f := fun k => (linkItem seq l (List.replicate l.length seq) (spots l.length) k).row) (m := 8) (fun _ => rfl) hlt hq))
            have r0 := hcl 0 _ rfl
            have r1 := hcl 1 _ rfl
            have r2 := hcl 2 _ rfl
            have r3 := hcl 3 _ rfl
            have r4 := hcl 4 _ rfl
            have r5 := hcl 5 _ rfl
            have r6 := hcl 6 _ rfl
            have r7 := hcl 7 _ rfl
            rw [Nat.add_zero] at r0
            have htk : (linkedL seq l).take (k + 1) = (linkedL seq l).take k ++ [⟨(spot k).1, (spot k).2, sizeB (linkItem seq l (List.replicate l.length seq) (spots l.length) k).key (linkItem seq l (List.replicate l.length seq) (spots l.length) k).value, false, linkItem seq l (List.replicate l.length seq) (spots l.length) k⟩] := by
              unfold linkedL
              rw [List.take_succ_eq_append_getElem (by simpa using hlt)]
              simp [linkItem]
            have htk2 := congrArg (fun x => x.flatMap Found.row) htk
            simp only [List.flatMap_append] at htk2
            have hgq : g < wr.heap.size := Nat.lt_of_lt_of_le hg1 hbk.size
            clear hcl p3 htk
            generalize linkItem seq l (List.replicate l.length seq) (spots l.length) k = it at *
            obtain ⟨sq, vr, ix, ct, pa, pb, gn, ky, vl⟩ := it
            generalize spot k = sp at *
            obtain ⟨s0, s1⟩ := sp
            simp only at c0 r0 r1 r2 r3 r4 r5 r6 r7
            have htk3 : (((linkedL seq l).take (k + 1)).flatMap Found.row = ((linkedL seq l).take k).flatMap Found.row ++ [cx s0 s1, i64 (sizeB ky vl), .bool false, .int .u64 sq, .int .u64 vr, i64 ix, i64 ct, cx pa pb, .bool gn, .string ky, .string vl]) := by rw [htk2]; simp
            have HTK := Lib.hid htk3
            have OWN := Lib.hid hown
            clear htk2 htk3 hown
            have hk1 : (k : Int) < (l.length : Int) := by omega
            go_wp2_with fail
            refine wp_region_ph (D := fun w' => ∃ p : OnOf _, w' = p.v) 13 [12] (by kernel_rfl) (by kernel_rfl) ⟨⟨_, Base.dr (Below.refl _ _)⟩, rfl⟩ ?_
            simp only [List.take_succ_cons, List.take_zero, List.drop_succ_cons, List.drop_zero]
            have on0 := @on_rd0; have on1 := @on_rd1; have on2 := @on_rd2; have on3 := @on_new1; have on4 := @on_new2; have on5 := @gr_rd0
            repeat ((with_reducible refine head_quiet ?_ ?_); (focus rfl); (intro K hK); go_simp; first | ((with_reducible refine hK _ ?_); clear hK K) | (rw [if_neg (by intro h; cases h)]; (with_reducible refine hK _ ?_); clear hK K) | (apply Exists.intro; refine ⟨fun _ => ?_, hK _ ?_⟩; ((with_reducible exact (gs _ _ _).out)); clear hK K))
            refine head_run (by rfl) rfl (.slice (some ⟨wr.heap.size + 1, 0, none⟩) 1 1) (((wr.alloc (.cells #[.int .u64 sq, .int .u64 vr, i64 ix, i64 ct, cx pa pb, .bool gn, .string ky, .string vl] 35)).drew).alloc (.cells #[cx s0 s1, i64 (sizeB ky vl), .bool false, .int .u64 sq, .int .u64 vr, i64 ix, i64 ct, cx pa pb, .bool gn, .string ky, .string vl] 37)) ?_ ⟨⟨_, Base.al (Base.dr (Below.refl _ _)) _⟩, rfl⟩ ?_
            · go_simp
            clear on0 on1 on2 on3 on4 on5
            with_reducible refine head_nil ?_
            with_reducible refine eq_intro ?_
            have hown2 := own_below OWN.out (Base.dr (Base.al (Below.refl _ wr) (.cells #[.int .u64 sq, .int .u64 vr, i64 ix, i64 ct, cx pa pb, .bool gn, .string ky, .string vl] 35)))
            have hb4 := Base.dr (Base.al hbk (.cells #[.int .u64 sq, .int .u64 vr, i64 ix, i64 ct, cx pa pb, .bool gn, .string ky, .string vl] 35))
            go_wp2_with (at_builtin; go_must (refine wpList_append_own _ rfl _ _ 31 rfl w2.heap.size 37 i2 _ 11 120 Try.underlying31 fi fz0 fz1 fz2 rfl (by decide) _ _ _ rfl (hown2.alloc _) ⟨(wr.heap.size + 1), 0, none⟩ 1 1 [cx s0 s1, i64 (sizeB ky vl), .bool false, .int .u64 sq, .int .u64 vr, i64 ix, i64 ct, cx pa pb, .bool gn, .string ky, .string vl] rfl rfl ?c1 ?c2 ?c3 ?c4 ?c5 ?_))
            case c1 => exact news_at (by simp) _ _
            case c2 => simp [Value.oneCell']
            case c3 => unfold maxLen; omega
            case c4 => omega
            case c5 => have := hb4.size; (try simp at this); (try simp); omega
            intro v' w4 hown3 hgrow _
            have hb5 := Base.gr (Base.al hb4 _) hgrow (fun g hg => (hown2.lt g hg).1)
            go_wp2_with fail
            refine ⟨⟨k + 1, by omega, by go_num, ?_, hb5⟩, by simp [intOf]; omega⟩
            rw [HTK.out]
            exact hown3
          · have hke : k = l.length := by omega
            subst hke
            rw [List.take_of_length_le (by simp [linkedL])] at hown
            go_wp2_with fail
            go_ret
            exact ⟨fun _ => ⟨_, rfl, own_base hown hbw.size⟩, fun h => absurd hok h, Base.tr hbw hbk⟩
      · go_wp2_with fail
        refine gl.out.mono ?_; rintro e w2 ⟨-, hno, hb2⟩
        obtain rfl := hno hok
        clear hno
        go_wp2_with fail
        go_ret
        exact ⟨fun h => absurd h hok, fun _ => rfl, Base.tr hb hb2⟩
end Go.Proofs.Ytbbiohgillhmnaa
