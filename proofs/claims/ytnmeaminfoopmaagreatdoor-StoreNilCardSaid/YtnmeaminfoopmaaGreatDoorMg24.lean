/- (*Store).writes of one pair. -/
import Derived.Test.YtnmeaminfoopmaaGreatDoorSt7
import Derived.Test.YtnmeaminfoopmaaGreatDoorMg11
import Derived.Test.YtnmeaminfoopmaaGreatDoorMg20
import Derived.Test.YtnmeaminfoopmaaGreatDoorPick3
import Derived.Test.YtnmeaminfoopmaaGreatDoorPh2
import Derived.Test.YtnmeaminfoopmaaGreatDoorMg23
namespace Go.Proofs.YtnmeaminfoopmaaGreatDoor
open Go Go.RowKit Flo
attribute [local go_sem] run_store_complex

abbrev itOf (n : Nat) (p : Pair) (pa pb : Nat) : Item := ⟨n, n, 0, 1, pa, pb, p.gone, p.key, p.value⟩
theorem itemB_len (n v i c s o : Nat) (g : Bool) (k u : ByteArray) : (itemB n v i c s o g k u).length = 24 + k.size + u.size := by
  unfold itemB headIt
  simp [be_len, sb]
  omega
theorem frame_lt {l : List Nat} (h : ∀ b ∈ l, b < 256) : ∀ b ∈ frameB l, b < 256 := by
  intro b hb
  unfold frameB at hb
  simp only [List.mem_append, List.mem_cons, List.not_mem_nil, or_false] at hb
  rcases hb with (((hb | hb) | hb) | hb) | hb
  · omega
  · exact be_lt _ _ _ hb
  · exact be_lt _ _ _ hb
  · exact h b hb
  · omega
/-- An item stands in a block's first eight cells. -/
def ItAt (W : World) (g : Nat) (x : Item) : Prop := ∃ cur, W.heap[g]? = some (.cells cur 73 (0, 0)) ∧ cur.toList.take 8 = x.row
theorem row_cell {cur : Array Value} {n : Nat} {xs : List Value} (h : cur.toList.take n = xs) {j : Nat} {u : Value} (hj : xs[j]? = some u) : cur[j]? = some u := by
  rw [← h, List.getElem?_take] at hj
  split at hj
  · simpa using hj
  · cases hj
theorem ItAt.cells {W : World} {g : Nat} {x : Item} (h : ItAt W g x) : W.cell? ⟨g, 0, none⟩ = some (.int .u64 x.seq) ∧ W.cell? ⟨g, 1, none⟩ = some (.int .u64 x.ver) ∧ W.cell? ⟨g, 2, none⟩ = some (i64 x.index) ∧ W.cell? ⟨g, 3, none⟩ = some (i64 x.count) ∧
    W.cell? ⟨g, 4, none⟩ = some (cx x.a x.b) ∧ W.cell? ⟨g, 5, none⟩ = some (.bool x.gone) ∧ W.cell? ⟨g, 6, none⟩ = some (.string x.key) ∧ W.cell? ⟨g, 7, none⟩ = some (.string x.value) := by
  obtain ⟨cur, h1, h2⟩ := h
  have key : ∀ j u, x.row[j]? = some u → W.cell? ⟨g, j, none⟩ = some u := fun j u hj => by
    have := row_cell h2 hj
    rw [← this]
    exact cell_blk h1 j
  exact ⟨key 0 _ rfl, key 1 _ rfl, key 2 _ rfl, key 3 _ rfl, key 4 _ rfl, key 5 _ rfl, key 6 _ rfl, key 7 _ rfl⟩
theorem ItAt.below {W W' : World} {g : Nat} {x : Item} (h : ItAt W g x) (hb : Below W.heap.size W W') : ItAt W' g x := by
  obtain ⟨cur, h1, h2⟩ := h
  exact ⟨cur, blk_below h1 hb, h2⟩
theorem ItAt.outQ {Q : Nat → Prop} {W W' : World} {g : Nat} {x : Item} (h : ItAt W g x) (hb : Out Q W W') (hg : ¬ Q g) : ItAt W' g x := by
  obtain ⟨cur, h1, h2⟩ := h
  exact ⟨cur, hb.blk h1 hg, h2⟩
theorem ItAt.lt {W : World} {g : Nat} {x : Item} (h : ItAt W g x) : g < W.heap.size := by
  obtain ⟨cur, h1, h2⟩ := h
  exact (Array.getElem?_eq_some_iff.1 h1).1
theorem outB {Q : Nat → Prop} {B : Nat} {w v : World} (h : Below B w v) (hq : ∀ k, B ≤ k → Q k) : Out Q w v := ⟨h.os, h.tape, h.output, h.size, fun k _ hn => h.block k (by
  rcases Nat.lt_or_ge k B with h1 | h1
  · exact h1
  · exact absurd (hq k h1) hn)⟩
/-- What is written of a pair. -/
abbrev recOf (n k o : Nat) (p : Pair) : List Nat := itemB n n 0 1 k o p.gone p.key p.value
abbrev fndOf (n : Nat) (p : Pair) (pa pb qa qb k o : Nat) : Found := ⟨qa, qb, (frameB (recOf n k o p)).length, false, itOf n p pa pb⟩
abbrev stQ (O : Nat → Prop) (B : Nat) (H : ShV) (k : Nat) : Prop := shO O H k ∨ B ≤ k

set_option maxHeartbeats 16000000 in
set_option maxRecDepth 100000 in
theorem writes_one {O : Nat → Prop} {B : Nat} {w : World} {T : StV} (h : StR O B w T) (A V C : Option Addr) (c1 c2 c3 : Nat) (p : Pair) (pa pb k o : Nat) (h1 : Pairs w (.slice A 1 c1) [p]) (h2 : U64s w (.slice V 1 c2) [(T.seq : Int)]) (h3 : Places w (.slice C 1 c3) [(pa, pb)])
    (f1 : Far (· = T.TB) (.slice A 1 c1)) (f2 : Far (· = T.TB) (.slice V 1 c2)) (f3 : Far (· = T.TB) (.slice C 1 c3)) (hmay : mayB (itOf T.seq p pa pb) = true) (hpl : Plain (itOf T.seq p pa pb) T.seq T.seq 0 1 k o)
    (hsq : T.seq < 1000000) (hlen : T.nts.length < 100000)
    (a0 : Option Nat) (hok : ShOk T.H a0) (ha1 : T.N.acts ≤ 900000) (ha2 : T.N.offs ≤ 900000) (hcm : ∀ c, T.N.cut = some c → c.1 ≤ 9223372036854775807)
    (hbd : ∀ H' N', opensP T.N { T.H with op := -1 } = (0, H', N') → N'.acts ≤ 1000000 ∧ N'.offs ≤ 1000000 ∧ ∀ c, N'.cut = some c → c.1 ≤ 9223372036854775807)
    (qa qb : Nat) (H' : ShV) (N' : Nor) (hw : writeP T.N T.H a0 (frameB (recOf T.seq k o p)) T.seq = ((qa, qb), 0, H', N')) (s o' : Nat) (hqa : part? qa = some s) (hqb : part? qb = some o')
    (e1 : N'.D = T.N.D) (e2 : N'.S = T.N.S) (e3 : N'.Z = T.N.Z) (e4 : H'.SB = T.H.SB) (e5 : H'.LB = T.H.LB) (e6 : H'.EB = T.H.EB)
    (TQ : Option (Nat × ByteArray × ByteArray) → Prop)
    (HC : ∀ W T' nb, StR O B W T' → T'.nts = T.nts ++ [⟨nb, fndOf T.seq p pa pb qa qb k o, s, true⟩] → T'.nm = T.nm → T'.tr = T.tr →
      Calls Tryz.prog 67 #[T'.ptr, .pointer (some ⟨nb, 0, none⟩)] W fun e W' => e = .returned (.tuple #[]) ∧ ∃ tr', TQ tr' ∧ StR O B W' { T' with nm := mput T'.nm p.key (.pointer (some ⟨nb, 0, none⟩)), tr := tr' } ∧ Below B W W') :
    Calls Tryz.prog 44 #[T.ptr, .slice A 1 c1, .slice V 1 c2, .slice C 1 c3] w fun e w' => e = .returned (i64 0) ∧ ∃ nb nv tr', TQ tr' ∧
      StR O B w' { T with N := N', H := H', nv := nv, nts := T.nts ++ [⟨nb, fndOf T.seq p pa pb qa qb k o, s, true⟩], nm := mput T.nm p.key (.pointer (some ⟨nb, 0, none⟩)), tr := tr', seq := T.seq + 1 } ∧ Out (stQ O B T.H) w w' := by
  have GA : ∀ W, Hid (Gives 41 #[.int .u64 T.seq] W (.int .u64 ((T.seq + 1 : Nat) : Int))) := fun W => Lib.hid (above_any T.seq W (by omega))
  have GL := fun W (g1 : Pairs W (.slice A 1 c1) [p]) (g2 : U64s W (.slice V 1 c2) [(T.seq : Int)]) (g3 : Places W (.slice C 1 c3) [(pa, pb)]) => Lib.hid (link_any (T.seq : Int) A V C 1 1 1 c1 c2 c3 [p] [(T.seq : Int)] [(pa, pb)] W g1 g2 g3 (by simp))
  have LK : Hid (linkOk (T.seq : Int) [p] [(T.seq : Int)] [(pa, pb)]) := Lib.hid ⟨by simp, rfl, rfl, fun j hj => by
    obtain rfl : j = 0 := by simp at hj; omega
    have e : linkItem (T.seq : Int) [p] [(T.seq : Int)] [(pa, pb)] 0 = itOf T.seq p pa pb := by simp [linkItem]
    rw [e]
    exact hmay⟩
  have GP := fun W => Lib.hid (ringPut_yes (itOf T.seq p pa pb) T.seq T.seq 0 1 k o W hmay hpl)
  have hrl : (recOf T.seq k o p).length ≤ 4900 := by
    rw [itemB_len]
    have h1 : p.key.size ≤ 48 := hpl.key2
    have h2 : p.value.size ≤ 64 := hpl.val2
    omega
  have GR := fun a o2 n cap W (g : Byt W (.slice (some ⟨a, o2, none⟩) n cap) (recOf T.seq k o p)) => Lib.hid (recPut_any a o2 n cap (recOf T.seq k o p) W g (itemB_lt hpl) hrl (by rw [itemB_len]; omega))
  have hv : ((T.seq + 1 : Nat) : Int) = (T.seq : Int) + 1 := by omega
  have GS : ∀ W (_ : ShD O W T.N T.H) g c (_ : Byt W (.slice (some ⟨g, 0, none⟩) (frameB (recOf T.seq k o p)).length c) (frameB (recOf T.seq k o p))) (_ : Far (shO O T.H) (.slice (some ⟨g, 0, none⟩) (frameB (recOf T.seq k o p)).length c)),
      Hid (Calls Tryz.prog 76 #[T.H.ptr, .slice (some ⟨g, 0, none⟩) (frameB (recOf T.seq k o p)).length c, .int .u64 (T.seq : Int)] W fun e W' => e = .returned (.tuple #[cx qa qb, i64 0]) ∧ ShD O W' N' H' ∧ Out (shO O T.H) W W') := fun W hd g c hy hf => Lib.hid (by
    have := shWrite_any hd a0 hok ha1 ha2 hcm (some ⟨g, 0, none⟩) _ c (frameB (recOf T.seq k o p)) (T.seq : Int) hy (frame_lt (itemB_lt hpl)) hf (by rw [frame_len]; omega) hbd
    rw [hw] at this
    exact this)
  have GD := fun W T' (hT : StR O B W T') (hl : T'.nts.length ≤ 100000) => Lib.hid (adds_no hT (fndOf T.seq p pa pb qa qb k o) s o' hqa hqb hl)
  obtain ⟨An, cn, hnv⟩ : ∃ A c, T.nv = .slice A T.nts.length c := by
    rcases h.own.2 with ⟨h1, h2⟩ | ⟨g', c', _, h1, _⟩
    · exact ⟨_, _, by rw [h1, h2]⟩
    · exact ⟨_, _, h1⟩
  have HNV := Lib.hid hnv
  have c7 : w.cell? ⟨T.TB, 7, none⟩ = some (.int .u64 T.seq) := cell_blk h.box 7
  have fz := fun o => frozen_blk h.box o
  have hS1 : StR O B (w.setCell ⟨T.TB, 7, none⟩ (.int .u64 ((T.seq + 1 : Nat) : Int))) { T with seq := T.seq + 1 } := h.setBox (T' := { T with seq := T.seq + 1 }) 7 _ rfl rfl h.leaf
  have hb1 : Out (· = T.TB) w (w.setCell ⟨T.TB, 7, none⟩ (.int .u64 ((T.seq + 1 : Nat) : Int))) := (Out.refl _ _).set (O := (· = T.TB)) rfl _ _
  have hb1' := lowSt w h.tb 7 (.int .u64 ((T.seq + 1 : Nat) : Int))
  rw [hv] at hS1 hb1 hb1'
  have G1 := Lib.hid (Sl.out h1 f1 hb1)
  have G2 := Lib.hid (Sl.out h2 f2 hb1)
  have G3 := Lib.hid (Sl.out h3 f3 hb1)
  have HB1 := Lib.hid hb1'
  have HS1 := Lib.hid hS1
  have HLM := Lib.hid h.lim
  have HLN := Lib.hid hlen
  have hlt := h.lt
  have E : Hid (N'.D = T.N.D ∧ N'.S = T.N.S ∧ N'.Z = T.N.Z ∧ H'.SB = T.H.SB ∧ H'.LB = T.H.LB ∧ H'.EB = T.H.EB) := Lib.hid ⟨e1, e2, e3, e4, e5, e6⟩
  clear h hS1 hb1 hb1' h1 h2 h3 hrl hv hnv hw hpl hmay f1 f2 f3 hlen e1 e2 e3 e4 e5 e6 hbd hok ha1 ha2 hcm hqa hqb
  go_enter Tryz.func44, Tryz.ntmps44
  go_wp2_with fail
  refine (GA _).out.mono ?_; rintro e x1 ⟨rfl, rfl⟩
  go_wp2_with fail
  generalize x1.setCell ⟨T.TB, 7, none⟩ (.int .u64 ((T.seq : Int) + 1)) = w1 at *
  refine (GL _ G1.out G2.out G3.out).out.mono ?_; rintro e w2 ⟨hyes, -, hb2⟩
  obtain ⟨v, rfl, hown⟩ := hyes LK.out
  obtain ⟨gi, ci, rfl, hgi, hit⟩ : ∃ g c, v = .slice (some ⟨g, 0, none⟩) 1 c ∧ w1.heap.size ≤ g ∧ ItAt w2 g (itOf T.seq p pa pb) := by
    rcases hown.2 with ⟨_, h2⟩ | ⟨g', c', cur, h1, h2, h3, h4, h5, h6, h7⟩
    · cases h2
    · refine ⟨g', c', h1, h2, cur, h3, ?_⟩
      rw [show (8 : Nat) = [p].length * 8 from rfl, h7]
      simp [linkItem]
  have HIT := Lib.hid hit
  have HS2 := Lib.hid (HS1.out.below hb2)
  have HB2 := Lib.hid (lowTr HB1.out (Below.low hb2 HS1.out.base))
  have c4 : w2.cell? ⟨T.TB, 4, none⟩ = some (.slice An T.nts.length cn) := by rw [← HNV.out]; exact cell_blk HS2.out.box 4
  have hz1 := HS1.out.base
  clear hyes hown hit hb2 GL LK G1 G2 G3 GA HS1 HB1 c7 fz hlt
  go_wp2_with fail
  go_loopw [53] (fun iv wr => (iv = i64 0 ∧ wr = w2) ∨ (iv = i64 1 ∧ Hid (∃ nb nv, StR O B wr { T with N := N', H := H', nv := nv, nts := T.nts ++ [⟨nb, fndOf T.seq p pa pb qa qb k o, s, false⟩], seq := T.seq + 1 } ∧ Out (stQ O B T.H) x1 wr))) (fun iv _ => 1 - (intOf iv).toNat)
  case atStart => exact .inl ⟨rfl, rfl⟩
  case round =>
    rcases hrel with ⟨rfl, rfl⟩ | ⟨rfl, hmid⟩
    · obtain ⟨n0, n1, n2, n3, n4, n5, n6, n7⟩ := HIT.out.cells
      have hgl := HIT.out.lt
      clear c4
      go_wp2_with fail
      have hb3 := Base.al (Below.refl _ wr) (.cells #[.int .u64 T.seq, .int .u64 T.seq, i64 0, i64 1, cx pa pb, .bool p.gone, .string p.key, .string p.value] 73)
      refine (GP _).out.mono ?_; rintro e w4 ⟨ad, n4', c4', rfl, hy4, hb4⟩
      obtain ⟨ab, ao, had, -, -⟩ := Byt.cell hy4 (by rw [itemB_len]; omega)
      injection had with had
      subst had
      have hb5 := Base.tr hb3 hb4
      clear n0 n1 n2 n3 n4 n5 n6 n7
      go_wp2_with fail
      refine (GR _ _ _ _ _ hy4).out.mono ?_; rintro e w5 ⟨g5, c5, rfl, hy5, hg5, hb6⟩
      have hb7 := Base.tr hb5 hb6
      have hS5 := HS2.out.below hb7
      have d3 : w5.cell? ⟨T.TB, 3, none⟩ = some T.H.ptr := cell_blk hS5.box 3
      have hB2 := HS2.out.base
      have hz5 : wr.heap.size ≤ g5 := Nat.le_trans hb5.size hg5
      have hfar5 : Far (shO O T.H) (.slice (some ⟨g5, 0, none⟩) (frameB (recOf T.seq k o p)).length c5) := by
        intro b off n' c' e hb
        injection e with e1 _ _
        injection e1 with e1
        injection e1 with e1 _ _
        have := HLM.out b hb
        omega
      have GS5 := GS w5 hS5.sh g5 c5 hy5 hfar5
      have HS5 := Lib.hid hS5
      have HI5 := Lib.hid (HIT.out.below hb7)
      have HO5 := Lib.hid ((outB (Q := stQ O B T.H) HB2.out (fun k hk => .inr hk)).then hb7)
      clear hS5 hfar5 hb3 hb4 hb5 hb6 hb7 hy4 hy5 hgl
      go_wp2_with fail
      refine GS5.out.mono ?_; rintro e w6 ⟨rfl, hsd, hout⟩
      have hS6 := HS5.out.shelved hsd hout E.out.1 E.out.2.1 E.out.2.2.1 E.out.2.2.2.1 E.out.2.2.2.2.1 E.out.2.2.2.2.2
      have HI6 := HI5.out.outQ hout (fun hk => by have := HLM.out gi hk; omega)
      obtain ⟨n0, n1, n2, n3, n4, n5, n6, n7⟩ := HI6.cells
      have hgl6 := HI6.lt
      have GD6 := GD w6 _ hS6 (by show T.nts.length ≤ 100000; have := HLN.out; omega)
      have HO6 := Lib.hid (HO5.out.trans (hout.wide (Q := stQ O B T.H) (fun k hk => .inl hk)))
      have HB6 := Lib.hid hS6.base
      clear hsd hout hS6 HI6 d3 GS5
      go_wp2_with fail
      refine GD6.out.mono ?_; rintro e w7 ⟨rfl, ⟨nb, nv, hS7, hnb, hb8⟩⟩
      have HS7 := Lib.hid hS7
      have HO7 := Lib.hid (HO6.out.trans (outB (Q := stQ O B T.H) hb8 (fun k hk => .inr hk)))
      clear hS7 hb8 n0 n1 n2 n3 n4 n5 n6 n7 GD6
      go_wp2_with fail
      exact ⟨.inr ⟨rfl, Lib.hid ⟨nb, nv, HS7.out, HO7.out⟩⟩, by simp [intOf]⟩
    · obtain ⟨nb, nv, hS, ho8⟩ := hmid.out
      obtain ⟨g, cap, cur, rfl, hgB, hgg, hcap, hcm8, hcs, htk⟩ : ∃ g cap cur, nv = .slice (some ⟨g, 0, none⟩) (T.nts.length + 1) cap ∧ B ≤ g ∧ wr.heap[g]? = some (.cells cur 90 (0, 0)) ∧ T.nts.length + 1 ≤ cap ∧ cap ≤ maxLen ∧ cur.size = cap * 1 ∧ cur.toList.take (T.nts.length + 1) = T.nts.map Nt.ptr ++ [.pointer (some ⟨nb, 0, none⟩)] := by
        rcases hS.own.2 with ⟨_, h2⟩ | ⟨g', c', cur, h1, h2, h3, h4, h5, h6, h7⟩
        · simp at h2
        · refine ⟨g', c', cur, ?_, h2, h3, ?_, h5, h6, ?_⟩
          · have h1' : nv = _ := h1
            rw [h1']
            simp
          · simpa using h4
          · simpa using h7
      have hptr : wr.cell? ⟨g, T.nts.length, none⟩ = some (.pointer (some ⟨nb, 0, none⟩)) := (cell_blk hgg T.nts.length).trans (row_cell htk (by rw [List.getElem?_append_right (by simp)]; simp))
      have hgl := (Array.getElem?_eq_some_iff.1 hgg).1
      have c4' : wr.cell? ⟨T.TB, 4, none⟩ = some (.slice (some ⟨g, 0, none⟩) (T.nts.length + 1) cap) := cell_blk hS.box 4
      have hn1 := HLN.out
      have hnt := hS.nt ⟨nb, fndOf T.seq p pa pb qa qb k o, s, false⟩ (by simp)
      have n12 : wr.cell? ⟨nb, 12, none⟩ = some (.bool false) := cell_blk hnt.1 12
      have hnl : nb < wr.heap.size := (Array.getElem?_eq_some_iff.1 hnt.1).1
      have fz2 := fun o => frozen_blk hnt.1 o
      have HC9 := Lib.hid (hS.counted (xs := T.nts) (x := ⟨nb, fndOf T.seq p pa pb qa qb k o, s, false⟩) rfl)
      have HO9 := Lib.hid (ho8.trans (outB (Q := stQ O B T.H) (lowSt wr (g := nb) hnt.2 12 (.bool true)) (fun k hk => .inr hk)))
      clear hmid hS ho8 hgg htk hcs c4 hnt
      go_wp2_with fail
      obtain ⟨wq, hwq⟩ : ∃ W, W = wr := ⟨_, rfl⟩
      go_loopw [99] (fun iv wx => (iv = i64 0 ∧ wx = wq) ∨ (iv = i64 1 ∧ Hid (∃ nb nv tr', TQ tr' ∧ StR O B wx { T with N := N', H := H', nv := nv, nts := T.nts ++ [⟨nb, fndOf T.seq p pa pb qa qb k o, s, true⟩], nm := mput T.nm p.key (.pointer (some ⟨nb, 0, none⟩)), tr := tr', seq := T.seq + 1 } ∧ Out (stQ O B T.H) x1 wx))) (fun iv _ => 1 - (intOf iv).toNat)
      case atStart => exact .inl ⟨rfl, hwq.symm⟩
      case round =>
        rcases hrel with ⟨rfl, rfl⟩ | ⟨rfl, hfin⟩
        · subst hwq
          go_wp2_with fail
          refine (HC _ _ nb HC9.out rfl rfl rfl).mono ?_; rintro e w9 ⟨rfl, tr', htq, hS10, hb10⟩
          have HF : Hid (∃ nb nv tr', TQ tr' ∧ StR O B w9 { T with N := N', H := H', nv := nv, nts := T.nts ++ [⟨nb, fndOf T.seq p pa pb qa qb k o, s, true⟩], nm := mput T.nm p.key (.pointer (some ⟨nb, 0, none⟩)), tr := tr', seq := T.seq + 1 } ∧ Out (stQ O B T.H) x1 w9) :=
            Lib.hid ⟨nb, _, tr', htq, hS10, HO9.out.trans (outB (Q := stQ O B T.H) hb10 (fun k hk => .inr hk))⟩
          clear htq hS10 hb10 HC9 HO9 n12 hptr
          go_wp2_with fail
          exact ⟨.inr ⟨rfl, HF⟩, by simp [intOf]⟩
        · obtain ⟨nb2, nv2, tr', h2, h3, h4⟩ := hfin.out
          clear hptr c4' n12 fz2 hfin
          go_wp2_with fail
          go_ret
          exact ⟨rfl, nb2, nv2, tr', h2, h3, h4⟩
end Go.Proofs.YtnmeaminfoopmaaGreatDoor

/- (*Store).room of one pair: the first turn finds a place. -/
namespace Go.Proofs.YtnmeaminfoopmaaGreatDoor
open Go Go.RowKit Flo

theorem flat_i64 : ∀ l : List Int, (l.map fun n => [Value.int .i64 n]).flatten = l.map i64
  | [] => rfl
  | a :: l => by
    rw [List.map_cons, List.flatten_cons, flat_i64 l]
    rfl
theorem flat_plV : ∀ l : List (Nat × Nat), ((l.map fun p => (near p.1, near p.2)).map fun p => [cx p.1 p.2]).flatten = l.map plV
  | [] => rfl
  | a :: l => by
    rw [List.map_cons, List.map_cons, List.flatten_cons, flat_plV l]
    rfl
theorem ints_own {w : World} {base : Nat} {v : Value} {l : List Int} (h : w.ownsRow base 3 1 v l.length (l.map i64)) : Ints w v l :=
  Sl.own _ (by intro y hy; obtain ⟨q, _, rfl⟩ := List.mem_map.1 hy; rfl) (by rw [List.length_map, flat_i64]; exact h)
theorem places_own {w : World} {base : Nat} {v : Value} {l : List (Nat × Nat)} (h : w.ownsRow base 71 1 v l.length (l.map plV)) : Places w v (l.map fun p => (near p.1, near p.2)) :=
  Sl.own _ (by intro y hy; obtain ⟨q, _, rfl⟩ := List.mem_map.1 hy; rfl) (by rw [List.length_map, List.length_map, flat_plV]; exact h)

set_option maxHeartbeats 16000000 in
set_option maxRecDepth 100000 in
theorem room_one {O : Nat → Prop} {B : Nat} {w : World} {T : StV} (h : StR O B w T) (A : Option Addr) (c1 : Nat) (p : Pair) (h1 : Pairs w (.slice A 1 c1) [p]) (a0 : Option Nat) (ha0 : T.H.op = atV a0) (haS : ∀ k, a0 = some k → k < T.H.S) (e0 : Nat) (he0 : ∀ k, a0 = some k → T.H.el[k]? = some e0) (hn0 : a0 = none → e0 = 0) (he : e0 ≤ T.H.Z)
    (y : List (Nat × Nat) × Nat) (hgo : planGo T.H.Z [sizeP p] (seenL T.H T.N T.H.S) a0 e0 0 [] = some y) (hbl : y.2 + 2 ≤ (idx canBlank 0 (seenL T.H T.N T.H.S)).length) :
    Calls Tryz.prog 43 #[T.ptr, .slice A 1 c1] w fun e w' => ∃ v, e = .returned (.tuple #[v, i64 0]) ∧ w'.ownsRow w.heap.size 71 1 v y.1.length (y.1.map plV) ∧ Below w.heap.size w w' := by
  have hgeo := h.sh.dev.geoI
  have hS64 := h.sh.sh.S64
  have hpos : 0 < T.H.S := by rw [h.sh.S]; omega
  have hZ8 : 8 ≤ T.H.Z := by rw [h.sh.Z]; omega
  have hlen : (seenL T.H T.N T.H.S).length = T.H.S := by rw [seenL_len, h.sh.sh.il]
  have kS : IntKind.i64.wrap (4 * (T.N.S : Int)) = 4 * (T.N.S : Int) := by rw [IntKind.wrap_i64, ← h.sh.S]; omega
  have S1 := fun W (hb : Below w.heap.size w W) => Lib.hid (sizes_any A c1 [p] W (Sl.below h1 hb) (by simp))
  have P1 := fun W (hb : Below w.heap.size w W) A1 m cap (hy : Ints W (.slice A1 m cap) [sizeP p]) => Lib.hid (plan_any (h.sh.dev.below hb) (h.sh.sh.below hb) h.sh.D hpos a0 ha0 haS e0 he0 hn0 he hZ8 A1 m cap [sizeP p] hy (by simp))
  rw [hgo] at P1
  have I1 := fun W (hb : Below w.heap.size w W) => Lib.hid (infos_any (h.sh.dev.below hb) (h.sh.sh.below hb) h.sh.D hpos)
  have B1 := fun W A1 m cap (hy : Infos W (.slice A1 m cap) (seenL T.H T.N T.H.S)) => Lib.hid (Blank_any A1 m cap (seenL T.H T.N T.H.S) W hy (by rw [hlen]; omega))
  have HLN := Lib.hid hlen
  have HY := Lib.hid hbl
  have hbs := h.lt
  have c1' : w.cell? ⟨T.TB, 1, none⟩ = some (i64 T.N.S) := cell_blk h.box 1
  have c3' : w.cell? ⟨T.TB, 3, none⟩ = some T.H.ptr := cell_blk h.box 3
  clear h h1 hgo hlen hbl ha0 haS he0 hn0 he hgeo
  go_enter Tryz.func43, Tryz.ntmps43
  go_wp2_with fail
  go_loopw [7] (fun v wr => v = i64 0 ∧ wr = w) (fun _ _ => 0)
  case atStart => exact ⟨rfl, rfl⟩
  case round =>
    obtain ⟨rfl, rfl⟩ := hrel
    have q3 := fun p : OnOf wr => on_cell hbs c3' p
    go_wp2_with fail
    refine wp_region_po (fun w' => ∃ p : OnOf wr, w' = p.v) 14 [5, 6] (by kernel_rfl) (by kernel_rfl) ⟨⟨_, Base.dr (Below.refl _ _)⟩, rfl⟩ ?_
    simp only [List.take_succ_cons, List.take_zero, List.drop_succ_cons, List.drop_zero]
    have on0 := @on_rd0; have on1 := @on_rd1; have on2 := @on_rd2; have on3 := @on_new1; have on4 := @on_new2; have on5 := @gr_rd0
    repeat ((with_reducible refine seq_read ?_ ?_); (focus rfl); (intro K hK); (unfold readsAt); go_simp; first | ((with_reducible refine hK _ ?_); clear hK K) | (rw [if_neg (by intro h; cases h)]; (with_reducible refine hK _ ?_); clear hK K))
    refine seq_eff (by rfl) (by first | rfl | go_simp) ?_
    intro K hK
    unfold effAt2
    go_simp
    refine ⟨rfl, (S1 _ (Base.dr (Below.refl _ _))).out.mono ?_⟩; rintro e x1 ⟨v, rfl, hown, hb1⟩
    have hb2 := Base.tr (Base.dr (Below.refl _ wr)) hb1
    obtain ⟨A2, c2, rfl⟩ : ∃ A c, v = .slice A 1 c := by
      rcases hown.2 with ⟨_, h2⟩ | ⟨g', c', _, h1, _⟩
      · cases h2
      · exact ⟨_, _, h1⟩
    have hi1 : Ints x1 (.slice A2 1 c2) [sizeP p] := ints_own hown
    refine ⟨_, rfl, ⟨⟨_, hb2⟩, rfl⟩, hK _ _ ?_⟩
    clear hK K
    repeat ((with_reducible refine seq_read ?_ ?_); (focus rfl); (intro K hK); (unfold readsAt); go_simp; first | ((with_reducible refine hK _ ?_); clear hK K) | (rw [if_neg (by intro h; cases h)]; (with_reducible refine hK _ ?_); clear hK K))
    refine seq_eff (by rfl) (by first | rfl | go_simp) ?_
    intro K hK
    unfold effAt2
    go_simp
    refine ⟨rfl, (P1 _ hb2 A2 1 c2 hi1).out.mono ?_⟩; rintro e x2 ⟨v2, k2, b2, rfl, hb3, hown2, rfl, rfl⟩
    have hb4 := Base.tr hb2 hb3
    refine ⟨_, rfl, ⟨⟨_, hb4⟩, rfl⟩, hK _ _ ?_⟩
    clear hK K
    repeat ((with_reducible refine seq_read ?_ ?_); (focus rfl); (intro K hK); (unfold readsAt); go_simp; first | ((with_reducible refine hK _ ?_); clear hK K) | (rw [if_neg (by intro h; cases h)]; (with_reducible refine hK _ ?_); clear hK K))
    clear on0 on1 on2 on3 on4 on5
    with_reducible refine seq_nil ?_
    have HO2 := Lib.hid hown2
    have z12 := hb2.size
    have c3x : x2.cell? ⟨T.TB, 3, none⟩ = some T.H.ptr := (hb4.cell (p := ⟨T.TB, 3, none⟩) hbs).trans c3'
    have hbx := Nat.lt_of_lt_of_le hbs hb4.size
    have q3x := fun p : OnOf x2 => on_cell hbx c3x p
    obtain ⟨L, hL⟩ : ∃ L, (idx canBlank 0 (seenL T.H T.N T.H.S)).length = L := ⟨_, rfl⟩
    have hy1 := HY.out
    rw [hL] at hy1 B1
    have hL2 : L ≤ 1000 := by
      have := idx_len canBlank (seenL T.H T.N T.H.S) 0
      have := HLN.out
      omega
    have kd : IntKind.i64.wrap ((L : Int) - (y.2 : Int)) = (L : Int) - (y.2 : Int) := by rw [IntKind.wrap_i64]; omega
    have td : decide ((2 : Int) ≤ (L : Int) - (y.2 : Int)) = true := decide_eq_true (by omega)
    clear q3 hown hown2 hi1 hb1 hb2 hb3 hy1 hL
    go_wp2_with fail
    refine (I1 _ hb4).out.mono ?_; rintro e x3 ⟨v3, rfl, hown3, hb5⟩
    obtain ⟨A3, n3, c3, rfl⟩ : ∃ A n c, v3 = .slice A n c := by
      rcases hown3.2 with ⟨h1, _⟩ | ⟨g', c', _, h1, _⟩
      · exact ⟨_, _, _, h1⟩
      · exact ⟨_, _, _, h1⟩
    have B3 := B1 x3 A3 n3 c3 (infos_own (by rw [HLN.out]; exact hown3))
    have hb6 := Base.tr hb4 hb5
    clear B1 hown3 c3x
    go_wp2_with fail
    refine B3.out.mono ?_; rintro e x4 ⟨rfl, hb7⟩
    have HO4 := Lib.hid (own_below (own_below HO2.out hb5) hb7)
    have hb8 := Base.tr hb6 hb7
    clear HO2 B3
    go_wp2_with fail
    go_ret2
    exact ⟨_, rfl, own_base HO4.out (by omega), hb8⟩
end Go.Proofs.YtnmeaminfoopmaaGreatDoor

/- (*Store).Put of one pair. -/
namespace Go.Proofs.YtnmeaminfoopmaaGreatDoor
open Go Go.RowKit Flo
attribute [local go_sem] run_store_complex

theorem far_lt {n g o m c : Nat} {T : Nat} (hT : T < n) (hg : n ≤ g) : Far (· = T) (.slice (some ⟨g, o, none⟩) m c) := by
  intro b off n' c' e hb
  injection e with e1 _ _
  injection e1 with e1
  injection e1 with e1 _ _
  have : b = T := hb
  omega

set_option maxHeartbeats 16000000 in
set_option maxRecDepth 100000 in
theorem put_one {O : Nat → Prop} {B : Nat} {w : World} {T : StV} (h : StR O B w T) (hon : T.N.off = false) (hof : T.offs = T.N.offs) (A : Option Addr) (c1 : Nat) (p : Pair) (h1 : Pairs w (.slice A 1 c1) [p]) (f1 : Far (· = T.TB) (.slice A 1 c1)) (hm0 : mayB (mayIt p) = true)
    (a0 : Option Nat) (hok : ShOk T.H a0) (e0 : Nat) (he0 : ∀ k, a0 = some k → T.H.el[k]? = some e0) (hn0 : a0 = none → e0 = 0) (he : e0 ≤ T.H.Z)
    (k o op : Nat) (hgo : planGo T.H.Z [sizeP p] (seenL T.H T.N T.H.S) a0 e0 0 [] = some ([(k, o)], op)) (hbl : op + 2 ≤ (idx canBlank 0 (seenL T.H T.N T.H.S)).length)
    (hmay : mayB (itOf T.seq p (near k) (near o)) = true) (hpl : Plain (itOf T.seq p (near k) (near o)) T.seq T.seq 0 1 k o)
    (hsq : T.seq < 1000000) (hlen : T.nts.length < 100000)
    (ha1 : T.N.acts ≤ 900000) (ha2 : T.N.offs ≤ 900000) (hcm : ∀ c, T.N.cut = some c → c.1 ≤ 9223372036854775807)
    (hbd : ∀ H' N', opensP T.N { T.H with op := -1 } = (0, H', N') → N'.acts ≤ 1000000 ∧ N'.offs ≤ 1000000 ∧ ∀ c, N'.cut = some c → c.1 ≤ 9223372036854775807)
    (qa qb : Nat) (H' : ShV) (N' : Nor) (hw : writeP T.N T.H a0 (frameB (recOf T.seq k o p)) T.seq = ((qa, qb), 0, H', N')) (s o' : Nat) (hqa : part? qa = some s) (hqb : part? qb = some o')
    (e1 : N'.D = T.N.D) (e2 : N'.S = T.N.S) (e3 : N'.Z = T.N.Z) (e4 : H'.SB = T.H.SB) (e5 : H'.LB = T.H.LB) (e6 : H'.EB = T.H.EB)
    (TQ : Option (Nat × ByteArray × ByteArray) → Prop)
    (HC : ∀ W T' nb, StR O B W T' → T'.nts = T.nts ++ [⟨nb, fndOf T.seq p (near k) (near o) qa qb k o, s, true⟩] → T'.nm = T.nm → T'.tr = T.tr →
      Calls Tryz.prog 67 #[T'.ptr, .pointer (some ⟨nb, 0, none⟩)] W fun e W' => e = .returned (.tuple #[]) ∧ ∃ tr', TQ tr' ∧ StR O B W' { T' with nm := mput T'.nm p.key (.pointer (some ⟨nb, 0, none⟩)), tr := tr' } ∧ Below B W W') :
    Calls Tryz.prog 11 #[T.ptr, .slice A 1 c1] w fun e w' => e = .returned (i64 0) ∧ ∃ nb nv tr', TQ tr' ∧
      StR O B w' { T with N := N', H := H', nv := nv, nts := T.nts ++ [⟨nb, fndOf T.seq p (near k) (near o) qa qb k o, s, true⟩], nm := mput T.nm p.key (.pointer (some ⟨nb, 0, none⟩)), tr := tr', seq := T.seq + 1 } ∧ Out (stQ O B T.H) w w' := by
  have GG := Lib.hid (stGone_any h hon hof)
  have GM := fun W (hb : Below w.heap.size w W) => Lib.hid (may_one A c1 p W (Sl.below h1 hb) hm0)
  have GR := fun W (hb : Below w.heap.size w W) => Lib.hid (room_one (h.below hb) A c1 p (Sl.below h1 hb) a0 hok.op hok.lt e0 he0 hn0 he ([(k, o)], op) hgo hbl)
  have GW := fun W (hb : Below w.heap.size w W) V C c2 c3 (h2 : U64s W (.slice V 1 c2) [(T.seq : Int)]) (h3 : Places W (.slice C 1 c3) [(near k, near o)]) (f2 : Far (· = T.TB) (.slice V 1 c2)) (f3 : Far (· = T.TB) (.slice C 1 c3)) =>
    Lib.hid (writes_one (h.below hb) A V C c1 c2 c3 p (near k) (near o) k o (Sl.below h1 hb) h2 h3 f1 f2 f3 hmay hpl hsq hlen a0 hok ha1 ha2 hcm hbd qa qb H' N' hw s o' hqa hqb e1 e2 e3 e4 e5 e6 TQ HC)
  have hlt := h.lt
  have c7 : w.cell? ⟨T.TB, 7, none⟩ = some (.int .u64 T.seq) := cell_blk h.box 7
  clear h hon hof h1 f1 hm0 hok he0 hn0 he hgo hbl hmay hpl hsq hlen ha1 ha2 hcm hbd hw hqa hqb e1 e2 e3 e4 e5 e6 HC
  go_enter Tryz.func11, Tryz.ntmps11
  go_wp2_with fail
  refine GG.out.mono ?_; rintro e w1 ⟨rfl, hb1⟩
  go_wp2_with fail
  refine (GM _ hb1).out.mono ?_; rintro e w2 ⟨rfl, hb2⟩
  have hb3 := Base.tr hb1 hb2
  go_wp2_with fail
  refine (GR _ hb3).out.mono ?_; rintro e w3 ⟨v, rfl, hown, hb4⟩
  have hb5 := Base.tr hb3 hb4
  obtain ⟨A3, c3, rfl⟩ : ∃ A c, v = .slice A 1 c := by
    rcases hown.2 with ⟨_, h2⟩ | ⟨g', c', _, h1, _⟩
    · cases h2
    · exact ⟨_, _, h1⟩
  have F3 : Far (· = T.TB) (.slice A3 1 c3) := by
    rcases hown.2 with ⟨_, h2⟩ | ⟨g', c', _, h1, hg', _⟩
    · cases h2
    · rw [h1]
      exact far_lt (Nat.lt_of_lt_of_le hlt hb3.size) hg'
  have P3 : Hid (Places w3 (.slice A3 1 c3) [(near k, near o)]) := Lib.hid (places_own (l := [(k, o)]) hown)
  have d7 : w3.cell? ⟨T.TB, 7, none⟩ = some (.int .u64 T.seq) := (hb5.cell (p := ⟨T.TB, 7, none⟩) hlt).trans c7
  have hl3 : T.TB < w3.heap.size := Nat.lt_of_lt_of_le hlt hb5.size
  clear hb1 hb2 hb3 hb4 hown c7 GG GM GR
  go_wp2_with fail
  have hn := blk_new w3 (.cells #[.int .u64 T.seq] 66)
  refine (repeat_one (cell_blk hn 0) (by simp)).mono ?_; rintro e w4 ⟨g, rfl, hu, hg, hb6⟩
  have hb7 := Base.al hb5 (.cells #[.int .u64 T.seq] 66)
  have hb8 := Base.tr hb7 hb6
  go_wp2_with fail
  have hz9 := hb5.size
  have P4 : Places w4 (.slice A3 1 c3) [(near k, near o)] := Sl.below (Sl.below P3.out (Base.al (Below.refl _ _) _)) hb6
  refine (GW w4 hb8 (some ⟨g, 0, none⟩) A3 1 c3 hu P4 (far_lt (n := w3.heap.size) hl3 (by simp at hg; omega)) F3).out.mono ?_; rintro e w5 ⟨rfl, nb, nv, tr', hq, hS, hO⟩
  have HX : Hid (∃ nb nv tr', TQ tr' ∧ StR O B w5 { T with N := N', H := H', nv := nv, nts := T.nts ++ [⟨nb, fndOf T.seq p (near k) (near o) qa qb k o, s, true⟩], nm := mput T.nm p.key (.pointer (some ⟨nb, 0, none⟩)), tr := tr', seq := T.seq + 1 } ∧ Out (stQ O B T.H) w w5) :=
    Lib.hid ⟨nb, nv, tr', hq, hS, (Out.of_below hb8).trans hO⟩
  clear hq hS hO GW hu hb6 hb7 hb8 hn P3 P4
  go_wp2_with fail
  go_ret
  exact ⟨rfl, HX.out⟩
end Go.Proofs.YtnmeaminfoopmaaGreatDoor

