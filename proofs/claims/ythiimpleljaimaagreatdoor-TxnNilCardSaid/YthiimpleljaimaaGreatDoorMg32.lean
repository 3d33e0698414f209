/- store.may on a list of pairs with keys of their own. -/
import Derived.Test.YthiimpleljaimaaGreatDoorMg21
import Derived.Test.YthiimpleljaimaaGreatDoorMg31
namespace Go.Proofs.YthiimpleljaimaaGreatDoor
open Go Go.RowKit Flo
attribute [local go_sem] run_store_complex

def kmGo (l : List Pair) : Nat → List (ByteArray × Value)
  | 0 => []
  | k + 1 => mput (kmGo l k) (l.getD k default).key (i64 1)
theorem kmGo_nodup (l : List Pair) : ∀ k, ((kmGo l k).map Prod.fst).Nodup
  | 0 => by simp [kmGo]
  | k + 1 => mput_nodup (kmGo_nodup l k) _ _
theorem kmGo_none (l : List Pair) (key : ByteArray) : ∀ k, (∀ i, i < k → (l.getD i default).key ≠ key) → mget (kmGo l k) key = none
  | 0, _ => rfl
  | k + 1, h => by
    show mget (mput _ _ _) key = none
    rw [mget_mput (kmGo_nodup l k), if_neg (fun e => h k (Nat.lt_succ_self k) e.symm)]
    exact kmGo_none l key k (fun i hi => h i (by omega))

set_option maxHeartbeats 8000000 in
set_option maxRecDepth 100000 in
theorem may_list (A : Option Addr) (c1 : Nat) (l : List Pair) (w : World) (h1 : Pairs w (.slice A l.length c1) l) (hm : ∀ k, k < l.length → mayB (mayIt (l.getD k default)) = true) (hpos : 0 < l.length) (hfew : l.length ≤ 255) (hnd : ∀ i k, i < k → k < l.length → (l.getD i default).key ≠ (l.getD k default).key) :
    Makes 97 #[.slice A l.length c1] w (.bool true) := by
  have K := keys_string (P := Tryz.prog) (k := 9) Tryz.underlying9
  have hmm := fun W => @run_makeMap Tryz.prog 243 W
  obtain ⟨n, hn⟩ : ∃ n, l.length = n := ⟨_, rfl⟩
  have HM := Lib.hid hm
  have HND := Lib.hid hnd
  have HN := Lib.hid hn
  rw [hn] at h1 hpos hfew
  rw [hn]
  have t0 : ((n : Int) == 0) = false := by rw [beq_eq_false_iff_ne]; omega
  have t1 : decide ((255 : Int) < (n : Int)) = false := decide_eq_false (by omega)
  have H1 := Lib.hid h1
  clear hm hnd hn h1
  go_enter Tryz.func97, Tryz.ntmps97
  go_wp2_with fail
  go_loopw [17] (fun i wr => ∃ k : Nat, k ≤ n ∧ i = .int .i64 k ∧ Hid (MapR Value.string wr w.heap.size (kmGo l k)) ∧ Below w.heap.size w wr) (fun i _ => n - (intOf i).toNat)
  case atStart => exact ⟨0, Nat.zero_le _, rfl, Lib.hid (MapR.made _ _), Base.al (Below.refl _ _) _⟩
  case round =>
    obtain ⟨k, hk, rfl, hmp, hb⟩ := hrel
    have kwk : IntKind.i64.wrap ((k : Int) + 1) = (k : Int) + 1 := by rw [IntKind.wrap_i64]; omega
    by_cases hlt : k < n
    · have hkI : (k : Int) < (n : Int) := by omega
      have g := may_any (mayIt (l.getD k default))
      rw [HM.out k (by rw [HN.out]; exact hlt)] at g
      have hnone : mget (kmGo l k) (l.getD k default).key = none := kmGo_none l _ k (fun i hi => HND.out i k hi (by rw [HN.out]; exact hlt))
      obtain ⟨a1, o1, rfl, b1, p1⟩ := Pairs.cell H1.out (by rw [HN.out]; exact hpos)
      obtain ⟨u0, u1, u2⟩ := p1 k (by rw [HN.out]; exact hlt)
      obtain ⟨p, hp⟩ : ∃ p, l.getD k default = p := ⟨_, rfl⟩
      have hnext : kmGo l (k + 1) = mput (kmGo l k) p.key (i64 1) := by rw [← hp]; rfl
      rw [hp] at g hnone u0 u1 u2
      have HX := Lib.hid hnext
      obtain ⟨pk, vv, gg⟩ := p
      have G := fun W => Lib.hid (g W)
      clear g p1 hp hnext
      have hm0 := hmp.out
      have hwr := hm0.lt
      have q0 : wr.cell? ⟨a1, o1 + k * 3, none⟩ = some (.string pk) := (hb.cell (p := ⟨a1, o1 + k * 3, none⟩) b1).trans u0
      have q1 : wr.cell? ⟨a1, o1 + k * 3 + 1, none⟩ = some (.string vv) := (hb.cell (p := ⟨a1, o1 + k * 3 + 1, none⟩) b1).trans u1
      have q2 : wr.cell? ⟨a1, o1 + k * 3 + 2, none⟩ = some (.bool gg) := (hb.cell (p := ⟨a1, o1 + k * 3 + 2, none⟩) b1).trans u2
      have hlk := (hm0.alloc (.cells #[.string pk, .string vv, .bool gg] 71)).lookup K Tryz.underlying243 (zero_int _) pk false
      have hm1 := hm0.alloc (.cells #[.string pk, .string vv, .bool gg] 71)
      simp only at hnone
      simp only [hnone, Option.getD_none, Bool.false_eq_true, if_false] at hlk
      have hgm : (mget (mput (kmGo l k) pk (i64 1)) pk).getD (i64 0) = i64 1 := by rw [mget_mput (kmGo_nodup l k), if_pos rfl]; rfl
      have HGM := Lib.hid hgm
      generalize kmGo l k = kl at *
      clear hmp hm0 hgm hnone u0 u1 u2
      have bx0 := blk_new wr (.cells #[.string pk, .string vv, .bool gg] 71)
      have hlt0 : wr.heap.size < (wr.alloc (.cells #[.string pk, .string vv, .bool gg] 71)).heap.size := by simp
      have hne0 : some wr.heap.size ≠ some w.heap.size := by intro e; injection e with e; omega
      go_wp2_with (refine wpList_update_R rfl 243 _ _ _ rfl 9 3 K Tryz.underlying243 rfl pk rfl (i64 1) rfl hm1 ?_; intro w3 hm5 hg5 hs5; (have hlk3 := hm5.lookup K Tryz.underlying243 (zero_int _) pk false); (have bx := (hg5.block _ hlt0 hne0).trans bx0); (have d0 : w3.cell? ⟨wr.heap.size, 0, none⟩ = some (.string pk) := cell_blk bx 0); (have d1 : w3.cell? ⟨wr.heap.size, 1, none⟩ = some (.string vv) := cell_blk bx 1); (have d2 : w3.cell? ⟨wr.heap.size, 2, none⟩ = some (.bool gg) := cell_blk bx 2); simp only [HGM.out, Bool.false_eq_true, if_false] at hlk3; have HM5 := Lib.hid hm5; have B3 := Lib.hid (Base.gr (Base.al hb (.cells #[.string pk, .string vv, .bool gg] 71)) hg5 (fun g hg => by (injection hg with hg; omega))); clear bx hg5 hm5 hs5)
      refine (G _).out.mono ?_; rintro e x1 ⟨rfl, hx⟩
      have hb9 := Base.tr B3.out hx
      have HM6 : Hid (MapR Value.string x1 w.heap.size (kmGo l (k + 1))) := Lib.hid (by rw [HX.out]; exact HM5.out.below hx)
      clear d0 d1 d2 hlk3 hx HM5
      go_wp2_with fail
      exact ⟨⟨k + 1, by omega, by go_num, HM6, hb9⟩, by simp [intOf]; omega⟩
    · obtain rfl : k = n := by omega
      clear hmp
      go_wp2_with fail
      go_ret
      exact ⟨rfl, hb⟩
end Go.Proofs.YthiimpleljaimaaGreatDoor

/- slices.Repeat of one number, any number of times; room for a list of pairs. -/
namespace Go.Proofs.YthiimpleljaimaaGreatDoor
open Go Go.RowKit Flo

theorem made_zero (i : Nat) (v : Value) (hv : v.cells = #[v]) : madeCells v.cells i = (List.replicate i v).toArray := by
  rw [hv]
  unfold madeCells
  apply Array.ext'
  simp
  rw [List.eq_replicate_iff]
  refine ⟨by simp, fun b hb => ?_⟩
  obtain ⟨x, _, rfl⟩ := List.mem_map.1 hb
  rw [Nat.mod_one]
  rfl
theorem u64s_row {w : World} {g n c : Nat} {v : Int} {t : TypeId} {fr : Nat × Nat} (h : w.heap[g]? = some (.cells (List.replicate n (Value.int .u64 v)).toArray t fr)) (hn : n ≤ c) (hc : c ≤ maxLen) : U64s w (.slice (some ⟨g, 0, none⟩) n c) (List.replicate n v) := by
  refine ⟨some ⟨g, 0, none⟩, c, by simp, by simpa using hn, hc, (fun h => by cases h), fun _ => ⟨g, 0, rfl, (Array.getElem?_eq_some_iff.1 h).1, fun i x hx => ?_⟩⟩
  rw [List.getElem?_map] at hx
  obtain ⟨y, hy, rfl⟩ := Option.map_eq_some_iff.1 hx
  rw [List.getElem?_replicate] at hy
  split at hy
  · rename_i hi
    injection hy with hy
    subst hy
    refine ⟨rfl, fun j u hj => ?_⟩
    cases j with
    | zero =>
      injection hj with hj
      subst hj
      have := cell_blk h i
      rw [List.getElem?_toArray, List.getElem?_replicate, if_pos hi] at this
      simpa using this
    | succ j => cases hj
  · cases hy

set_option maxHeartbeats 4000000 in
set_option maxRecDepth 100000 in
theorem repeat_n {w : World} {b n : Nat} {x : Int} (hb : w.cell? ⟨b, 0, none⟩ = some (.int .u64 x)) (h1 : 1 ≤ n) (h2 : n ≤ 8192) :
    Calls Tryz.prog 100 #[.slice (some ⟨b, 0, none⟩) 1 1, i64 n] w fun e w' => ∃ g, e = .returned (.slice (some ⟨g, 0, none⟩) n n) ∧ U64s w' (.slice (some ⟨g, 0, none⟩) n n) (List.replicate n x) ∧ w.heap.size ≤ g ∧ Below w.heap.size w w' := by
  have g0 := fun W => Lib.hid (mul_any n W (by omega))
  obtain ⟨i0, hi, hz0, hz1, hz2⟩ := info_parts info_u64S
  have hmk := fun W => run_make (P := Tryz.prog) W 207 47 i0 _ Tryz.underlying207 hi hz0 .i64 .i64 (n : Int) (n : Int) (by omega) (Int.le_refl _) (by rw [hz2]; omega) (by omega)
  have hz : madeCells (Value.int IntKind.u64 0).cells (n * i0.size) = (List.replicate n (Value.int .u64 0)).toArray := by rw [hz1, Nat.mul_one]; exact made_zero n _ rfl
  simp only [Int.toNat_natCast, hz] at hmk
  have hinfo : (Tryz.prog.info? 47).map (·.size) = some 1 := by rw [hi]; exact congrArg some hz1
  have hblt : b < w.heap.size := by
    unfold World.cell? at hb
    cases hx : w.heap[b]? with
    | none => rw [hx] at hb; simp at hb
    | some o => exact (Array.getElem?_eq_some_iff.1 hx).1
  -- the row, so far
  obtain ⟨R, hR⟩ : ∃ R : Nat → List Value, ∀ q, R q = List.replicate q (Value.int .u64 x) ++ (List.replicate n (Value.int .u64 0)).drop q := ⟨_, fun _ => rfl⟩
  have hRl : ∀ q, q ≤ n → (R q).length = n := by intro q hq; rw [hR]; simp; omega
  have cp : ∀ (mm q src ln : Nat) (sb : Nat) (sc : Nat), q + ln ≤ n → ln ≤ src → (∀ j, j < ln → (((w.alloc (.cells (R q).toArray 47)).drewN mm).cell? ((⟨sb, 0, none⟩ : Addr).add j) = some (Value.int .u64 x))) → (n - q ≤ ln ∨ src ≤ ln) →
      (Builtin.copy_ #[207, 207] 3 #[.slice (some ⟨w.heap.size, q, none⟩) (n - q) (n - q), .slice (some ⟨sb, 0, none⟩) src sc]).run Tryz.prog ((w.alloc (.cells (R q).toArray 47)).drewN mm) = .ok (goInt ln) ((w.alloc (.cells (R (q + ln)).toArray 47)).drewN mm) := by
    intro mm q src ln sb sc h3 h4 h5 h6
    have := run_copy_row (P := Tryz.prog) ((w.alloc (.cells (R q).toArray 47)).drewN mm) 207 207 3 47 w.heap.size q (n - q) (n - q) ⟨sb, 0, none⟩ src sc _ _ (List.replicate ln (Value.int .u64 x)) Tryz.underlying207 hinfo (blk_new w _) (by rw [List.length_replicate]; show ln = min src (n - q); omega)
      (fun j v hj => by
        have hjl := (List.getElem?_eq_some_iff.1 hj).1
        rw [List.length_replicate] at hjl
        rw [List.getElem?_replicate, if_pos hjl] at hj
        injection hj with hj
        rw [← hj]
        exact h5 j hjl) (by simp; rw [hRl q (by omega)]; omega) (by intro v hv; rw [(List.mem_replicate.1 hv).2]; rfl)
    rw [this, List.length_replicate]
    congr 1
    show ((w.alloc (.cells (R q).toArray 47)).setRow w.heap.size _).drewN mm = _
    rw [World.setRow_alloc_new]
    congr 4
    simp only [hR]
    rw [List.take_left' (by simp), List.drop_append, List.length_replicate]
    have e1 : (List.replicate q (Value.int .u64 x)).drop (q + ln) = [] := List.drop_eq_nil_of_le (by simp)
    rw [e1, List.nil_append, List.drop_drop, ← List.replicate_append_replicate]
    congr 2
    omega
  have hR0 : (List.replicate n (Value.int .u64 0)).toArray = (R 0).toArray := by rw [hR]; simp
  simp only [hR0] at hmk
  have hcp0 := cp 0 0 1 1 b 1 (by omega) (by omega) (fun j hj => by
    obtain rfl : j = 0 := by omega
    have := World.cell?_alloc_lt w (.cells (R 0).toArray 47) ⟨b, 0, none⟩ hblt
    rw [show (((w.alloc (.cells (R 0).toArray 47)).drewN 0).cell? ((⟨b, 0, none⟩ : Addr).add 0)) = (w.alloc (.cells (R 0).toArray 47)).cell? ⟨b, 0, none⟩ from rfl, this]
    exact hb) (.inr (Nat.le_refl _))
  rw [Nat.sub_zero, Nat.zero_add, World.drewN_zero, World.drewN_zero] at hcp0
  have HRn := Lib.hid (hR n)
  have HR := Lib.hid hR
  have CP := Lib.hid cp
  clear hR hR0 hRl cp hz hz0 hz1 hz2 hi hinfo
  go_enter Tryz.func100, Tryz.ntmps100
  go_wp2_with fail
  refine (g0 _).out.mono ?_; rintro e x1 ⟨rfl, rfl⟩
  go_wp2_with fail
  go_loopw [8] (fun i wr => ∃ q m : Nat, 1 ≤ q ∧ q ≤ n ∧ i = .int .i64 q ∧ wr = (x1.alloc (.cells (R q).toArray 47)).drewN m) (fun i _ => n - (intOf i).toNat)
  case atStart => exact ⟨1, 0, Nat.le_refl _, h1, rfl, rfl⟩
  case round =>
    obtain ⟨q, m, hq1, hq, rfl, rfl⟩ := hrel
    by_cases hlt : q < n
    · have hcp := CP.out (m + 1) q q (min q (n - q)) x1.heap.size n (by omega) (by omega) (fun j hj => by
        rw [Addr.add_lit, Nat.zero_add]
        have := cell_blk (blk_new x1 (.cells (R q).toArray 47)) j
        rw [show ((x1.alloc (.cells (R q).toArray 47)).drewN (m + 1)).cell? ⟨x1.heap.size, j, none⟩ = (x1.alloc (.cells (R q).toArray 47)).cell? ⟨x1.heap.size, j, none⟩ from rfl, this]
        rw [HR.out q]
        rw [List.getElem?_toArray, List.getElem?_append_left (by rw [List.length_replicate]; omega), List.getElem?_replicate, if_pos (by omega)]) (by omega)
      have t1 : (q : Int) < (n : Int) := by omega
      have t2 : ¬ n = q := by omega
      have hgr : ((x1.alloc (.cells (R q).toArray 47)).drewN m).grownBy ((x1.alloc (.cells (R (q + min q (n - q))).toArray 47)).drewN (m + 1)) (some x1.heap.size) := by
        refine ⟨rfl, rfl, rfl, by simp, fun k hk hn => ?_⟩
        have hk' : k < x1.heap.size := by
          have h1 : ((x1.alloc (.cells (R q).toArray 47)).drewN m).heap.size = x1.heap.size + 1 := by simp
          have h2 : k ≠ x1.heap.size := fun e => hn (by rw [e])
          omega
        exact (heap_old x1 _ hk').trans (heap_old x1 _ hk').symm
      have hnx : q + min q (n - q) ≤ n := by omega
      have hnq : 1 ≤ min q (n - q) := by omega
      generalize min q (n - q) = r at *
      clear CP HR HRn hb hmk hcp0 g0
      go_wp2_with fail
      refine wp_region_ph (D := fun w' => ∃ p : GrOf _ (some x1.heap.size), w' = p.v) 8 [7] (by kernel_rfl) (by kernel_rfl) ⟨⟨_, grown_dr (grown_same _ _)⟩, rfl⟩ ?_
      simp only [List.take_succ_cons, List.take_zero, List.drop_succ_cons, List.drop_zero]
      have on0 := @on_rd0; have on1 := @on_rd1; have on2 := @on_rd2; have on3 := @on_new1; have on4 := @on_new2; have on5 := @gr_rd0
      repeat ((with_reducible refine head_quiet ?_ ?_); (focus rfl); (intro K hK); go_simp; first | ((with_reducible refine hK _ ?_); clear hK K) | (rw [if_neg (by intro h; cases h)]; (with_reducible refine hK _ ?_); clear hK K) | (apply Exists.intro; refine ⟨fun _ => ?_, hK _ ?_⟩; (fail); clear hK K))
      refine head_run (by rfl) rfl (goInt r) ((x1.alloc (.cells (R (q + r)).toArray 47)).drewN (m + 1)) ?_ ⟨⟨_, hgr⟩, rfl⟩ ?_
      · go_simp
      clear on0 on1 on2 on3 on4 on5
      with_reducible refine head_nil ?_
      with_reducible refine eq_intro ?_
      go_wp2_with fail
      exact ⟨⟨q + r, m + 1, by omega, hnx, by push_cast; rfl, rfl⟩, by simp [intOf]; omega⟩
    · obtain rfl : q = n := by omega
      go_wp2_with fail
      go_ret
      have hrow : ((x1.alloc (.cells (R q).toArray 47)).drewN m).heap[x1.heap.size]? = some (.cells (List.replicate q (Value.int .u64 x)).toArray 47 (0, 0)) := by
        have : R q = List.replicate q (Value.int .u64 x) := by rw [HRn.out, List.drop_eq_nil_of_le (by simp), List.append_nil]
        rw [this]
        exact blk_new x1 _
      exact ⟨_, rfl, u64s_row hrow (Nat.le_refl _) (by unfold maxLen; omega), Nat.le_refl _, Base.dn (Base.al (Below.refl _ _) _) m⟩
end Go.Proofs.YthiimpleljaimaaGreatDoor

/- (*Store).Put of new pairs. -/
namespace Go.Proofs.YthiimpleljaimaaGreatDoor
open Go Go.RowKit Flo
attribute [local go_sem] run_store_complex

theorem far_lt {n g o m c : Nat} {T : Nat} (hT : T < n) (hg : n ≤ g) : Far (· = T) (.slice (some ⟨g, o, none⟩) m c) := by
  intro b off n' c' e hb
  injection e with e1 _ _
  injection e1 with e1
  injection e1 with e1 _ _
  have : b = T := hb
  omega

set_option maxHeartbeats 16000000 in
set_option maxRecDepth 100000 in
theorem put_new {O : Nat → Prop} {B : Nat} {w : World} {T : StV} (h : StR O B w T) (hon : T.N.off = false) (hof : T.offs = T.N.offs) (A : Option Addr) (c1 : Nat) (l : List Pair) (h1 : Pairs w (.slice A l.length c1) l) (f1 : Far (· = T.TB) (.slice A l.length c1)) (hm0 : ∀ k, k < l.length → mayB (mayIt (l.getD k default)) = true)
    (a0 : Option Nat) (hok : ShOk T.H a0) (e0 : Nat) (he0 : ∀ k, a0 = some k → T.H.el[k]? = some e0) (hn0 : a0 = none → e0 = 0) (he : e0 ≤ T.H.Z)
    (y : List (Nat × Nat) × Nat) (hgo : planGo T.H.Z (sizesL l) (seenL T.H T.N T.H.S) a0 e0 0 [] = some y) (hbl : y.2 + 2 ≤ (idx canBlank 0 (seenL T.H T.N T.H.S)).length)
    (rec : Nat → List Nat) (st : Nat → WSt) (hW : WNew T l (List.replicate l.length (T.seq : Int)) (y.1.map fun p => (near p.1, near p.2)) rec st) :
    Calls Tryz.prog 67 #[T.ptr, .slice A l.length c1] w fun e w' => e = .returned (i64 0) ∧ ∃ bf nv trv,
      StR O B w' { T with N := (st l.length).N, H := (st l.length).H, nv := nv, nts := T.nts ++ ntsGo (linkItem T.seq l (List.replicate l.length (T.seq : Int)) (y.1.map fun p => (near p.1, near p.2))) rec st bf l.length l.length, nm := nmGo (linkItem T.seq l (List.replicate l.length (T.seq : Int)) (y.1.map fun p => (near p.1, near p.2))) bf T.nm l.length, trv := trv, t := trGo (linkItem T.seq l (List.replicate l.length (T.seq : Int)) (y.1.map fun p => (near p.1, near p.2))) T.t l.length, seq := T.seq + 1 } ∧
      OwnGrow T { T with N := (st l.length).N, H := (st l.length).H, nv := nv, nts := T.nts ++ ntsGo (linkItem T.seq l (List.replicate l.length (T.seq : Int)) (y.1.map fun p => (near p.1, near p.2))) rec st bf l.length l.length, nm := nmGo (linkItem T.seq l (List.replicate l.length (T.seq : Int)) (y.1.map fun p => (near p.1, near p.2))) bf T.nm l.length, trv := trv, t := trGo (linkItem T.seq l (List.replicate l.length (T.seq : Int)) (y.1.map fun p => (near p.1, near p.2))) T.t l.length, seq := T.seq + 1 } w.heap.size ∧ Out (stO O T) w w' := by
  have hpos : 0 < l.length := Nat.pos_of_ne_zero hW.ok.1
  have hfew := hW.few
  have GG := Lib.hid (stGone_any h hon hof)
  have GM := fun W (hb : Below w.heap.size w W) => Lib.hid (may_list A c1 l W (Sl.below h1 hb) hm0 hpos hfew hW.apart)
  have GR := fun W (hb : Below w.heap.size w W) => Lib.hid (room_list (h.below hb) A c1 l (Sl.below h1 hb) hfew a0 hok.op hok.lt e0 he0 hn0 he y hgo hbl)
  have GW := fun W (hb : Below w.heap.size w W) V C c2 c3 (h2 : U64s W (.slice V (List.replicate l.length (T.seq : Int)).length c2) (List.replicate l.length (T.seq : Int))) (h3 : Places W (.slice C (y.1.map fun p => (near p.1, near p.2)).length c3) (y.1.map fun p => (near p.1, near p.2))) (f2 : Far (· = T.TB) (.slice V (List.replicate l.length (T.seq : Int)).length c2)) (f3 : Far (· = T.TB) (.slice C (y.1.map fun p => (near p.1, near p.2)).length c3)) =>
    Lib.hid (writes_new (h.below hb) A V C c1 c2 c3 l (List.replicate l.length (T.seq : Int)) (y.1.map fun p => (near p.1, near p.2)) rec st hW (Sl.below h1 hb) h2 h3 f1 f2 f3)
  have hyl : y.1.length = l.length := by
    have := hW.ok.2.2.1
    rw [List.length_map] at this
    exact this
  have e1 : (List.replicate l.length (T.seq : Int)).length = l.length := List.length_replicate
  have e2 : (y.1.map fun p => (near p.1, near p.2)).length = l.length := by rw [List.length_map, hyl]
  simp only [e1, e2] at GW
  generalize linkItem T.seq l (List.replicate l.length (T.seq : Int)) (y.1.map fun p => (near p.1, near p.2)) = items at *
  have hlt := h.lt
  have c7 : w.cell? ⟨T.TB, 7, none⟩ = some (.int .u64 T.seq) := cell_blk h.box 7
  have HYL := Lib.hid hyl
  clear h hon hof h1 f1 hm0 hok he0 hn0 he hgo hbl hW e1 e2 hyl
  generalize l.length = n at *
  go_enter Tryz.func67, Tryz.ntmps67
  go_wp2_with fail
  refine GG.out.mono ?_; rintro e w1 ⟨rfl, hb1⟩
  go_wp2_with fail
  refine (GM _ hb1).out.mono ?_; rintro e w2 ⟨rfl, hb2⟩
  have hb3 := Base.tr hb1 hb2
  go_wp2_with fail
  refine (GR _ hb3).out.mono ?_; rintro e w3 ⟨v, rfl, hown, hb4⟩
  have hb5 := Base.tr hb3 hb4
  rw [HYL.out] at hown
  obtain ⟨g3, c3, rfl, hg3⟩ : ∃ g c, v = .slice (some ⟨g, 0, none⟩) n c ∧ w2.heap.size ≤ g := by
    rcases hown.2 with ⟨_, h2⟩ | ⟨g', c', _, h1, hg, _⟩
    · omega
    · exact ⟨_, _, h1, hg⟩
  have F3 : Far (· = T.TB) (.slice (some ⟨g3, 0, none⟩) n c3) := far_lt (Nat.lt_of_lt_of_le hlt hb3.size) hg3
  have P3 : Hid (Places w3 (.slice (some ⟨g3, 0, none⟩) n c3) (y.1.map fun p => (near p.1, near p.2))) := Lib.hid (places_own (by rw [HYL.out]; exact hown))
  have d7 : w3.cell? ⟨T.TB, 7, none⟩ = some (.int .u64 T.seq) := (hb5.cell (p := ⟨T.TB, 7, none⟩) hlt).trans c7
  have hl3 : T.TB < w3.heap.size := Nat.lt_of_lt_of_le hlt hb5.size
  have hz9 := hb5.size
  clear hb1 hb2 hb3 hb4 hown c7 GG GM GR
  go_wp2_with fail
  have hn := blk_new w3 (.cells #[.int .u64 T.seq] 47)
  refine (repeat_n (cell_blk hn 0) hpos (by omega)).mono ?_; rintro e w4 ⟨g, rfl, hu, hg, hb6⟩
  have hb7 := Base.al hb5 (.cells #[.int .u64 T.seq] 47)
  have hb8 := Base.tr hb7 hb6
  have P4 : Places w4 (.slice (some ⟨g3, 0, none⟩) n c3) (y.1.map fun p => (near p.1, near p.2)) := Sl.below (Sl.below P3.out (Base.al (Below.refl _ _) _)) hb6
  have F2 : Far (· = T.TB) (.slice (some ⟨g, 0, none⟩) n n) := far_lt (n := w3.heap.size) hl3 (by simp at hg; omega)
  have G9 := GW w4 hb8 (some ⟨g, 0, none⟩) (some ⟨g3, 0, none⟩) n c3 hu P4 F2 F3
  clear GW hu P3 P4 F2 F3 hn
  go_wp2_with fail
  refine G9.out.mono ?_; rintro e w5 ⟨rfl, bf, nv, trv, hS, hW5, hO⟩
  have HX := Lib.hid (And.intro hS (And.intro (show OwnGrow T _ w.heap.size from fun b hb => (hW5 b hb).imp id (fun h => Nat.le_trans hb8.size h)) ((Out.of_below (O := stO O T) hb8).trans hO)))
  clear hS hW5 hO G9
  go_wp2_with fail
  go_ret
  exact ⟨rfl, bf, nv, trv, HX.out.1, HX.out.2.1, HX.out.2.2⟩
end Go.Proofs.YthiimpleljaimaaGreatDoor

