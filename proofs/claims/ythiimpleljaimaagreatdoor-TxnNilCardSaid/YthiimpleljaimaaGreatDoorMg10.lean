/- An append on a row of one's own: the block it lies in behind it is the old one, or new. -/
import Derived.Test.YthiimpleljaimaaGreatDoorMg2
import Derived.Laws.OwnMore
import Derived.Lib.AppendStr
import Derived.Test.YthiimpleljaimaaGreatDoorMg5
import Derived.Lib.MakeNoZero
import Derived.Laws.Externs
import Derived.Laws.MathBits
import Derived.Laws.IdiomStrings
namespace Go.Proofs.YthiimpleljaimaaGreatDoor
open Go.RowKit

theorem append_block {P : Program} {w : World} (base : Nat) (t ty e : TypeId) (i : TypeInfo) (z : Value) (size bytes : Nat) (ht : P.underlying t = some (.slice e)) (hi : P.info? e = some i) (hz : i.zero = some z)
    (hsize : i.size = size) (hby : i.bytes = bytes)
    (v : Value) (n : Nat) (xs : List Value) (hown : w.ownsRow base e size v n xs)
    (a : Addr) (m c : Nat) (news : List Value) (hl : news.length = m * size) (hnews : ∀ j u, news[j]? = some u → w.cell? (a.add j) = some u) (h1 : ∀ u ∈ news, u.oneCell' = true)
    (h63 : n + m ≤ maxLen) (hbytes : (n + m) * bytes ≤ 140737488355328)
    (v' : Value) (w' : World) (hr : (Builtin.append_ #[t, t] ty #[v, .slice (some a) m c]).run P w = .ok v' w') : v'.ownBlock = v.ownBlock ∨ v'.ownBlock = some w.heap.size := by
  subst hsize
  subst hby
  have hsmall : n + m ≤ 9223372036854775807 := by simp only [maxLen] at h63; omega
  rcases hown.2 with ⟨rfl, rfl⟩ | ⟨g, cap, cur, rfl, hbg, hg, hnc, hcm, hcs, htake⟩
  · by_cases hm : m = 0
    · subst hm
      have : (Builtin.append_ #[t, t] ty #[.slice none 0 0, .slice (some a) 0 c]).run P w = .ok (.slice none 0 0) w := by
        simp [Builtin.append_, run_underlying ht, sizeOf, typeInfo, hi, Builtin.lenOf, Builtin.firstCells, loadCells, loadCellsFrom]
      rw [this] at hr
      injection hr with h1 h2
      subst h1
      exact .inl rfl
    · rw [run_append_nil (P := P) w t ty e i z ht hi hz a m c news hl hnews (by omega) (by omega) (by have hb := hbytes; simp only [Nat.zero_add] at hb; omega)] at hr
      injection hr with h1 h2
      subst h1
      exact .inr rfl
  · by_cases hroom : n + m ≤ cap
    · obtain ⟨w2, hw2, _⟩ := run_append_fits (P := P) w base t ty e i i.size ht hi rfl g n cap xs hown a m c news hl hnews h1 hroom
      rw [hw2] at hr
      injection hr with h1 h2
      subst h1
      exact .inl rfl
    · have holds : ∀ j u, xs[j]? = some u → w.cell? ((⟨g, 0, none⟩ : Addr).add j) = some u := hown.cells (g := g) rfl
      rw [run_append_grow (P := P) w t ty e i z ht hi hz ⟨g, 0, none⟩ n cap xs hown.1 holds a m c news hl hnews (by omega) (by omega) (growslice_fits (by omega) hbytes)] at hr
      injection hr with h1 h2
      subst h1
      exact .inr rfl

/-- As wpList_append_own; and the block that the row lies in behind it. -/
theorem wpList_append_apart {P : Program} (w : World) {ops : Array Oper} {rest : List Oper} {o : Oper} {a : Act} {Q : Exit → Act → World → Prop} (hgd : o.guard = none) (s x : Operand) (t : TypeId)
    (ho : o.op = .call { callee := .builtin .append, args := #[s, x], argTypes := #[t, t] })
    (base : Nat) (e : TypeId) (i : TypeInfo) (z : Value) (size bytes : Nat) (ht : P.underlying t = some (.slice e)) (hi : P.info? e = some i) (hz : i.zero = some z)
    (hsize : i.size = size) (hby : i.bytes = bytes) (hzs : z.cells.size = size) (hsz : 0 < size)
    (v : Value) (n : Nat) (xs : List Value) (hs : a.eval s = v) (hown : w.ownsRow base e size v n xs)
    (ad : Addr) (m c : Nat) (news : List Value) (hx : a.eval x = .slice (some ad) m c) (hl : news.length = m * size) (hnews : ∀ j u, news[j]? = some u → w.cell? (ad.add j) = some u) (h1 : ∀ u ∈ news, u.oneCell' = true)
    (h63 : n + m ≤ maxLen) (hbytes : (n + m) * bytes ≤ 140737488355328) (hbase : base ≤ w.heap.size)
    (h : ∀ v' w', w'.ownsRow base e size v' (n + m) (xs ++ news) → w.grownBy w' v.ownBlock → (v'.ownBlock = v.ownBlock ∨ v'.ownBlock = some w.heap.size) → wpList P ops Q rest (a.put o.dst v') w') : wpList P ops Q (o :: rest) a w := by
  refine wpList_plain hgd fun K hK => ?_
  obtain ⟨v', w', hr, h2, h3, _⟩ := run_append_own (P := P) w base t o.type e i z size bytes ht hi hz hsize hby hzs hsz v n xs hown ad m c news hl hnews h1 h63 hbytes hbase
  have h5 := append_block base t o.type e i z size bytes ht hi hz hsize hby v n xs hown ad m c news hl hnews h1 h63 hbytes v' w' hr
  unfold Oper.wp execOp
  simp only [ho, resolve, invoke, builtin, Sem.run_bind, Sem.run_pure, Result.andThen_ok, List.map_toArray, List.map_cons, List.map_nil, hs, hx, hr]
  exact hK _ _ (h v' w' h2 h3 h5)
end Go.Proofs.YthiimpleljaimaaGreatDoor

/- The reference of layer 3: numbers and texts behind bytes. -/
namespace Go.Proofs.YthiimpleljaimaaGreatDoor
open Go.RowKit

/-- Bytes as a string. -/
theorem conv_any {w : World} {A : Option Addr} {n cap : Nat} {l : List Nat} (h : Byt w (.slice A n cap) l) :
    (convert 22 9 (.slice A n cap)).run Tryz.prog w = .ok (.string (toB l)) w := by
  have hn := h.len
  rw [List.length_map] at hn
  subst hn
  by_cases h0 : l.length = 0
  · have : l = [] := List.eq_nil_of_length_eq_zero h0
    subst this
    cases A with
    | none => exact run_convert_bytes_nil w 22 5 Tryz.underlying22 Tryz.underlying5 _ _ 9 Tryz.underlying9
    | some ad =>
      rw [run_convert_bytes_string w 22 9 5 (some ad) _ cap Tryz.underlying22 Tryz.underlying5 Tryz.underlying9]
      have := run_bytesToString (P := Tryz.prog) w ad 0 cap [] (by simpa using run_loadCells_list (P := Tryz.prog) w ad [] (by simp))
      exact this
  · obtain ⟨b, off, rfl, hb, hx⟩ := Byt.cell h (by omega)
    have := conv_piece (cap := cap) hx 0 l.length (by omega)
    rw [Nat.add_zero, List.drop_zero, List.take_length] at this
    exact this
/-- A call that comes back with bytes of its own. -/
abbrev MakesB (f : FuncId) (args : Array Value) (w : World) (l : List Nat) : Prop :=
  Calls Tryz.prog f args w fun e w' => ∃ v, e = .returned v ∧ w'.ownsRow w.heap.size 5 1 v l.length (l.map bv) ∧ (∃ ad n c, v = .slice (some ad) n c) ∧ Below w.heap.size w w'
theorem own_Byt {w : World} {base : Nat} {v : Value} {l : List Nat} (h : w.ownsRow base 5 1 v l.length (l.map bv)) : Byt w v l := by
  have := own_Sl (xs := l.map bv) (by rw [List.length_map]; exact h)
  rwa [List.map_map] at this
theorem Byt.src {w : World} {ad : Addr} {n cap : Nat} {l : List Nat} (h : Byt w (.slice (some ad) n cap) l) : ∀ j u, (l.map bv)[j]? = some u → w.cell? (ad.add j) = some u := by
  intro j u hj
  by_cases hp : 0 < l.length
  · obtain ⟨b, off, he, _, hx⟩ := Byt.cell h hp
    injection he with he
    subst he
    exact hx j u hj
  · have : l = [] := List.eq_nil_of_length_eq_zero (by omega)
    subst this
    cases hj
theorem own_empty (w : World) (e : TypeId) : (w.alloc (.cells #[] e)).ownsRow w.heap.size e 1 (.slice (some ⟨w.heap.size, 0, none⟩) 0 0) 0 [] :=
  ⟨rfl, .inr ⟨w.heap.size, 0, #[], rfl, Nat.le_refl _, blk_new _ _, Nat.le_refl _, by unfold maxLen; omega, rfl, rfl⟩⟩

theorem cell_heap {w v : World} {g : Nat} (h : v.heap[g]? = w.heap[g]?) {o : Nat} : v.cell? ⟨g, o, none⟩ = w.cell? ⟨g, o, none⟩ := by simp [World.cell?, h]
theorem heap_old (w : World) (x : Obj) {g : Nat} (h : g < w.heap.size) : (w.alloc x).heap[g]? = w.heap[g]? := by
  show (w.heap.push x)[g]? = w.heap[g]?
  rw [Array.getElem?_push, if_neg (by omega)]

theorem strCells_sb (s : ByteArray) : Lib.strCells s = (sb s).map bv := by unfold Lib.strCells sb; rw [List.map_map]; rfl

theorem toB_snoc (l : List Nat) (c : Nat) : toB l ++ toB [c] = toB (l ++ [c]) := by
  unfold toB
  apply ByteArray.ext
  simp

end Go.Proofs.YthiimpleljaimaaGreatDoor

/- bytes.Clone at a slice that is there. -/
namespace Go.Proofs.YthiimpleljaimaaGreatDoor
open Go.RowKit

set_option maxHeartbeats 4000000 in
set_option maxRecDepth 100000 in
theorem clone_any (ad : Addr) (n cap : Nat) (l : List Nat) (w : World) (h : Byt w (.slice (some ad) n cap) l) (hm : l.length ≤ 100000) :
    MakesB 169 #[.slice (some ad) n cap] w l := by
  have hn := h.len
  rw [List.length_map] at hn
  subst hn
  obtain ⟨i0, hi, hz0, hz1, hz2⟩ := info_parts info_u8
  have hsrc := Byt.src (Sl.below h (Base.al (Below.refl _ _) (.cells #[] 5)))
  have hone : ∀ u ∈ l.map bv, u.oneCell' = true := by intro v hv; obtain ⟨x, _, rfl⟩ := List.mem_map.1 hv; rfl
  have hll : (l.map bv).length = l.length * 1 := by rw [List.length_map, Nat.mul_one]
  have q22 : ∀ (w : World) (a : Option Addr) (n c n' c' : Nat), (binOp .eql 22 (.slice a n c) (.slice none n' c')).run Tryz.prog w = .ok (.bool a.isNone) w := fun w a n c n' c' => Lib.run_eql_slice_nil w _ _ a n c n' c' Tryz.underlying22
  go_enter Tryz.func169, Tryz.ntmps169
  go_wp2_with (at_builtin; go_must (refine wpList_append_own _ rfl _ _ 22 rfl w.heap.size 5 i0 _ 1 1 Tryz.underlying22 hi hz0 hz1 hz2 rfl (by decide) _ _ _ rfl (own_empty _ _) ad l.length cap (l.map bv) rfl hll hsrc hone ?c3 ?c4 ?c5 ?_))
  case c3 => unfold maxLen; omega
  case c4 => omega
  case c5 => simp
  intro v1 w1 hown1 hgrow hne
  have hb1 : Below w.heap.size w w1 := Base.gr (Base.al (Below.refl _ _) _) hgrow (fun g hg => ((own_empty w 5).lt g hg).1)
  go_wp2_with fail
  go_ret
  refine ⟨v1, rfl, hown1, ?_, hb1⟩
  rcases hown1.2 with ⟨h0, _⟩ | ⟨g, c, _, h0, _⟩
  · exact absurd h0 hne
  · exact ⟨_, _, _, h0⟩
end Go.Proofs.YthiimpleljaimaaGreatDoor

/- bytes.Repeat at one byte 255. -/
namespace Go.Proofs.YthiimpleljaimaaGreatDoor
open Go.RowKit

set_option maxHeartbeats 2000000 in
set_option maxRecDepth 100000 in
theorem mul64_any (n : Nat) (w : World) (hn : n ≤ 65536) : Gives 123 #[.int .u64 1, .int .u64 n] w (.tuple #[.int .u64 0, .int .u64 n]) := by
  have e1 : bits .and .u64 1 4294967295 = 1 := and_low32 1 (by decide) (by decide)
  have e2 : bits .and .u64 (n : Int) 4294967295 = n := by rw [and_low32 n (by omega) (by omega)]; omega
  have e3 : bits .and .u64 0 4294967295 = 0 := and_low32 0 (by decide) (by decide)
  have hq : (n : Int) / 4294967296 = 0 := by omega
  go_enter Tryz.func123, Tryz.ntmps123
  go_wp2_with fail
  go_ret2
  exact ⟨rfl, rfl⟩
set_option maxHeartbeats 2000000 in
set_option maxRecDepth 100000 in
theorem mul_any (n : Nat) (w : World) (hn : n ≤ 65536) : Gives 88 #[.int .u64 1, .int .u64 n] w (.tuple #[.int .u64 0, .int .u64 n]) := by
  have g0 := fun W => Lib.hid (mul64_any n W hn)
  go_enter Tryz.func88, Tryz.ntmps88
  go_wp2_with fail
  refine (g0 _).out.mono ?_; rintro e x1 ⟨rfl, rfl⟩
  go_wp2_with fail
  go_ret2
  exact ⟨rfl, rfl⟩
set_option maxHeartbeats 4000000 in
set_option maxRecDepth 100000 in
theorem repeat_any (b n : Nat) (w : World) (hb : w.cell? ⟨b, 0, none⟩ = some (bv 255)) (h1 : 1 ≤ n) (h2 : n ≤ 8192) :
    Calls Tryz.prog 63 #[.slice (some ⟨b, 0, none⟩) 1 1, i64 n] w fun e w' => ∃ (junk : List Value) (m : Nat), e = .returned (.slice (some ⟨w.heap.size, 0, none⟩) n n) ∧ w' = (w.alloc (.cells (List.replicate n (bv 255) ++ junk).toArray 5)).drewN m := by
  have g0 := fun W => Lib.hid (mul_any n W (by omega))
  obtain ⟨cs, hrunM, hle, _⟩ := Lib.run_makeNoZero (P := Tryz.prog) w #[3] 22 5 Tryz.underlying22 n (by omega)
  have hcall : (callFunc 89 #[.int .i64 (n : Int)]).run Tryz.prog w = .ok (.value (.slice (some ⟨w.heap.size, 0, none⟩) n cs.size)) ((w.alloc (.cells cs 5)).drewN 2) := by
    rw [run_callFunc_extern Tryz.func89 (by kernel_rfl) (by kernel_rfl) (by kernel_rfl) (e := Extern.BytealgMakeNoZero.makeNoZero #[3] #[22]) (by kernel_rfl), hrunM]
    rfl
  clear hrunM
  have hinfo : (Tryz.prog.info? 5).map (·.size) = some 1 := by
    obtain ⟨i0, hi, hz0, hz1, hz2⟩ := info_parts info_u8
    rw [hi]; exact congrArg some hz1
  have hblt : b < w.heap.size := by
    unfold World.cell? at hb
    cases hx : w.heap[b]? with
    | none => rw [hx] at hb; simp at hb
    | some o => exact (Array.getElem?_eq_some_iff.1 hx).1
  -- the row, so far
  obtain ⟨R, hR⟩ : ∃ R : Nat → List Value, ∀ q, R q = List.replicate q (bv 255) ++ cs.toList.drop q := ⟨_, fun _ => rfl⟩
  have hRl : ∀ q, q ≤ n → (R q).length = cs.size := by intro q hq; rw [hR]; simp; omega
  have cp : ∀ (mm q src ln : Nat) (sb : Nat) (sc : Nat), q + ln ≤ n → ln ≤ src → (∀ j, j < ln → (((w.alloc (.cells (R q).toArray 5)).drewN mm).cell? ((⟨sb, 0, none⟩ : Addr).add j) = some (bv 255))) → (n - q ≤ ln ∨ src ≤ ln) →
      (Builtin.copy_ #[22, 22] 3 #[.slice (some ⟨w.heap.size, q, none⟩) (n - q) (n - q), .slice (some ⟨sb, 0, none⟩) src sc]).run Tryz.prog ((w.alloc (.cells (R q).toArray 5)).drewN mm) = .ok (goInt ln) ((w.alloc (.cells (R (q + ln)).toArray 5)).drewN mm) := by
    intro mm q src ln sb sc h3 h4 h5 h6
    have := run_copy_row (P := Tryz.prog) ((w.alloc (.cells (R q).toArray 5)).drewN mm) 22 22 3 5 w.heap.size q (n - q) (n - q) ⟨sb, 0, none⟩ src sc _ _ (List.replicate ln (bv 255)) Tryz.underlying22 hinfo (blk_new w _) (by rw [List.length_replicate]; show ln = min src (n - q); omega)
      (fun j v hj => by
        have hjl := (List.getElem?_eq_some_iff.1 hj).1
        rw [List.length_replicate] at hjl
        rw [List.getElem?_replicate, if_pos hjl] at hj
        injection hj with hj
        rw [← hj]
        exact h5 j hjl) (by simp; rw [hRl q (by omega)]; omega) (by intro v hv; rw [(List.mem_replicate.1 hv).2]; rfl)
    rw [this, List.length_replicate]
    congr 1
    show ((w.alloc (.cells (R q).toArray 5)).setRow w.heap.size _).drewN mm = _
    rw [World.setRow_alloc_new]
    congr 4
    simp only [hR]
    rw [List.take_left' (by simp), List.drop_append, List.length_replicate]
    have e1 : (List.replicate q (bv 255)).drop (q + ln) = [] := List.drop_eq_nil_of_le (by simp)
    rw [e1, List.nil_append, List.drop_drop, ← List.replicate_append_replicate]
    congr 2
    omega
  have hR0 : cs = (R 0).toArray := by rw [hR]; simp
  rw [hR0] at hcall
  rw [show (R 0).toArray.size = cs.size by rw [List.size_toArray, hRl 0 (by omega)]] at hcall
  have hcp0 := cp 2 0 1 1 b 1 (by omega) (by omega) (fun j hj => by
    obtain rfl : j = 0 := by omega
    have := World.cell?_alloc_lt w (.cells (R 0).toArray 5) ⟨b, 0, none⟩ hblt
    rw [show (((w.alloc (.cells (R 0).toArray 5)).drewN 2).cell? ((⟨b, 0, none⟩ : Addr).add 0)) = (w.alloc (.cells (R 0).toArray 5)).cell? ⟨b, 0, none⟩ from rfl, this]
    exact hb) (.inr (Nat.le_refl _))
  rw [Nat.sub_zero, Nat.zero_add] at hcp0
  have HRn := Lib.hid (hR n)
  have HR := Lib.hid hR
  have CP := Lib.hid cp
  generalize cs.size = cz at *
  clear hR hR0 hRl cp
  go_enter Tryz.func63, Tryz.ntmps63
  go_wp2_with fail
  refine (g0 _).out.mono ?_; rintro e x1 ⟨rfl, rfl⟩
  go_wp2_with fail
  go_loopw [10] (fun i wr => ∃ q m : Nat, 1 ≤ q ∧ q ≤ n ∧ i = .int .i64 q ∧ wr = (x1.alloc (.cells (R q).toArray 5)).drewN m) (fun i _ => n - (intOf i).toNat)
  case atStart => exact ⟨1, 2, Nat.le_refl _, h1, rfl, rfl⟩
  case round =>
    obtain ⟨q, m, hq1, hq, rfl, rfl⟩ := hrel
    by_cases hlt : q < n
    · have hcp := CP.out (m + 1) q q (min q (n - q)) x1.heap.size n (by omega) (by omega) (fun j hj => by
        rw [Addr.add_lit, Nat.zero_add]
        have := cell_blk (blk_new x1 (.cells (R q).toArray 5)) j
        rw [show ((x1.alloc (.cells (R q).toArray 5)).drewN (m + 1)).cell? ⟨x1.heap.size, j, none⟩ = (x1.alloc (.cells (R q).toArray 5)).cell? ⟨x1.heap.size, j, none⟩ from rfl, this]
        rw [HR.out q]
        rw [List.getElem?_toArray, List.getElem?_append_left (by rw [List.length_replicate]; omega), List.getElem?_replicate, if_pos (by omega)]) (by omega)
      have t1 : (q : Int) < (n : Int) := by omega
      have t2 : ¬ n = q := by omega
      have hgr : ((x1.alloc (.cells (R q).toArray 5)).drewN m).grownBy ((x1.alloc (.cells (R (q + min q (n - q))).toArray 5)).drewN (m + 1)) (some x1.heap.size) := by
        refine ⟨rfl, rfl, rfl, by simp, fun k hk hn => ?_⟩
        have hk' : k < x1.heap.size := by
          have h1 : ((x1.alloc (.cells (R q).toArray 5)).drewN m).heap.size = x1.heap.size + 1 := by simp
          have h2 : k ≠ x1.heap.size := fun e => hn (by rw [e])
          omega
        exact (heap_old x1 _ hk').trans (heap_old x1 _ hk').symm
      have hnx : q + min q (n - q) ≤ n := by omega
      have hnq : 1 ≤ min q (n - q) := by omega
      generalize min q (n - q) = r at *
      clear CP HR HRn hb hcall hcp0 g0
      go_wp2_with fail
      refine wp_region_ph (D := fun w' => ∃ p : GrOf _ (some x1.heap.size), w' = p.v) 8 [7] (by kernel_rfl) (by kernel_rfl) ⟨⟨_, grown_dr (grown_same _ _)⟩, rfl⟩ ?_
      simp only [List.take_succ_cons, List.take_zero, List.drop_succ_cons, List.drop_zero]
      have on0 := @on_rd0; have on1 := @on_rd1; have on2 := @on_rd2; have on3 := @on_new1; have on4 := @on_new2; have on5 := @gr_rd0
      repeat ((with_reducible refine head_quiet ?_ ?_); (focus rfl); (intro K hK); go_simp; first | ((with_reducible refine hK _ ?_); clear hK K) | (rw [if_neg (by intro h; cases h)]; (with_reducible refine hK _ ?_); clear hK K) | (apply Exists.intro; refine ⟨fun _ => ?_, hK _ ?_⟩; (fail); clear hK K))
      refine head_run (by rfl) rfl (goInt r) ((x1.alloc (.cells (R (q + r)).toArray 5)).drewN (m + 1)) ?_ ⟨⟨_, hgr⟩, rfl⟩ ?_
      · go_simp
      clear on0 on1 on2 on3 on4 on5
      with_reducible refine head_nil ?_
      with_reducible refine eq_intro ?_
      go_wp2_with fail
      exact ⟨⟨q + r, m + 1, by omega, hnx, by push_cast; rfl, rfl⟩, by simp [intOf]; omega⟩
    · obtain rfl : q = n := by omega
      go_wp2_with fail
      go_ret
      exact ⟨_, m, rfl, by rw [HRn.out]⟩
end Go.Proofs.YthiimpleljaimaaGreatDoor

/- Strings as bytes of their own. -/
namespace Go.Proofs.YthiimpleljaimaaGreatDoor
open Go Go.RowKit Flo

/-- '[]byte(s)': bytes of its own. -/
theorem row_atK {x : List Nat} (hx : ∀ b ∈ x, b < 256) (c i : Nat) (h : i < x.length) : (bytesRow (toB x) c)[i]? = some (bv (x[i])) := by
  have h1 : i < ((toB x).data.map (fun b => Value.int .u8 b.toNat)).size := by rw [Array.size_map]; unfold toB; simpa using h
  unfold bytesRow
  rw [Array.getElem?_append_left h1, Array.getElem?_map]
  unfold toB
  simp only [List.getElem?_toArray, List.getElem?_map, List.getElem?_eq_getElem h, Option.map_some]
  have hb := hx x[i] (List.getElem_mem h)
  rw [show ((UInt8.ofNat x[i]).toNat : Nat) = x[i] by simp; omega]
set_option maxRecDepth 100000 in
theorem conv_bytesK (x : List Nat) (hx : ∀ b ∈ x, b < 256) (hl : x.length ≤ 60000) (w : World) :
    ∃ c w', (convert 9 22 (.string (toB x))).run Tryz.prog w = .ok (.slice (some ⟨w.heap.size, 0, none⟩) x.length c) w' ∧ Byt w' (.slice (some ⟨w.heap.size, 0, none⟩) x.length c) x ∧ Below w.heap.size w w' := by
  have hr := run_bytes_of_string (P := Tryz.prog) w 9 22 5 (toB x) Tryz.underlying9 Tryz.underlying22 Tryz.underlying5
  rw [toB_size] at hr
  have hge := grownCap_ge w x.length 0 5
  have hle := grownCap_le_maxLen w x.length 0 5 (by unfold maxLen; omega)
  generalize grownCap w x.length 0 5 = c at *
  refine ⟨_, _, hr, ?_, Base.al (Base.dr (Below.refl _ w)) _⟩
  have hb := blk_new w.drew (.cells (bytesRow (toB x) c) 5 ((bytesRow (toB x) c).size, (bytesRow (toB x) c).size + 1))
  refine ⟨some ⟨w.heap.size, 0, none⟩, c, by rw [List.length_map], by rw [List.length_map]; exact hge, hle, fun h => (by cases h), fun _ => ⟨w.heap.size, 0, rfl, (Array.getElem?_eq_some_iff.1 hb).1, fun i y hi => ?_⟩⟩
  rw [List.getElem?_map] at hi
  cases hxi : x[i]? with
  | none => rw [hxi] at hi; cases hi
  | some z =>
    rw [hxi] at hi
    injection hi with hi
    subst hi
    refine ⟨rfl, fun j u hj => ?_⟩
    match j, hj with
    | 0, hj =>
      injection hj with hj
      subst hj
      obtain ⟨h1, h2⟩ := List.getElem?_eq_some_iff.1 hxi
      have := cell_blk hb (0 + i * 1 + 0)
      rw [show 0 + i * 1 + 0 = i by omega] at this ⊢
      rw [row_atK hx c i h1, h2] at this
      exact this
    | j + 1, hj => cases hj
end Go.Proofs.YthiimpleljaimaaGreatDoor

