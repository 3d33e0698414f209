/- head.Class. -/
import Derived.Test.YthiimpleljaimaaGreatDoorMg11
import Derived.Test.YthiimpleljaimaaGreatDoorMg10
import Derived.Test.YthiimpleljaimaaGreatDoorPh2
import Derived.Test.YthiimpleljaimaaGreatDoorMg3
import Derived.Test.YthiimpleljaimaaGreatDoorMg9
import Derived.Test.YthiimpleljaimaaGreatDoorRingGet
import Derived.WalkMore
namespace Go.Proofs.YthiimpleljaimaaGreatDoor
open Go.RowKit

theorem cast_eq (xs ys : List Nat) : (xs.map fun x : Nat => (x : Int)) = (ys.map fun x : Nat => (x : Int)) ↔ xs = ys := List.map_inj_right (by intro a b h; omega)
theorem eql8 (a b c d e f g i a' b' c' d' e' f' g' i' : Nat) (w : World) : (Op.equalIn 10000 325 (.agg (arr8 a b c d e f g i)) (.agg (arr8 a' b' c' d' e' f' g' i'))).run Tryz.prog w = .ok (decide ([a, b, c, d, e, f, g, i] = [a', b', c', d', e', f', g', i'])) w := by
  have := Base.run_eql_ints (P := Tryz.prog) w Tryz.underlying325 (by kernel_rfl) Tryz.underlying5 ([a, b, c, d, e, f, g, i].map fun x : Nat => (x : Int)) ([a', b', c', d', e', f', g', i'].map fun x : Nat => (x : Int)) rfl rfl
  rw [show decide ([a, b, c, d, e, f, g, i].map (fun x : Nat => (x : Int)) = [a', b', c', d', e', f', g', i'].map (fun x : Nat => (x : Int))) = decide ([a, b, c, d, e, f, g, i] = [a', b', c', d', e', f', g', i']) from decide_eq_decide.2 (cast_eq _ _)] at this
  rw [List.map_map, List.map_map] at this
  exact this

/-- The class of a sector's bytes where the geometry fits. -/
theorem geoN_yes {s z : Int} {l : List Nat} (h : geoN s z l = true) : geoB s z = true ∧ (l.length : Int) = z := by
  unfold geoN at h
  simpa using h

set_option maxHeartbeats 4000000 in
set_option maxRecDepth 100000 in
theorem headClass_any (s z : Int) (A : Option Addr) (n cap : Nat) (l : List Nat) (w : World) (h : Byt w (.slice A n cap) l) (hm : l.length ≤ 100000) : Makes 170 #[geo s z, .slice A n cap] w (i64 (classB s z l)) := by
  have hn := h.len
  rw [List.length_map] at hn
  subst hn
  have G0 := fun W => placeMay_any s z W
  cases hg : geoB s z
  · have hv : classB s z l = 2 := by unfold classB geoN; rw [hg]; rfl
    rw [hv]
    rw [hg] at G0
    have HG0 := fun W => Lib.hid (G0 W)
    clear hv hg h G0
    go_enter Tryz.func170, Tryz.ntmps170
    go_wp2_with fail
    refine (HG0 _).out.mono ?_; rintro e x1 ⟨rfl, hb1⟩
    go_wp2_with fail
    go_ret
    exact ⟨rfl, Base.tr (Base.al (Below.refl _ _) _) hb1⟩
  rw [hg] at G0
  have HG0 := fun W => Lib.hid (G0 W)
  clear G0
  by_cases hz : ¬ (l.length : Int) = z
  · have hv : classB s z l = 2 := by unfold classB geoN; rw [hg, beq_eq_false_iff_ne.2 hz]; rfl
    rw [hv]
    have t1 : ((l.length : Int) == z) = false := beq_eq_false_iff_ne.2 hz
    clear hv hg h hz
    go_enter Tryz.func170, Tryz.ntmps170
    go_wp2_with fail
    refine (HG0 _).out.mono ?_; rintro e x1 ⟨rfl, hb1⟩
    obtain ⟨q1, -⟩ := rd hb1
    go_wp2_with fail
    go_ret
    exact ⟨rfl, Base.tr (Base.al (Below.refl _ _) _) hb1⟩
  have hz := Decidable.not_not.1 hz
  obtain ⟨g1, g2, g3, g4⟩ := geoB_yes hg
  have hv : classB s z l = if l.take 8 = headOf s.toNat z.toNat then 1 else if blankB l then 0 else 2 := by
    unfold classB geoN; rw [hg, beq_iff_eq.2 hz]; rfl
  obtain ⟨s', rfl⟩ : ∃ s' : Nat, s = s' := ⟨s.toNat, by omega⟩
  subst hz
  simp only [Int.toNat_natCast] at hv
  obtain ⟨a, b, c, d, e, f, g, i, hh⟩ := eight (headOf_len s' l.length)
  obtain ⟨a', b', c', d', e', f', g', i', hk⟩ := eight (show (l.take 8).length = 8 by rw [List.length_take]; omega)
  have HO := fun W => Lib.hid (headOf_any s' l.length W hg a b c d e f g i hh)
  have t1 : ((l.length : Int) == (l.length : Int)) = true := beq_self_eq_true _
  have EQ := fun W => eql8 a' b' c' d' e' f' g' i' a b c d e f g i W
  obtain ⟨ab, off, rfl, hab, hx⟩ := Byt.cell h (by omega)
  have hrow : ∀ j v, ([bv a', bv b', bv c', bv d', bv e', bv f', bv g', bv i'] : List Value)[j]? = some v → w.cell? ((⟨ab, off, none⟩ : Addr).add j) = some v := by
    intro j v hj
    refine hx j v ?_
    rw [List.getElem?_map]
    have : ([a', b', c', d', e', f', g', i'].map bv)[j]? = some v := by simpa using hj
    rw [← hk, List.getElem?_map] at this
    obtain ⟨y, hy, rfl⟩ := Option.map_eq_some_iff.1 this
    have hj8 : j < 8 := by have := (List.getElem?_eq_some_iff.1 hy).1; rw [List.length_take] at this; omega
    rw [List.getElem?_take_of_lt hj8] at hy
    rw [hy]; rfl
  have hmin : (8 : Nat) = Nat.min l.length 8 := (Nat.min_eq_right (by omega)).symm
  have HC := fun W hB => Lib.hid (containsFF_any (some ⟨ab, off, none⟩) l.length cap l W (Sl.below (w' := W) h hB))
  clear hx hg hm hz
  by_cases heq : [a', b', c', d', e', f', g', i'] = [a, b, c, d, e, f, g, i]
  · rw [if_pos (by rw [hk, hh]; exact heq)] at hv
    rw [hv]
    simp only [decide_eq_true heq] at EQ
    clear hv hh hk heq HC
    go_enter Tryz.func170, Tryz.ntmps170
    go_wp2_with fail
    refine (HG0 _).out.mono ?_; rintro e1 x1 ⟨rfl, hb1⟩
    obtain ⟨q1, -⟩ := rd hb1
    have hs1 : w.heap.size < x1.heap.size := by have := hb1.size; simp at this; omega
    have hB1 := Base.tr (Base.al (Below.refl _ w) _) hb1
    have kg := blk_below (blk_new w _) hb1
    have c0 : x1.cell? ⟨w.heap.size, 0, none⟩ = some (i64 s') := cell_blk kg 0
    have c1 : x1.cell? ⟨w.heap.size, 1, none⟩ = some (i64 l.length) := cell_blk kg 1
    clear kg q1 hb1
    have hrow1 : ∀ j v, ([bv a', bv b', bv c', bv d', bv e', bv f', bv g', bv i'] : List Value)[j]? = some v → (x1.alloc (.cells #[.int .u8 0, .int .u8 0, .int .u8 0, .int .u8 0, .int .u8 0, .int .u8 0, .int .u8 0, .int .u8 0] 325)).cell? ((⟨ab, off, none⟩ : Addr).add j) = some v := fun j v hj => by
      rw [(Base.al hB1 _).cell (by rw [block_add]; exact hab)]; exact hrow j v hj
    have hcp : (Builtin.copy_ #[22, 22] 3 #[.slice (some ⟨x1.heap.size, 0, none⟩) 8 8, .slice (some ⟨ab, off, none⟩) l.length cap]).run Tryz.prog (x1.alloc (.cells #[.int .u8 0, .int .u8 0, .int .u8 0, .int .u8 0, .int .u8 0, .int .u8 0, .int .u8 0, .int .u8 0] 325)) = .ok (goInt 8) (x1.alloc (.cells #[bv a', bv b', bv c', bv d', bv e', bv f', bv g', bv i'] 325)) := by
      have := run_copy_row (P := Tryz.prog) (x1.alloc (.cells #[.int .u8 0, .int .u8 0, .int .u8 0, .int .u8 0, .int .u8 0, .int .u8 0, .int .u8 0, .int .u8 0] 325)) 22 22 3 5 x1.heap.size 0 8 8 ⟨ab, off, none⟩ l.length cap _ _ [bv a', bv b', bv c', bv d', bv e', bv f', bv g', bv i'] Tryz.underlying22 (by kernel_rfl) (blk_new x1 _) hmin hrow1 (by simp) (by intro v hv; obtain ⟨x, _, rfl⟩ := List.mem_map.1 (show v ∈ [a', b', c', d', e', f', g', i'].map bv from hv); rfl)
      rw [World.setRow_alloc_new] at this
      exact this
    clear hmin hrow hrow1
    go_wp2_with fail
    have on0 := @on_rd0; have on1 := @on_rd1; have on2 := @on_rd2; have on3 := @on_new1; have on4 := @on_new2
    refine wp_region_quiet_on (by kernel_rfl) (by kernel_rfl) ?_
    repeat ((with_reducible refine wpQuiet_step (fun K hK => ?_)); go_simp; first | ((with_reducible refine hK _ ?_); clear hK K) | (rw [if_neg (by intro h; cases h)]; (with_reducible refine hK _ ?_); clear hK K) | (apply Exists.intro; refine ⟨fun _ => ?_, hK _ ?_⟩; ((with_reducible exact on_of (HO _).out)); clear hK K))
    clear on0 on1 on2 on3 on4
    with_reducible refine wpQuiet_nil ?_
    intro _ hw'
    obtain ⟨pq, hw''⟩ := hw'
    subst hw''
    go_wp2_with fail
    go_ret
    exact ⟨rfl, Base.tr (Base.al hB1 _) pq.h⟩
  · rw [if_neg (by rw [hk, hh]; exact heq)] at hv
    simp only [decide_eq_false heq] at EQ
    rw [hv]
    clear hv hh hk heq
    cases hbl : blankB l
    all_goals
      rw [hbl] at HC
      clear hbl
      go_enter Tryz.func170, Tryz.ntmps170
      go_wp2_with fail
      refine (HG0 _).out.mono ?_; rintro e1 x1 ⟨rfl, hb1⟩
      obtain ⟨q1, -⟩ := rd hb1
      have hs1 : w.heap.size < x1.heap.size := by have := hb1.size; simp at this; omega
      have hB1 := Base.tr (Base.al (Below.refl _ w) _) hb1
      have kg := blk_below (blk_new w _) hb1
      have c0 : x1.cell? ⟨w.heap.size, 0, none⟩ = some (i64 s') := cell_blk kg 0
      have c1 : x1.cell? ⟨w.heap.size, 1, none⟩ = some (i64 l.length) := cell_blk kg 1
      clear kg q1 hb1
      have hrow1 : ∀ j v, ([bv a', bv b', bv c', bv d', bv e', bv f', bv g', bv i'] : List Value)[j]? = some v → (x1.alloc (.cells #[.int .u8 0, .int .u8 0, .int .u8 0, .int .u8 0, .int .u8 0, .int .u8 0, .int .u8 0, .int .u8 0] 325)).cell? ((⟨ab, off, none⟩ : Addr).add j) = some v := fun j v hj => by
        rw [(Base.al hB1 _).cell (by rw [block_add]; exact hab)]; exact hrow j v hj
      have hcp : (Builtin.copy_ #[22, 22] 3 #[.slice (some ⟨x1.heap.size, 0, none⟩) 8 8, .slice (some ⟨ab, off, none⟩) l.length cap]).run Tryz.prog (x1.alloc (.cells #[.int .u8 0, .int .u8 0, .int .u8 0, .int .u8 0, .int .u8 0, .int .u8 0, .int .u8 0, .int .u8 0] 325)) = .ok (goInt 8) (x1.alloc (.cells #[bv a', bv b', bv c', bv d', bv e', bv f', bv g', bv i'] 325)) := by
        have := run_copy_row (P := Tryz.prog) (x1.alloc (.cells #[.int .u8 0, .int .u8 0, .int .u8 0, .int .u8 0, .int .u8 0, .int .u8 0, .int .u8 0, .int .u8 0] 325)) 22 22 3 5 x1.heap.size 0 8 8 ⟨ab, off, none⟩ l.length cap _ _ [bv a', bv b', bv c', bv d', bv e', bv f', bv g', bv i'] Tryz.underlying22 (by kernel_rfl) (blk_new x1 _) hmin hrow1 (by simp) (by intro v hv; obtain ⟨x, _, rfl⟩ := List.mem_map.1 (show v ∈ [a', b', c', d', e', f', g', i'].map bv from hv); rfl)
        rw [World.setRow_alloc_new] at this
        exact this
      clear hmin hrow hrow1
      go_wp2_with fail
      have on0 := @on_rd0; have on1 := @on_rd1; have on2 := @on_rd2; have on3 := @on_new1; have on4 := @on_new2
      refine wp_region_quiet_on (by kernel_rfl) (by kernel_rfl) ?_
      repeat ((with_reducible refine wpQuiet_step (fun K hK => ?_)); go_simp; first | ((with_reducible refine hK _ ?_); clear hK K) | (rw [if_neg (by intro h; cases h)]; (with_reducible refine hK _ ?_); clear hK K) | (apply Exists.intro; refine ⟨fun _ => ?_, hK _ ?_⟩; ((with_reducible exact on_of (HO _).out)); clear hK K))
      clear on0 on1 on2 on3 on4
      with_reducible refine wpQuiet_nil ?_
      intro _ hw'
      obtain ⟨pq, hw''⟩ := hw'
      subst hw''
      go_wp2_with fail
      have hB2 := Base.tr (Base.al hB1 _) pq.h
      refine (HC _ hB2).out.mono ?_; rintro e3 x3 ⟨rfl, rfl⟩
      go_wp2_with fail
      go_ret
      exact ⟨rfl, hB2⟩
end Go.Proofs.YthiimpleljaimaaGreatDoor

/- An append among the effects of a region that draws its order. -/
namespace Go.Proofs.YthiimpleljaimaaGreatDoor
open Go Go.RowKit

theorem eff_append {P : Program} (w : World) {o : Oper} {a : Act} {R : Value → World → Prop} (s x : Operand) (t : TypeId)
    (ho : o.op = .call { callee := .builtin .append, args := #[s, x], argTypes := #[t, t] })
    (base : Nat) (e : TypeId) (i : TypeInfo) (z : Value) (size bytes : Nat) (ht : P.underlying t = some (.slice e)) (hi : P.info? e = some i) (hz : i.zero = some z)
    (hsize : i.size = size) (hby : i.bytes = bytes) (hzs : z.cells.size = size) (hsz : 0 < size)
    (v : Value) (n : Nat) (xs : List Value) (hs : a.eval s = v) (hown : w.ownsRow base e size v n xs)
    (ad : Addr) (m c : Nat) (news : List Value) (hx : a.eval x = .slice (some ad) m c) (hl : news.length = m * size) (hnews : ∀ j u, news[j]? = some u → w.cell? (ad.add j) = some u) (h1 : ∀ u ∈ news, u.oneCell' = true)
    (h63 : n + m ≤ maxLen) (hbytes : (n + m) * bytes ≤ 140737488355328) (hbase : base ≤ w.heap.size)
    (h : ∀ v' w', w'.ownsRow base e size v' (n + m) (xs ++ news) → w.grownBy w' v.ownBlock → (v'.ownBlock = v.ownBlock ∨ v'.ownBlock = some w.heap.size) → R v' w') : effAt2 P o a w R := by
  obtain ⟨v', w', hr, h2, h3, _⟩ := run_append_own (P := P) w base t o.type e i z size bytes ht hi hz hsize hby hzs hsz v n xs hown ad m c news hl hnews h1 h63 hbytes hbase
  have h5 := append_block base t o.type e i z size bytes ht hi hz hsize hby v n xs hown ad m c news hl hnews h1 h63 hbytes v' w' hr
  unfold effAt2 execOp
  simp only [ho, resolve, invoke, builtin, Sem.run_bind, Sem.run_pure, Result.andThen_ok, List.map_toArray, List.map_cons, List.map_nil, hs, hx, hr]
  exact h v' w' h2 h3 h5
theorem grown_drn {w v : World} {row : Option Nat} (h : w.grownBy v row) (n : Nat) : w.grownBy (v.drewN n) row := grown_below h (Base.dn (Below.refl _ _) n)
end Go.Proofs.YthiimpleljaimaaGreatDoor

/- scan.Of. -/
namespace Go.Proofs.YthiimpleljaimaaGreatDoor
open Go.RowKit Flo
attribute [local go_sem] run_store_complex

/-- What a scan comes back with. -/
abbrev ScanPost (w : World) (R : Scan) (e : Ending) (w' : World) : Prop :=
  ∃ v, e = .returned (.agg #[i64 R.cls, i64 R.stop, .bool R.full, v]) ∧ w'.ownsRow w.heap.size 131 11 v R.found.length (R.found.flatMap Found.row) ∧ Below w.heap.size w w'
theorem classB_cases (s z : Int) (l : List Nat) : classB s z l = 0 ∨ classB s z l = 1 ∨ classB s z l = 2 := by
  unfold classB
  split
  · exact .inr (.inr rfl)
  split
  · exact .inr (.inl rfl)
  split
  · exact .inl rfl
  · exact .inr (.inr rfl)

theorem scan_three (st e : Nat) (h : st = 0 ∨ st = 3 ∨ st = 4 ∨ st = 5 ∨ st = 6) : st = 6 ∨ ((st = 4 ∨ st = 5) ∧ e = 0) ∨ (st = 0 ∨ st = 3 ∨ ((st = 4 ∨ st = 5) ∧ e ≠ 0)) := by omega

set_option maxHeartbeats 4000000 in
set_option maxRecDepth 100000 in
theorem scanOf_no (s z : Int) (k : Nat) (A : Option Addr) (cap : Nat) (l : List Nat) (w : World) (h : Byt w (.slice A l.length cap) l) (hm : l.length ≤ 100000) (c : Nat) (hc : classB s z l = c) (h02 : c = 0 ∨ c = 2) :
    Calls Tryz.prog 119 #[geo s z, i64 k, .slice A l.length cap] w (ScanPost w ⟨c, 0, decide (c = 2), []⟩) := by
  have HC := fun W hB => headClass_any s z A l.length cap l W (Sl.below (w' := W) h hB) hm
  rw [hc] at HC
  have HD := fun W hB => Lib.hid (HC W hB)
  clear HC h hm hc
  rcases h02 with rfl | rfl
  all_goals
    go_enter Tryz.func119, Tryz.ntmps119
    go_wp2_with fail
    refine wp_scope_loop 0 (fun _ _ => False) (fun _ _ => 0) rfl (fun _ _ hf => hf.elim) ?_
    intro hr
    clear hr
    go_wp2_with fail
    refine (HD _ (Base.al (Base.al (Below.refl _ _) _) _)).out.mono ?_; rintro e x1 ⟨rfl, hb1⟩
    have hs1 : w.heap.size + 1 < x1.heap.size := by have := hb1.size; simp at this; omega
    have hB1 := Base.tr (Base.al (Base.al (Below.refl _ w) _) _) hb1
    have kr := blk_below (blk_new1 w _ _) hb1
    clear hb1
    have fr := fun o => frozen_blk kr o
    have r0 := cell_blk kr 0
    have r1 := cell_blk kr 1
    have r2 := cell_blk kr 2
    have r3 := cell_blk kr 3
    go_wp2_with fail
    simp only [Exit.jump]
  all_goals
    first
    | change bodyPost _ _ _ _ _ ((sets x1 (w.heap.size + 1) 0 [.int .i64 0, .int .i64 0, .bool false, .slice none 0 0]).alloc _)
    | change bodyPost _ _ _ _ _ ((sets x1 (w.heap.size + 1) 0 [.int .i64 2, .int .i64 0, .bool true, .slice none 0 0]).alloc _)
  · have e4 := blk_old (x := .cells #[.int .i64 0, .int .i64 0, .bool false, .slice none 0 0] 180) (sets_at kr [.int .i64 0, .int .i64 0, .bool false, .slice none 0 0] rfl)
    have b4 := Base.al (sets_below (a := w) (Nat.le_succ _) [.int .i64 0, .int .i64 0, .bool false, .slice none 0 0] x1 0 hB1) (.cells #[.int .i64 0, .int .i64 0, .bool false, .slice none 0 0] 180)
    generalize ((sets x1 (w.heap.size + 1) 0 [.int .i64 0, .int .i64 0, .bool false, .slice none 0 0]).alloc _) = y at *
    have c0 := cell_blk e4 0
    have c1 := cell_blk e4 1
    have c2 := cell_blk e4 2
    have c3 := cell_blk e4 3
    exact bodyPost_ret (v := .agg #[i64 0, i64 0, .bool false, .slice none 0 0]) (by simp [results, Tryz.results119, go_sem, c0, c1, c2, c3]) rfl ⟨_, rfl, World.ownsRow_nil _ _ _ _, b4⟩
  · have e4 := blk_old (x := .cells #[.int .i64 2, .int .i64 0, .bool true, .slice none 0 0] 180) (sets_at kr [.int .i64 2, .int .i64 0, .bool true, .slice none 0 0] rfl)
    have b4 := Base.al (sets_below (a := w) (Nat.le_succ _) [.int .i64 2, .int .i64 0, .bool true, .slice none 0 0] x1 0 hB1) (.cells #[.int .i64 2, .int .i64 0, .bool true, .slice none 0 0] 180)
    generalize ((sets x1 (w.heap.size + 1) 0 [.int .i64 2, .int .i64 0, .bool true, .slice none 0 0]).alloc _) = y at *
    have c0 := cell_blk e4 0
    have c1 := cell_blk e4 1
    have c2 := cell_blk e4 2
    have c3 := cell_blk e4 3
    exact bodyPost_ret (v := .agg #[i64 2, i64 0, .bool true, .slice none 0 0]) (by simp [results, Tryz.results119, go_sem, c0, c1, c2, c3]) rfl ⟨_, rfl, World.ownsRow_nil _ _ _ _, b4⟩

end Go.Proofs.YthiimpleljaimaaGreatDoor

