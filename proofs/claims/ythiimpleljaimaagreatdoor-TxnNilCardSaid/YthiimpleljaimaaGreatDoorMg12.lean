/- ring.Put. -/
import Derived.Test.YthiimpleljaimaaGreatDoorMg10
namespace Go.Proofs.YthiimpleljaimaaGreatDoor
open Go.RowKit Flo
attribute [local go_sem] run_store_complex

/-- An item's bytes. -/
def headIt (seq ver idx cnt s o : Nat) (gone : Bool) : List Nat := be 8 seq ++ be 8 ver ++ [idx, cnt, s, o / 256, o % 256, if gone then 1 else 0]
def itemB (seq ver idx cnt s o : Nat) (gone : Bool) (k v : ByteArray) : List Nat := headIt seq ver idx cnt s o gone ++ k.size :: sb k ++ v.size :: sb v
/-- An item that may be, in plain numbers. -/
structure Plain (x : Item) (seq ver idx cnt s o : Nat) : Prop where
  hseq : x.seq = seq
  hver : x.ver = ver
  hidx : x.index = idx
  hcnt : x.count = cnt
  hs : part? x.a = some s
  ho : part? x.b = some o
  seq2 : seq < 2 ^ 64
  ver2 : ver < 2 ^ 64
  cnt1 : 1 ≤ cnt
  cnt2 : cnt ≤ 255
  idx1 : idx < cnt
  s2 : s ≤ 254
  o2 : o ≤ 65535
  key1 : x.key.toList ≠ []
  key2 : x.key.size ≤ 48
  val2 : x.value.size ≤ 64
  gone1 : x.gone = false ∨ x.value.toList = []
theorem plain_of {x : Item} (h : mayB x = true) (h1 : 0 ≤ x.seq) (h2 : x.seq < 2 ^ 64) (h3 : 0 ≤ x.ver) (h4 : x.ver < 2 ^ 64) : ∃ seq ver idx cnt s o, Plain x seq ver idx cnt s o := by
  rw [mayB_rest, Bool.and_eq_true] at h
  obtain ⟨hp, hr⟩ := h
  obtain ⟨⟨c1, c2, c3, c4⟩, c5, c6, c7, c8⟩ := (restB_iff x).1 hr
  unfold placeOk parts? at hp
  cases ha : part? x.a with
  | none => rw [ha] at hp; cases hp
  | some s =>
    cases hb : part? x.b with
    | none => rw [ha, hb] at hp; cases hp
    | some o =>
      rw [ha, hb] at hp
      have hso : s ≤ 254 ∧ o ≤ 65535 := by simpa using hp
      exact ⟨x.seq.toNat, x.ver.toNat, x.index.toNat, x.count.toNat, s, o, by omega, by omega, by omega, by omega, ha, hb, by omega, by omega, by omega, by omega, by omega, hso.1, hso.2, c5, by omega, by omega, c8⟩

set_option maxHeartbeats 4000000 in
set_option maxRecDepth 100000 in
theorem ringPut_no (x : Item) (w : World) (h : mayB x = false) : Makes 139 #[x.val] w (.tuple #[.slice none 0 0, i64 1]) := by
  have g0 := may_any x
  rw [h] at g0
  have G0 := fun W => Lib.hid (g0 W)
  clear g0
  go_enter Tryz.func139, Tryz.ntmps139
  go_wp2_with fail
  refine (G0 _).out.mono ?_; rintro e w1 ⟨rfl, hb1⟩
  go_wp2_with fail
  go_ret2
  exact ⟨rfl, Base.tr (Base.al (Below.refl _ _) _) hb1⟩

theorem cell_drew (w : World) (a : Addr) : w.drew.cell? a = w.cell? a := rfl

set_option maxHeartbeats 4000000 in
set_option maxRecDepth 100000 in
theorem ringPut_yes (x : Item) (seq ver idx cnt s o : Nat) (w : World) (hm : mayB x = true) (h : Plain x seq ver idx cnt s o) :
    Calls Tryz.prog 139 #[x.val] w fun e w' => ∃ ad n c, e = .returned (.tuple #[.slice (some ad) n c, i64 0]) ∧ Byt w' (.slice (some ad) n c) (itemB seq ver idx cnt s o x.gone x.key x.value) ∧ Below w.heap.size w w' := by
  have g0 := may_any x
  rw [hm] at g0
  have G0 := fun W => Lib.hid (g0 W)
  obtain ⟨xs, xv, xi, xc, a, b, gone, key, value⟩ := x
  obtain ⟨rfl, rfl, rfl, rfl, ha, hb, s2, v2, c1, c2, i1, p1, p2, k1, k2, l2, -⟩ := h
  simp only at ha hb k2 l2 G0
  have g1 := fun W => put_any none 0 0 [] 8 seq W (Sl.nil _ _) (by decide) (by decide) (by decide)
  unfold Own1 at g1
  rw [show (([] : List Nat) ++ be 8 seq).length = 8 by simp [be_len], List.nil_append] at g1
  have G1 := fun W => Lib.hid (g1 W)
  have g2 := fun W o (h : Byt W (.slice (some ⟨o, 0, none⟩) 8 8) (be 8 seq)) => put_any _ 8 8 (be 8 seq) 8 ver W h (by decide) (by decide) (by simp [be_len])
  unfold Own1 at g2
  rw [show (be 8 seq ++ be 8 ver).length = 16 by simp [be_len]] at g2
  have G2 := fun W o h => Lib.hid (g2 W o h)
  have G3 := fun W => Lib.hid (put_in a b s o W ha hb (by omega) (by omega))
  have G4 := fun A n cap l s W h hs hm => Lib.hid (putText_any A n cap l s W h hs hm)
  clear g0 hm k1 g1 g2
  go_enter Tryz.func139, Tryz.ntmps139
  go_wp2_with fail
  refine (G0 _).out.mono ?_; rintro e w1 ⟨rfl, hb1⟩
  have hB1 := Base.tr (Base.al (Below.refl _ w) (.cells #[.int .u64 seq, .int .u64 ver, i64 idx, i64 cnt, cx a b, .bool gone, .string key, .string value] 129)) hb1
  obtain ⟨q1, -⟩ := rd hb1
  have hs1 : w.heap.size < w1.heap.size := by have := hb1.size; simp at this; omega
  go_wp2_with fail
  refine wp_region_ph (D := fun w' => ∃ p : OnOf _, w' = p.v) 7 [2, 5] (by kernel_rfl) (by kernel_rfl) ⟨⟨_, Base.dr (Below.refl _ _)⟩, rfl⟩ ?_
  simp only [List.take_succ_cons, List.take_zero, List.drop_succ_cons, List.drop_zero]
  have on0 := @on_rd0; have on1 := @on_rd1; have on2 := @on_rd2; have on3 := @on_new1; have on4 := @on_new2; have on5 := @gr_rd0
  repeat ((with_reducible refine head_quiet ?_ ?_); (focus rfl); (intro K hK); go_simp; first | ((with_reducible refine hK _ ?_); clear hK K) | (rw [if_neg (by intro h; cases h)]; (with_reducible refine hK _ ?_); clear hK K) | (apply Exists.intro; refine ⟨fun _ => ?_, hK _ ?_⟩; (fail); clear hK K))
  refine head_call (by rfl) rfl (.slice (some ⟨w1.heap.size, 0, none⟩) 8 8) (w1.drew.alloc (.cells ((be 8 seq).map bv).toArray 5)) ?_ ⟨⟨_, Base.al (Base.dr (Below.refl _ _)) _⟩, rfl⟩ ?_
  · unfold effAt
    go_simp
    exact ⟨rfl, (G1 w1.drew).out⟩
  repeat ((with_reducible refine head_quiet ?_ ?_); (focus rfl); (intro K hK); go_simp; first | ((with_reducible refine hK _ ?_); clear hK K) | (rw [if_neg (by intro h; cases h)]; (with_reducible refine hK _ ?_); clear hK K) | (apply Exists.intro; refine ⟨fun _ => ?_, hK _ ?_⟩; (fail); clear hK K))
  refine head_call (by rfl) rfl (.slice (some ⟨w1.heap.size + 1, 0, none⟩) 16 16) (((w1.drew.alloc (.cells ((be 8 seq).map bv).toArray 5))).alloc (.cells ((be 8 seq ++ be 8 ver).map bv).toArray 5)) ?_ ⟨⟨_, Base.al (Base.al (Base.dr (Below.refl _ _)) _) _⟩, rfl⟩ ?_
  · have hy := Byt.fresh (blk_new w1.drew (.cells ((be 8 seq).map bv).toArray 5)) (by simp [be_len])
    rw [be_len] at hy
    have hsz : (w1.drew.alloc (.cells ((be 8 seq).map bv).toArray 5)).heap.size = w1.heap.size + 1 := by simp
    have hp := (G2 _ _ hy).out
    rw [hsz] at hp
    unfold effAt
    go_simp
    refine ⟨rfl, ?_⟩
    rw [← List.map_append]
    exact hp
  repeat ((with_reducible refine head_quiet ?_ ?_); (focus rfl); (intro K hK); go_simp; first | ((with_reducible refine hK _ ?_); clear hK K) | (rw [if_neg (by intro h; cases h)]; (with_reducible refine hK _ ?_); clear hK K) | (apply Exists.intro; refine ⟨fun _ => ?_, hK _ ?_⟩; (fail); clear hK K))
  clear on0 on1 on2 on3 on4 on5
  with_reducible refine head_nil ?_
  with_reducible refine eq_intro ?_
  obtain ⟨w4, hw4⟩ : ∃ W, W = (w1.drew.alloc (.cells ((be 8 seq).map bv).toArray 5)).alloc (.cells ((be 8 seq ++ be 8 ver).map bv).toArray 5) := ⟨_, rfl⟩
  rw [← hw4]
  have hrow : w4.heap[w1.heap.size + 1]? = some (.cells ((be 8 seq ++ be 8 ver).map bv).toArray 5 (0, 0)) := by rw [hw4]; exact blk_new1 w1.drew _ _
  have hB4 : Below w.heap.size w w4 := by rw [hw4]; exact Base.al (Base.al (Base.dr hB1) _) _
  have hrd : ∀ o, w4.cell? ⟨w.heap.size, o, none⟩ = (#[.int .u64 seq, .int .u64 ver, i64 idx, i64 cnt, cx a b, .bool gone, .string key, .string value] : Array Value)[o]? := by
    intro o
    have h1 : w.heap.size < (w1.drew.alloc (.cells ((be 8 seq).map bv).toArray 5)).heap.size := by simp; omega
    rw [hw4, World.cell?_alloc_lt _ _ ⟨w.heap.size, o, none⟩ h1, World.cell?_alloc_lt w1.drew _ ⟨w.heap.size, o, none⟩ hs1, cell_drew, q1 _ _ (by simp)]
    exact cell_blk (blk_new _ _) _
  have hz4 : w.heap.size < w4.heap.size := by rw [hw4]; simp; omega
  clear hw4
  have r2 : w4.cell? ⟨w.heap.size, 2, none⟩ = some (i64 idx) := hrd 2
  have r3 : w4.cell? ⟨w.heap.size, 3, none⟩ = some (i64 cnt) := hrd 3
  have r4 : w4.cell? ⟨w.heap.size, 4, none⟩ = some (cx a b) := hrd 4
  have r5 : w4.cell? ⟨w.heap.size, 5, none⟩ = some (.bool gone) := hrd 5
  have r6 : w4.cell? ⟨w.heap.size, 6, none⟩ = some (.string key) := hrd 6
  have r7 : w4.cell? ⟨w.heap.size, 7, none⟩ = some (.string value) := hrd 7
  have hown : w4.ownsRow w.heap.size 5 1 (.slice (some ⟨w1.heap.size + 1, 0, none⟩) 16 16) 16 ((be 8 seq ++ be 8 ver).map bv) := ⟨by simp [be_len], .inr ⟨w1.heap.size + 1, 16, _, rfl, by omega, hrow, Nat.le_refl _, by unfold maxLen; omega, by simp [be_len], List.take_of_length_le (by simp [be_len])⟩⟩
  clear hrd hrow q1 hb1 G0 G1 G2
  obtain ⟨gz, hgz⟩ : ∃ gz : Nat, gz = if gone then 1 else 0 := ⟨_, rfl⟩
  have hhead : (headIt seq ver idx cnt s o gone).map bv = (be 8 seq ++ be 8 ver).map bv ++ [.int .u8 (idx : Int), .int .u8 (cnt : Int), .int .u8 (s : Int), .int .u8 ((o : Int) / 256), .int .u8 ((o : Int) % 256), .int .u8 (gz : Int)] := by
    unfold headIt
    rw [List.map_append, ← hgz]; rfl
  have hhl : (headIt seq ver idx cnt s o gone).length = 22 := by unfold headIt; simp [be_len]
  obtain ⟨i0, hi, hz0, hz1, hz2⟩ := info_parts info_u8
  have hown5 := own_below hown (Base.al (Base.al (Below.refl _ w4) (bytes3 s (o / 256) (o % 256))) (.cells #[.int .u8 (s : Int), .int .u8 ((o : Int) / 256), .int .u8 ((o : Int) % 256)] 302))
  have hB5 := Base.al (Base.al hB4 (bytes3 s (o / 256) (o % 256))) (.cells #[.int .u8 (s : Int), .int .u8 ((o : Int) / 256), .int .u8 ((o : Int) % 256)] 302)
  have HH := Lib.hid hhead
  have HL := Lib.hid hhl
  have HO := Lib.hid hown5
  have HB := Lib.hid hB5
  clear hhead hhl hown hown5 hB5
  cases gone
  · simp only [Bool.false_eq_true, if_false, if_true] at hgz
    subst hgz
    go_wp2_with fail
    refine (G3 _).out.mono ?_; rintro e w' ⟨rfl, rfl⟩
    go_wp2_with (at_builtin; refine wpList_append_own _ rfl _ _ 22 rfl w.heap.size 5 i0 _ 1 1 Tryz.underlying22 hi hz0 hz1 hz2 rfl (by decide) _ _ _ rfl (HO.out.alloc _) ⟨w4.heap.size + 1 + 1, 0, none⟩ 6 6 [.int .u8 (idx : Int), .int .u8 (cnt : Int), .int .u8 (s : Int), .int .u8 ((o : Int) / 256), .int .u8 ((o : Int) % 256), .int .u8 0] rfl rfl ?c1 ?c2 ?c3 ?c4 ?c5 ?_)
    case c1 => exact news_at (by simp) _ _
    case c2 => simp [Value.oneCell']
    case c3 => unfold maxLen; omega
    case c4 => omega
    case c5 => have := HB.out.size; simp at this; simp; omega
    intro v' w6 hown6 hgrow _
    have hB6 := Base.gr (Base.al HB.out _) hgrow (fun g hg => (HO.out.lt g hg).1)
    have hn1 : some w.heap.size ≠ (Value.slice (some ⟨w1.heap.size + 1, 0, none⟩) 16 16).ownBlock := by
      intro e
      injection e with e
      have e2 : w.heap.size = w1.heap.size + 1 := e
      omega
    have c6 : w6.cell? ⟨w.heap.size, 6, none⟩ = some (.string key) := by
      rw [grown_cell hgrow (by simp; omega) hn1, World.cell?_alloc_lt _ _ ⟨w.heap.size, 6, none⟩ (by simp; omega), World.cell?_alloc_lt _ _ ⟨w.heap.size, 6, none⟩ (by simp; omega), World.cell?_alloc_lt _ _ ⟨w.heap.size, 6, none⟩ hz4]
      exact r6
    have c7 : w6.cell? ⟨w.heap.size, 7, none⟩ = some (.string value) := by
      rw [grown_cell hgrow (by simp; omega) hn1, World.cell?_alloc_lt _ _ ⟨w.heap.size, 7, none⟩ (by simp; omega), World.cell?_alloc_lt _ _ ⟨w.heap.size, 7, none⟩ (by simp; omega), World.cell?_alloc_lt _ _ ⟨w.heap.size, 7, none⟩ hz4]
      exact r7
    have hz6 : w.heap.size < w6.heap.size := by have := hgrow.size; simp at this; omega
    have hown7 : w6.ownsRow w.heap.size 5 1 v' (headIt seq ver idx cnt s o false).length ((headIt seq ver idx cnt s o false).map bv) := by
      rw [HL.out, HH.out]
      simpa using hown6
    have hbyt := own_Byt hown7
    rw [HL.out] at hown7
    obtain ⟨g, gc, rfl, -⟩ := own_pos hown7 (by omega) (by omega)
    have hl7 : (headIt seq ver idx cnt s o false).length ≤ 22 := by rw [HL.out]; exact Nat.le_refl _
    generalize hhd : headIt seq ver idx cnt s o false = hd at *
    clear hgrow hown6 hown7 HO HB HH HL r2 r3 r4 r5 r6 r7
    have p1 := fun W (hW : Below w6.heap.size w6 W) => (G4 _ _ _ hd key W (Sl.below hbyt hW) (by omega) (by omega)).out
    unfold Own1 at p1
    have hl8 : (hd ++ key.size :: sb key).length ≤ 100000 := by rw [List.length_append, List.length_cons, sb_len]; omega
    have hit : itemB seq ver idx cnt s o false key value = hd ++ key.size :: sb key ++ value.size :: sb value := by unfold itemB; rw [hhd]
    have HIT := Lib.hid hit
    clear hit
    generalize hd ++ key.size :: sb key = l1 at *
    have p2 := fun W o n (hW : Byt W (.slice (some ⟨o, 0, none⟩) n n) l1) => (G4 _ _ _ l1 value W hW (by omega) hl8).out
    unfold Own1 at p2
    have hl9 : (l1 ++ value.size :: sb value).length ≤ 200000 := by rw [List.length_append, List.length_cons, sb_len]; omega
    generalize l1 ++ value.size :: sb value = l2 at *
    go_wp2_with fail
    refine wp_region_ph (D := fun w' => ∃ p : OnOf w6, w' = p.v) 9 [3, 6] (by kernel_rfl) (by kernel_rfl) ⟨⟨_, Base.dr (Below.refl _ _)⟩, rfl⟩ ?_
    simp only [List.take_succ_cons, List.take_zero, List.drop_succ_cons, List.drop_zero]
    have on0 := @on_rd0; have on1 := @on_rd1; have on2 := @on_rd2; have on3 := @on_new1; have on4 := @on_new2; have on5 := @gr_rd0
    repeat ((with_reducible refine head_quiet ?_ ?_); (focus rfl); (intro K hK); go_simp; first | ((with_reducible refine hK _ ?_); clear hK K) | (rw [if_neg (by intro h; cases h)]; (with_reducible refine hK _ ?_); clear hK K) | (apply Exists.intro; refine ⟨fun _ => ?_, hK _ ?_⟩; (fail); clear hK K))
    refine head_call (by rfl) rfl (.slice (some ⟨w6.heap.size, 0, none⟩) l1.length l1.length) (w6.drew.alloc (.cells (l1.map bv).toArray 5)) ?_ ⟨⟨_, Base.al (Base.dr (Below.refl _ _)) _⟩, rfl⟩ ?_
    · unfold effAt
      go_simp
      exact ⟨rfl, p1 w6.drew (Base.dr (Below.refl _ _))⟩
    repeat ((with_reducible refine head_quiet ?_ ?_); (focus rfl); (intro K hK); go_simp; first | ((with_reducible refine hK _ ?_); clear hK K) | (rw [if_neg (by intro h; cases h)]; (with_reducible refine hK _ ?_); clear hK K) | (apply Exists.intro; refine ⟨fun _ => ?_, hK _ ?_⟩; (fail); clear hK K))
    refine head_call (by rfl) rfl (.slice (some ⟨w6.heap.size + 1, 0, none⟩) l2.length l2.length) (((w6.drew.alloc (.cells (l1.map bv).toArray 5))).alloc (.cells (l2.map bv).toArray 5)) ?_ ⟨⟨_, Base.al (Base.al (Base.dr (Below.refl _ _)) _) _⟩, rfl⟩ ?_
    · have hy := Byt.fresh (blk_new w6.drew (.cells (l1.map bv).toArray 5)) (by omega)
      have hp := p2 _ _ _ hy
      have hsz : (w6.drew.alloc (.cells (l1.map bv).toArray 5)).heap.size = w6.heap.size + 1 := by simp
      rw [hsz] at hp
      unfold effAt
      go_simp
      exact ⟨rfl, hp⟩
    repeat ((with_reducible refine head_quiet ?_ ?_); (focus rfl); (intro K hK); go_simp; first | ((with_reducible refine hK _ ?_); clear hK K) | (rw [if_neg (by intro h; cases h)]; (with_reducible refine hK _ ?_); clear hK K) | (apply Exists.intro; refine ⟨fun _ => ?_, hK _ ?_⟩; (fail); clear hK K))
    clear on0 on1 on2 on3 on4 on5
    with_reducible refine head_nil ?_
    with_reducible refine eq_intro ?_
    go_wp2_with fail
    go_ret2
    refine ⟨_, _, _, rfl, ?_, Base.al (Base.al (Base.dr hB6) _) _⟩
    rw [HIT.out]
    exact Byt.fresh (blk_new1 w6.drew _ _) (by omega)
  · simp only [Bool.false_eq_true, if_false, if_true] at hgz
    subst hgz
    go_wp2_with fail
    refine (G3 _).out.mono ?_; rintro e w' ⟨rfl, rfl⟩
    go_wp2_with (at_builtin; refine wpList_append_own _ rfl _ _ 22 rfl w.heap.size 5 i0 _ 1 1 Tryz.underlying22 hi hz0 hz1 hz2 rfl (by decide) _ _ _ rfl (HO.out.alloc _) ⟨w4.heap.size + 1 + 1, 0, none⟩ 6 6 [.int .u8 (idx : Int), .int .u8 (cnt : Int), .int .u8 (s : Int), .int .u8 ((o : Int) / 256), .int .u8 ((o : Int) % 256), .int .u8 1] rfl rfl ?c1 ?c2 ?c3 ?c4 ?c5 ?_)
    case c1 => exact news_at (by simp) _ _
    case c2 => simp [Value.oneCell']
    case c3 => unfold maxLen; omega
    case c4 => omega
    case c5 => have := HB.out.size; simp at this; simp; omega
    intro v' w6 hown6 hgrow _
    have hB6 := Base.gr (Base.al HB.out _) hgrow (fun g hg => (HO.out.lt g hg).1)
    have hn1 : some w.heap.size ≠ (Value.slice (some ⟨w1.heap.size + 1, 0, none⟩) 16 16).ownBlock := by
      intro e
      injection e with e
      have e2 : w.heap.size = w1.heap.size + 1 := e
      omega
    have c6 : w6.cell? ⟨w.heap.size, 6, none⟩ = some (.string key) := by
      rw [grown_cell hgrow (by simp; omega) hn1, World.cell?_alloc_lt _ _ ⟨w.heap.size, 6, none⟩ (by simp; omega), World.cell?_alloc_lt _ _ ⟨w.heap.size, 6, none⟩ (by simp; omega), World.cell?_alloc_lt _ _ ⟨w.heap.size, 6, none⟩ hz4]
      exact r6
    have c7 : w6.cell? ⟨w.heap.size, 7, none⟩ = some (.string value) := by
      rw [grown_cell hgrow (by simp; omega) hn1, World.cell?_alloc_lt _ _ ⟨w.heap.size, 7, none⟩ (by simp; omega), World.cell?_alloc_lt _ _ ⟨w.heap.size, 7, none⟩ (by simp; omega), World.cell?_alloc_lt _ _ ⟨w.heap.size, 7, none⟩ hz4]
      exact r7
    have hz6 : w.heap.size < w6.heap.size := by have := hgrow.size; simp at this; omega
    have hown7 : w6.ownsRow w.heap.size 5 1 v' (headIt seq ver idx cnt s o true).length ((headIt seq ver idx cnt s o true).map bv) := by
      rw [HL.out, HH.out]
      simpa using hown6
    have hbyt := own_Byt hown7
    rw [HL.out] at hown7
    obtain ⟨g, gc, rfl, -⟩ := own_pos hown7 (by omega) (by omega)
    have hl7 : (headIt seq ver idx cnt s o true).length ≤ 22 := by rw [HL.out]; exact Nat.le_refl _
    generalize hhd : headIt seq ver idx cnt s o true = hd at *
    clear hgrow hown6 hown7 HO HB HH HL r2 r3 r4 r5 r6 r7
    have p1 := fun W (hW : Below w6.heap.size w6 W) => (G4 _ _ _ hd key W (Sl.below hbyt hW) (by omega) (by omega)).out
    unfold Own1 at p1
    have hl8 : (hd ++ key.size :: sb key).length ≤ 100000 := by rw [List.length_append, List.length_cons, sb_len]; omega
    have hit : itemB seq ver idx cnt s o true key value = hd ++ key.size :: sb key ++ value.size :: sb value := by unfold itemB; rw [hhd]
    have HIT := Lib.hid hit
    clear hit
    generalize hd ++ key.size :: sb key = l1 at *
    have p2 := fun W o n (hW : Byt W (.slice (some ⟨o, 0, none⟩) n n) l1) => (G4 _ _ _ l1 value W hW (by omega) hl8).out
    unfold Own1 at p2
    have hl9 : (l1 ++ value.size :: sb value).length ≤ 200000 := by rw [List.length_append, List.length_cons, sb_len]; omega
    generalize l1 ++ value.size :: sb value = l2 at *
    go_wp2_with fail
    refine wp_region_ph (D := fun w' => ∃ p : OnOf w6, w' = p.v) 9 [3, 6] (by kernel_rfl) (by kernel_rfl) ⟨⟨_, Base.dr (Below.refl _ _)⟩, rfl⟩ ?_
    simp only [List.take_succ_cons, List.take_zero, List.drop_succ_cons, List.drop_zero]
    have on0 := @on_rd0; have on1 := @on_rd1; have on2 := @on_rd2; have on3 := @on_new1; have on4 := @on_new2; have on5 := @gr_rd0
    repeat ((with_reducible refine head_quiet ?_ ?_); (focus rfl); (intro K hK); go_simp; first | ((with_reducible refine hK _ ?_); clear hK K) | (rw [if_neg (by intro h; cases h)]; (with_reducible refine hK _ ?_); clear hK K) | (apply Exists.intro; refine ⟨fun _ => ?_, hK _ ?_⟩; (fail); clear hK K))
    refine head_call (by rfl) rfl (.slice (some ⟨w6.heap.size, 0, none⟩) l1.length l1.length) (w6.drew.alloc (.cells (l1.map bv).toArray 5)) ?_ ⟨⟨_, Base.al (Base.dr (Below.refl _ _)) _⟩, rfl⟩ ?_
    · unfold effAt
      go_simp
      exact ⟨rfl, p1 w6.drew (Base.dr (Below.refl _ _))⟩
    repeat ((with_reducible refine head_quiet ?_ ?_); (focus rfl); (intro K hK); go_simp; first | ((with_reducible refine hK _ ?_); clear hK K) | (rw [if_neg (by intro h; cases h)]; (with_reducible refine hK _ ?_); clear hK K) | (apply Exists.intro; refine ⟨fun _ => ?_, hK _ ?_⟩; (fail); clear hK K))
    refine head_call (by rfl) rfl (.slice (some ⟨w6.heap.size + 1, 0, none⟩) l2.length l2.length) (((w6.drew.alloc (.cells (l1.map bv).toArray 5))).alloc (.cells (l2.map bv).toArray 5)) ?_ ⟨⟨_, Base.al (Base.al (Base.dr (Below.refl _ _)) _) _⟩, rfl⟩ ?_
    · have hy := Byt.fresh (blk_new w6.drew (.cells (l1.map bv).toArray 5)) (by omega)
      have hp := p2 _ _ _ hy
      have hsz : (w6.drew.alloc (.cells (l1.map bv).toArray 5)).heap.size = w6.heap.size + 1 := by simp
      rw [hsz] at hp
      unfold effAt
      go_simp
      exact ⟨rfl, hp⟩
    repeat ((with_reducible refine head_quiet ?_ ?_); (focus rfl); (intro K hK); go_simp; first | ((with_reducible refine hK _ ?_); clear hK K) | (rw [if_neg (by intro h; cases h)]; (with_reducible refine hK _ ?_); clear hK K) | (apply Exists.intro; refine ⟨fun _ => ?_, hK _ ?_⟩; (fail); clear hK K))
    clear on0 on1 on2 on3 on4 on5
    with_reducible refine head_nil ?_
    with_reducible refine eq_intro ?_
    go_wp2_with fail
    go_ret2
    refine ⟨_, _, _, rfl, ?_, Base.al (Base.al (Base.dr hB6) _) _⟩
    rw [HIT.out]
    exact Byt.fresh (blk_new1 w6.drew _ _) (by omega)
end Go.Proofs.YthiimpleljaimaaGreatDoor

/- The reader of package ring: numbers and texts, errors stay. -/
namespace Go.Proofs.YthiimpleljaimaaGreatDoor
open Go.RowKit Flo

/-- A reader that stands at a, with error e. -/
abbrev RdAt (w : World) (r : Nat) (v : Value) (a e : Nat) : Prop := w.heap[r]? = some (.cells #[v, i64 a, i64 e] 333 (0, 0))
def pNum (l : List Nat) (k a e : Nat) : Nat × Nat × Nat := if e = 0 then pGet l a k else (0, a, e)
def pTxt (l : List Nat) (most a e : Nat) : List Nat × Nat × Nat := if e = 0 then pText l a most else ([], a, e)

set_option maxHeartbeats 4000000 in
set_option maxRecDepth 100000 in
theorem number_any (r : Nat) (A : Option Addr) (n cap : Nat) (l : List Nat) (k a e : Nat) (w : World) (h : RdAt w r (.slice A n cap) a e) (hy : Byt w (.slice A n cap) l) (hl : ∀ b ∈ l, b < 256) (ha : a ≤ l.length) (hk : 1 ≤ k) (hk2 : k ≤ 8) (hm : l.length ≤ 100000) :
    Calls Tryz.prog 238 #[.pointer (some ⟨r, 0, none⟩), i64 k] w fun en w' => en = .returned (.int .u64 (pNum l k a e).1) ∧ RdAt w' r (.slice A n cap) (pNum l k a e).2.1 (pNum l k a e).2.2 ∧ w.grownBy w' (some r) := by
  have c0 : w.cell? ⟨r, 0, none⟩ = some (.slice A n cap) := cell_blk h 0
  have c1 : w.cell? ⟨r, 1, none⟩ = some (i64 a) := cell_blk h 1
  have c2 : w.cell? ⟨r, 2, none⟩ = some (i64 e) := cell_blk h 2
  have hf := fun o => frozen_blk h o
  have hr : r < w.heap.size := (Array.getElem?_eq_some_iff.1 h).1
  by_cases he : e = 0
  · have hv : pNum l k a e = pGet l a k := if_pos he
    rw [hv]
    have G := fun p : OnOf w => Lib.hid (pkGet_any A n cap l a k p.v (Sl.below hy p.h) hl ha hk hk2 hm)
    generalize pGet l a k = q at *
    obtain ⟨q0, q1, q2⟩ := q
    simp only at G ⊢
    subst he
    clear hv
    go_enter Tryz.func238, Tryz.ntmps238
    go_wp2_with fail
    have k0 := fun p => on_cell (w := w) hr c0 p
    have k1 := fun p => on_cell (w := w) hr c1 p
    refine wp_region_quiet_on (by kernel_rfl) (by kernel_rfl) ?_
    repeat ((with_reducible refine wpQuiet_step (fun K hK => ?_)); go_simp; first | ((with_reducible refine hK _ ?_); clear hK K) | (rw [if_neg (by intro h; cases h)]; (with_reducible refine hK _ ?_); clear hK K) | (apply Exists.intro; refine ⟨fun _ => ?_, hK _ ?_⟩; ((with_reducible exact on_of_same (G _).out)); clear hK K))
    with_reducible refine wpQuiet_nil ?_
    intro _ hw'
    obtain ⟨pq, hw''⟩ := hw'
    subst hw''
    have h2 := blk_below h pq.h
    have hb2 := pq.h
    generalize pq.v = w2 at *
    have d0 : w2.cell? ⟨r, 0, none⟩ = some (.slice A n cap) := cell_blk h2 0
    have d1 : w2.cell? ⟨r, 1, none⟩ = some (i64 a) := cell_blk h2 1
    have d2 : w2.cell? ⟨r, 2, none⟩ = some (i64 (0 : Nat)) := cell_blk h2 2
    have df := fun o => frozen_blk h2 o
    clear c0 c1 c2 hf k0 k1 G
    go_wp2_with fail
    go_ret
    have h3 := heap_setCell (heap_setCell h2 1 (.int .i64 (q1 : Int))) 2 (.int .i64 (q2 : Int))
    refine ⟨rfl, by simpa using h3, ?_⟩
    exact grown_setCell (grown_setCell (grown_of_below _ hb2) _ _) _ _
  · have hv : pNum l k a e = (0, a, e) := if_neg he
    rw [hv]
    have t1 : ((e : Int) != 0) = true := by rw [bne_iff_ne]; omega
    clear hv he
    go_enter Tryz.func238, Tryz.ntmps238
    go_wp2_with fail
    go_ret
    exact ⟨rfl, h, grown_same _ _⟩

set_option maxHeartbeats 4000000 in
set_option maxRecDepth 100000 in
theorem text_any (r : Nat) (A : Option Addr) (n cap : Nat) (l : List Nat) (most a e : Nat) (w : World) (h : RdAt w r (.slice A n cap) a e) (hy : Byt w (.slice A n cap) l) (hl : ∀ b ∈ l, b < 256) (ha : a ≤ l.length) (hm : l.length ≤ 100000) :
    Calls Tryz.prog 240 #[.pointer (some ⟨r, 0, none⟩), i64 most] w fun en w' => en = .returned (.string (toB (pTxt l most a e).1)) ∧ RdAt w' r (.slice A n cap) (pTxt l most a e).2.1 (pTxt l most a e).2.2 ∧ w.grownBy w' (some r) := by
  have c0 : w.cell? ⟨r, 0, none⟩ = some (.slice A n cap) := cell_blk h 0
  have c1 : w.cell? ⟨r, 1, none⟩ = some (i64 a) := cell_blk h 1
  have c2 : w.cell? ⟨r, 2, none⟩ = some (i64 e) := cell_blk h 2
  have hf := fun o => frozen_blk h o
  have hr : r < w.heap.size := (Array.getElem?_eq_some_iff.1 h).1
  by_cases he : e = 0
  · have hv : pTxt l most a e = pText l a most := if_pos he
    rw [hv]
    have G := fun p : OnOf w => Lib.hid (pkText_any A n cap l a most p.v (Sl.below hy p.h) hl ha hm)
    generalize pText l a most = q at *
    obtain ⟨q0, q1, q2⟩ := q
    simp only at G ⊢
    subst he
    clear hv
    go_enter Tryz.func240, Tryz.ntmps240
    go_wp2_with fail
    have k0 := fun p => on_cell (w := w) hr c0 p
    have k1 := fun p => on_cell (w := w) hr c1 p
    refine wp_region_quiet_on (by kernel_rfl) (by kernel_rfl) ?_
    repeat ((with_reducible refine wpQuiet_step (fun K hK => ?_)); go_simp; first | ((with_reducible refine hK _ ?_); clear hK K) | (rw [if_neg (by intro h; cases h)]; (with_reducible refine hK _ ?_); clear hK K) | (apply Exists.intro; refine ⟨fun _ => ?_, hK _ ?_⟩; ((with_reducible exact on_of_same (G _).out)); clear hK K))
    with_reducible refine wpQuiet_nil ?_
    intro _ hw'
    obtain ⟨pq, hw''⟩ := hw'
    subst hw''
    have h2 := blk_below h pq.h
    have hb2 := pq.h
    generalize pq.v = w2 at *
    have d0 : w2.cell? ⟨r, 0, none⟩ = some (.slice A n cap) := cell_blk h2 0
    have d1 : w2.cell? ⟨r, 1, none⟩ = some (i64 a) := cell_blk h2 1
    have d2 : w2.cell? ⟨r, 2, none⟩ = some (i64 (0 : Nat)) := cell_blk h2 2
    have df := fun o => frozen_blk h2 o
    clear c0 c1 c2 hf k0 k1 G
    go_wp2_with fail
    go_ret
    have h3 := heap_setCell (heap_setCell h2 1 (.int .i64 (q1 : Int))) 2 (.int .i64 (q2 : Int))
    refine ⟨rfl, by simpa using h3, ?_⟩
    exact grown_setCell (grown_setCell (grown_of_below _ hb2) _ _) _ _
  · have hv : pTxt l most a e = ([], a, e) := if_neg he
    rw [hv]
    have t1 : ((e : Int) != 0) = true := by rw [bne_iff_ne]; omega
    clear hv he
    go_enter Tryz.func240, Tryz.ntmps240
    go_wp2_with fail
    go_ret
    exact ⟨rfl, h, grown_same _ _⟩
end Go.Proofs.YthiimpleljaimaaGreatDoor

