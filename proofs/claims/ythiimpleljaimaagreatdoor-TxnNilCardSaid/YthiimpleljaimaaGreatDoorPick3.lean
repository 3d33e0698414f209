/- pick.Blank, pick.Erase. -/
import Derived.Test.YthiimpleljaimaaGreatDoorMg20
import Derived.Deep.RegionHeld3
import Derived.Deep.DeepCutAuto
namespace Go.Proofs.YthiimpleljaimaaGreatDoor
open Go.RowKit

set_option maxHeartbeats 1000000 in
theorem Blank_any (A : Option Addr) (n cap : Nat) (l : List Info) (w : World) (h : Infos w (.slice A n cap) l) (hbig : l.length * 8 ≤ 140737488351232) :
    Makes 133 #[.slice A n cap] w (i64 (idx canBlank 0 l).length) := by
  have g1 := Lib.hid (of_blank canBlank A n cap l w h (fun x W => pkBlank_any x W) hbig)
  clear h
  go_enter Tryz.func133, Tryz.ntmps133
  go_wp2_with fail
  refine g1.out.mono ?_
  rintro e w1 ⟨v, rfl, hown, hb1⟩
  obtain ⟨B, cap2, rfl⟩ := own_slice hown
  clear hown
  go_wp2_with fail
  go_ret
  exact ⟨rfl, hb1⟩

/-- Wear that has run too far ahead. -/
def aheadB (a b : Int) : Bool := decide (b + 4 ≤ a)

set_option maxHeartbeats 1000000 in
theorem ahead_any (a b : Int) (w : World) (a0 : -1099511627776 ≤ a) (a1 : a ≤ 1099511627776) (b0 : -1099511627776 ≤ b) (b1 : b ≤ 1099511627776) : Gives 191 #[i64 a, i64 b] w (.bool (aheadB a b)) := by
  by_cases h : b ≤ a
  · go_enter Tryz.func191, Tryz.ntmps191
    go_wp2_with fail
    go_ret
    exact ⟨ret_bool (by unfold aheadB; rw [IntKind.wrap_u64, IntKind.wrap_u64, IntKind.wrap_u64]; exact decide_eq_decide.2 (by omega)), rfl⟩
  · have hv : aheadB a b = false := decide_eq_false (by omega)
    rw [hv]
    clear hv
    go_enter Tryz.func191, Tryz.ntmps191
    go_wp2_with fail
    go_ret
    exact ⟨rfl, rfl⟩

/-- Numbers that no walk runs out of. -/
def Mild (l : List Info) : Prop := ∀ x ∈ l, -1099511627776 ≤ x.wear ∧ x.wear ≤ 1099511627776
theorem Mild.gi {l : List Info} (h : Mild l) (i : Int) : -1099511627776 ≤ (gi l i).wear ∧ (gi l i).wear ≤ 1099511627776 := by
  unfold Go.Proofs.YthiimpleljaimaaGreatDoor.gi
  by_cases hi : i.toNat < l.length
  · rw [List.getD_eq_getElem?_getD, List.getElem?_eq_getElem hi]; exact h _ (List.getElem_mem _)
  · rw [List.getD_eq_getElem?_getD, List.getElem?_eq_none (by omega)]; simp

/-! ### The functions that Erase hands to DeleteFunc -/
section
variable (A : Option Addr) (n cap : Nat) (l : List Info) (p1 p2 : Nat) (x y : Nat) (hx : x < l.length) (hy : y < l.length)
include hx hy

set_option maxHeartbeats 1000000 in
set_option maxRecDepth 100000 in
theorem erase2_any (hm : Mild l) (w : World) (h : Infos w (.slice A n cap) l) (h1 : w.cell? ⟨p1, 0, none⟩ = some (.slice A n cap)) (h2 : w.cell? ⟨p2, 0, none⟩ = some (i64 y)) :
    Makes 190 #[i64 x, .pointer (some ⟨p1, 0, none⟩), .pointer (some ⟨p2, 0, none⟩)] w (.bool (aheadB (gi l x).wear (gi l y).wear)) := by
  have hn := h.len
  rw [List.length_map] at hn
  subst hn
  have m1 := hm.gi x
  have m2 := hm.gi y
  rw [gi_of hx] at *
  rw [gi_of hy] at *
  obtain ⟨b, off, rfl, hbs, _, _, a2, _, _, _⟩ := Infos.cells h hx
  obtain ⟨b', off', hbo, _, _, _, c2, _, _, _⟩ := Infos.cells h hy
  injection hbo with hbo
  injection hbo with hb1 hb2
  subst hb1; subst hb2
  have g := fun W => Lib.hid (ahead_any l[x].wear l[y].wear W m1.1 m1.2 m2.1 m2.2)
  have hx1 : (x : Int) < (l.length : Int) := by omega
  have hy1 : (y : Int) < (l.length : Int) := by omega
  have hx0 : (0 : Int) ≤ (x : Int) := by omega
  have hy0 : (0 : Int) ≤ (y : Int) := by omega
  clear m1 m2
  go_enter Tryz.func190, Tryz.ntmps190
  go_wp2_with fail
  go_quiet ((with_reducible exact Calls.quiet_of_same (g _).out))
  go_wp2_with fail
  go_ret
  exact ⟨rfl, Base.dn (Below.refl _ _) _⟩

set_option maxHeartbeats 1000000 in
set_option maxRecDepth 100000 in
theorem erase3_any (w : World) (h : Infos w (.slice A n cap) l) (h1 : w.cell? ⟨p1, 0, none⟩ = some (.slice A n cap)) (h2 : w.cell? ⟨p2, 0, none⟩ = some (i64 y)) :
    Makes 192 #[i64 x, .pointer (some ⟨p1, 0, none⟩), .pointer (some ⟨p2, 0, none⟩)] w (.bool (decide ((gi l y).wear < (gi l x).wear))) := by
  have hn := h.len
  rw [List.length_map] at hn
  subst hn
  rw [gi_of hx, gi_of hy]
  obtain ⟨b, off, rfl, hbs, _, _, a2, _, _, _⟩ := Infos.cells h hx
  obtain ⟨b', off', hbo, _, _, _, c2, _, _, _⟩ := Infos.cells h hy
  injection hbo with hbo
  injection hbo with hb1 hb2
  subst hb1; subst hb2
  have hx1 : (x : Int) < (l.length : Int) := by omega
  have hy1 : (y : Int) < (l.length : Int) := by omega
  have hx0 : (0 : Int) ≤ (x : Int) := by omega
  have hy0 : (0 : Int) ≤ (y : Int) := by omega
  go_enter Tryz.func192, Tryz.ntmps192
  go_wp2_with fail
  go_quiet (fail)
  go_wp2_with fail
  go_ret
  exact ⟨rfl, Base.dn (Below.refl _ _) _⟩

omit hy in
set_option maxHeartbeats 1000000 in
set_option maxRecDepth 100000 in
theorem erase4_any (w : World) (h : Infos w (.slice A n cap) l) (h1 : w.cell? ⟨p1, 0, none⟩ = some (.slice A n cap)) :
    Makes 193 #[i64 x, .pointer (some ⟨p1, 0, none⟩)] w (.bool (!noNeed (gi l x))) := by
  have hn := h.len
  rw [List.length_map] at hn
  subst hn
  rw [gi_of hx]
  obtain ⟨b, off, rfl, hbs, a0, a1, a2, a3, a4, a5⟩ := Infos.cells h hx
  have g0 := fun W => needless_any l[x] W
  have hv : (decide (l[x].need = 0) || decide (l[x].cls = 2)) = noNeed l[x] := rfl
  rw [hv] at g0
  have g := fun W => Lib.hid (g0 W)
  have hx1 : (x : Int) < (l.length : Int) := by omega
  clear hv g0
  go_enter Tryz.func193, Tryz.ntmps193
  go_wp2_with fail
  refine (g _).out.mono ?_; rintro e w1 ⟨rfl, hb1⟩
  go_wp2_with fail
  go_ret
  exact ⟨rfl, hb1⟩
end

/-! ### Erase -/
def freeB (x : Info) : Bool := !x.held
def eraseLow (l : List Info) : List Int :=
  let all := idx canErase 0 l
  let first := leastOf cWear l (idx freeB 0 l)
  let worn := leastOf cWear l all
  let near := all.filter fun i => !aheadB (gi l i).wear (gi l first).wear
  if near = [] then all.filter fun i => !decide ((gi l worn).wear < (gi l i).wear)
  else
    let free := near.filter fun i => !(!noNeed (gi l i))
    if free = [] then near else free
def eraseIx (l : List Info) : Int := if idx canErase 0 l = [] then 0 else leastOf cAge l (eraseLow l)
def eraseOk (l : List Info) : Bool := someB (idx canErase 0 l) && someB (eraseLow l)

theorem enters65 : Enters 190 := fun _ _ => by kernel_rfl
theorem enters67 : Enters 192 := fun _ _ => by kernel_rfl
theorem enters68 : Enters 193 := fun _ _ => by kernel_rfl

/-- An owned row that is not empty: its block. -/
theorem own_row {w : World} {base : Nat} {A : Option Addr} {cap : Nat} {xs : List Int} (h : w.ownsRow base 3 1 (.slice A xs.length cap) xs.length (xs.map (Value.int .i64))) (hne : xs ≠ []) :
    ∃ g cur, A = some ⟨g, 0, none⟩ ∧ base ≤ g ∧ w.heap[g]? = some (.cells cur 3 (0, 0)) ∧ xs.length ≤ cap ∧ cap ≤ maxLen ∧ cur.size = cap ∧ cur.toList.take xs.length = xs.map (Value.int .i64) := by
  have hpos : 0 < xs.length := List.length_pos_iff.2 hne
  rcases h.2 with ⟨hv, hn⟩ | ⟨g, cap', cur, hv, hb, hg, hn, hm, hc, ht⟩
  · omega
  · injection hv with h1 _ h3
    subst h1; subst h3
    exact ⟨g, cur, rfl, hb, hg, hn, hm, by simpa using hc, by simpa using ht⟩

theorem row_own {W : World} {base g cap : Nat} {cur : Array Value} {xs : List Int} (hg : W.heap[g]? = some (.cells cur 3 (0, 0))) (hn : xs.length ≤ cap) (hm : cap ≤ maxLen) (hc : cur.size = cap) (ht : cur.toList.take xs.length = xs.map (Value.int .i64)) (hb : base ≤ g) :
    W.ownsRow base 3 1 (.slice (some ⟨g, 0, none⟩) xs.length cap) xs.length (xs.map (Value.int .i64)) :=
  ⟨by simp, .inr ⟨g, cap, cur, rfl, hb, hg, hn, hm, by simpa using hc, by simpa using ht⟩⟩
/-- A slice of the caller's, behind a change of one block of one's own. -/
theorem Sl.grown {w v u : World} {k : Nat} {s : Value} {xs : List (List Value)} (h : Sl w k s xs) (hb : Below w.heap.size w v) {g : Nat} (hg : v.grownBy u (some g)) (hgw : w.heap.size ≤ g) : Sl u k s xs :=
  Sl.below h (Base.gr hb hg (fun k hk => by injection hk with hk; omega))
theorem nil_test {α : Type} {xs : List α} (h : xs = []) : (((xs.length : Nat) : Int) == 0) = true := by rw [h]; rfl
theorem cons_test {α : Type} {xs : List α} (h : xs ≠ []) : (((xs.length : Nat) : Int) == 0) = false := by
  have := List.length_pos_iff.2 h
  rw [beq_eq_false_iff_ne]; omega
theorem filter_sub {p : Int → Bool} {xs : List Int} {n : Int} (h : ∀ x ∈ xs, 0 ≤ x ∧ x < n) : ∀ x ∈ xs.filter p, 0 ≤ x ∧ x < n := fun x hx => h x (List.mem_filter.1 hx).1
theorem held_of {W Y : World} {p : Addr} {v : Value} (h : W.cell? p = some v) (hp : p.block < W.heap.size) (hb : Below W.heap.size W Y) : Y.cell? p = some v ∧ Below W.heap.size W Y :=
  ⟨by rw [hb.cell hp]; exact h, hb⟩
theorem held_step {W X Y : World} {p : Addr} {v : Value} (h : X.cell? p = some v ∧ Below W.heap.size W X) (hb : Below X.heap.size X Y) (hp : p.block < W.heap.size) : Y.cell? p = some v ∧ Below W.heap.size W Y :=
  ⟨by rw [hb.cell (Nat.lt_of_lt_of_le hp h.2.size)]; exact h.1, Base.tr h.2 hb⟩
theorem least_mem {c : Info → Info → Int} {l : List Info} {xs : List Int} (h : xs ≠ []) : leastOf c l xs ∈ xs := by
  unfold leastOf; rw [if_neg h]; exact minL_mem _ h

set_option maxHeartbeats 4000000 in
set_option maxRecDepth 100000 in
theorem Erase_any (A : Option Addr) (n cap : Nat) (l : List Info) (hm : Mild l) (w : World) (h : Infos w (.slice A n cap) l) (hbig : l.length * 8 ≤ 140737488351232) :
    Makes 135 #[.slice A n cap] w (.tuple #[i64 (eraseIx l), .bool (eraseOk l)]) := by
  have o1 := fun W hW => Lib.hid (of_erasable canErase A n cap l W hW (fun x W => erasable_any x W) hbig)
  have o2 := fun W hW => Lib.hid (of_free freeB A n cap l W hW (fun x W => free_any x W) hbig)
  have lw := fun (xs : List Int) hr W B m cap2 hw hi => Lib.hid (least_any 186 enters60 cWear (fun x y W => byWear_any x y W) A n cap l B m cap2 xs W hw hi hr)
  have la := fun (xs : List Int) hr W B m cap2 hw hi => Lib.hid (least_any 195 enters70 cAge (fun x y W => byAge_any x y W) A n cap l B m cap2 xs W hw hi hr)
  have r1 : ∀ x ∈ idx canErase 0 l, 0 ≤ x ∧ x < (l.length : Int) := fun x hx => by have := idx_range canErase l 0 x hx; omega
  have r2 : ∀ x ∈ idx freeB 0 l, 0 ≤ x ∧ x < (l.length : Int) := fun x hx => by have := idx_range freeB l 0 x hx; omega
  have H := Lib.hid h
  have R1 := Lib.hid r1
  have R2 := Lib.hid r2
  clear h r1 r2
  cases hall : idx canErase 0 l with
  | nil =>
    have hv : eraseIx l = 0 := if_pos hall
    have hv2 : eraseOk l = false := by unfold eraseOk; rw [hall]; rfl
    rw [hv, hv2]
    rw [hall] at o1
    clear hv hv2
    have HA := Lib.hid hall
    clear hall
    go_enter Tryz.func135, Tryz.ntmps135
    go_wp2_with fail
    refine (o1 _ (Sl.below H.out (Base.al (Below.refl _ _) _))).out.mono ?_
    rintro e w1 ⟨v, rfl, hown, hb1⟩
    obtain ⟨B, cap2, rfl⟩ := own_slice hown
    have hI2 := Lib.hid (own_Ints hown)
    obtain ⟨hc, hf⟩ := bcell hb1
    clear hown
    go_wp2_with fail
    refine (lw [] (by simp) _ _ _ _ (Sl.below H.out (Base.tr (Base.al (Below.refl _ _) _) hb1)) hI2.out).out.mono ?_
    rintro e w2 ⟨rfl, hb2⟩
    go_wp2_with fail
    go_ret2
    exact ⟨rfl, Base.al (Base.tr (Base.tr (Base.al (Below.refl _ _) _) hb1) hb2) _⟩
  | cons x0 xr =>
    obtain ⟨xa, hxa⟩ : ∃ xa, xa = idx canErase 0 l := ⟨_, rfl⟩
    obtain ⟨xf, hxf⟩ : ∃ xf, xf = idx freeB 0 l := ⟨_, rfl⟩
    obtain ⟨low, hlow⟩ : ∃ low, low = eraseLow l := ⟨_, rfl⟩
    have hne : xa ≠ [] := by rw [hxa, hall]; simp
    have hsome : someB xa = true := by rw [hxa, hall]; rfl
    have hv : eraseIx l = leastOf cAge l low := by unfold eraseIx; rw [← hxa, if_neg hne, hlow]
    have hv2 : eraseOk l = someB low := by unfold eraseOk; rw [← hxa, hsome, hlow, Bool.true_and]
    rw [hv, hv2]
    rw [← hxa] at o1 R1
    rw [← hxf] at o2 R2
    have lw1 := fun W B m cap2 hw hi => (lw xa R1.out W B m cap2 hw hi).out
    rw [hsome] at lw1
    have lw2 := fun W B m cap2 hw hi => (lw xf R2.out W B m cap2 hw hi).out
    have hxal : xa.length ≤ l.length := by rw [hxa]; exact idx_len canErase l 0
    have hworn := R1.out _ (least_mem (c := cWear) (l := l) hne)
    have hlow2 : low = (let near := xa.filter fun i => !aheadB (gi l i).wear (gi l (leastOf cWear l xf)).wear
        if near = [] then xa.filter fun i => !decide ((gi l (leastOf cWear l xa)).wear < (gi l i).wear)
        else
          let free := near.filter fun i => !(!noNeed (gi l i))
          if free = [] then near else free) := by rw [hlow, hxa, hxf]; rfl
    obtain ⟨worn, hwo⟩ : ∃ x, x = leastOf cWear l xa := ⟨_, rfl⟩
    obtain ⟨first, hfi⟩ : ∃ x, x = leastOf cWear l xf := ⟨_, rfl⟩
    rw [← hwo] at lw1 hworn hlow2
    rw [← hfi] at lw2 hlow2
    have hfirst : 0 ≤ first ∧ first < (l.length : Int) := by
      rw [hfi]
      by_cases he : xf = []
      · unfold leastOf; rw [if_pos he]; omega
      · exact R2.out _ (least_mem he)
    have LW1 := fun W B m cap2 hw hi => Lib.hid (lw1 W B m cap2 hw hi)
    have LW2 := fun W B m cap2 hw hi => Lib.hid (lw2 W B m cap2 hw hi)
    have NE := Lib.hid hne
    have LOW := Lib.hid hlow2
    clear hall hxa hxf hlow hsome hv hv2 lw lw1 lw2 hwo hfi hlow2 hne
    go_enter Tryz.func135, Tryz.ntmps135
    go_wp2_with fail
    refine (o1 _ (Sl.below H.out (Base.al (Below.refl _ _) _))).out.mono ?_
    rintro e w1 ⟨v, rfl, hown, hb1⟩
    obtain ⟨B, cap2, rfl⟩ := own_slice hown
    have hI2 := Lib.hid (own_Ints hown)
    have OWN := Lib.hid hown
    obtain ⟨hc, hf⟩ := bcell hb1
    clear hown
    go_wp2_with fail
    have hb01 := Base.tr (Base.al (Below.refl _ _) _) hb1
    refine (LW1 _ _ _ _ (Sl.below H.out hb01) hI2.out).out.mono ?_
    rintro e w2 ⟨rfl, hb2⟩
    have hb02 := Base.tr hb01 hb2
    have hP1 : w2.cell? ⟨w.heap.size, 0, none⟩ = some (.slice A n cap) := by
      rw [hb2.cell (p := ⟨w.heap.size, 0, none⟩) (by have := hb1.size; simp at this; show w.heap.size < _; omega)]
      rw [hb1.cell (p := ⟨w.heap.size, 0, none⟩) (by simp)]
      go_simp
    obtain ⟨w3, hw3⟩ : ∃ w3, w3 = w2.alloc (.cells #[.int .i64 worn] 3) := ⟨_, rfl⟩
    have hb3 : Below w2.heap.size w2 w3 := by rw [hw3]; exact Base.al (Below.refl _ _) _
    have hs3 : w3.heap.size = w2.heap.size + 1 := by rw [hw3]; simp
    have hP5 : w3.cell? ⟨w2.heap.size, 0, none⟩ = some (i64 worn) := by rw [hw3]; go_simp
    have hlt1 : w.heap.size < w2.heap.size := by have h1 := hb1.size; have h2 := hb2.size; simp at h1; omega
    have hP1' : w3.cell? ⟨w.heap.size, 0, none⟩ = some (.slice A n cap) := by rw [hb3.cell (p := ⟨w.heap.size, 0, none⟩) hlt1]; exact hP1
    have hb03 := Base.tr hb02 hb3
    have S3 := Lib.hid hs3
    have C5 := Lib.hid hP5
    have C1 := Lib.hid hP1'
    have hlt3 : w.heap.size < w3.heap.size := by omega
    clear hc hf hP1 hs3 hP5
    go_upto_region 5 with fail
    rw [← hw3]
    clear hw3
    go_cut [7, 8] (fun s7 s8 wx => ∃ q, s7 = .pointer (some ⟨q, 0, none⟩) ∧ (∃ bb, s8 = .bool bb) ∧ w3.heap.size ≤ q ∧ q < wx.heap.size ∧ wx.cell? ⟨q, 0, none⟩ = some (i64 first) ∧ Below w3.heap.size w3 wx)
    case first =>
      go_region_held3 (fun w' => w'.cell? ⟨w.heap.size, 0, none⟩ = some (.slice A n cap) ∧ Below w3.heap.size w3 w')
        (first | exact ⟨hP1', Base.dr (Below.refl _ _)⟩ | (refine held_of hP1' hlt3 ?_; repeat (first | assumption | exact Below.refl _ _ | refine Base.al ?_ _ | refine Base.dr ?_ | (refine Below.setCell ?_ (by first | (simp; done) | omega | (simp; omega)) _))))
        (first | (go_at_call 180; refine (o2 _ (by go_split_ands; exact Sl.below H.out (Base.tr hb03 (by assumption)))).out.mono ?_; rintro e w5 ⟨v5, rfl, hown5, hb5⟩; obtain ⟨B5, cap5, rfl⟩ := own_slice hown5; have hI5 := Lib.hid (own_Ints hown5); have hB5 := Base.tr (a := w3) (by go_split_ands; assumption) hb5; have hz5 := hB5.size; have hy5 := hb5.size; (try simp at hy5); obtain ⟨hcA, hfA⟩ := bcell hb5; (try have hl5 : w3.heap.size < w5.heap.size := by omega); clear hown5) | (go_at_call 185; refine (LW2 _ _ _ _ (by go_split_ands; exact Sl.below H.out (Base.tr hb03 (by assumption))) (by go_split_ands; exact Sl.below hI5.out (by first | exact Below.refl _ _ | exact Base.al (Below.refl _ _) _ | assumption))).out.mono ?_; rintro e w6 ⟨rfl, hb6⟩; have hB6 := Base.tr (a := w3) (by go_split_ands; assumption) hb6; have hz6 := hB6.size; have hy6 := hb6.size; (try simp at hy6); obtain ⟨hcB, hfB⟩ := bcell hb6; (try have hl6 : w5.heap.size < w6.heap.size := by omega); (try have hl7 : w3.heap.size < w6.heap.size := by omega)))
      all_goals (go_wp2_with fail; go_meet; refine ⟨_, rfl, ⟨_, rfl⟩, ?_, ?_, ?_, ?_⟩)
      · exact hz6
      · simp
      · go_simp
      · exact Base.al hB6 _
      · exact hz5
      · simp [World.setCell]; omega
      · go_simp
      · exact Below.setCell hB6 hz5 _
      · exact Nat.le_refl _
      · simp [World.setCell]; omega
      · go_simp
      · exact Below.setCell hB6 (Nat.le_refl _) _
    case rest =>
      obtain ⟨q, rfl, ⟨bb, rfl⟩, hq1, hq2, hq3, hb5⟩ := hcut
      have HB5 := Base.tr hb03 hb5
      have K1 : wc.cell? ⟨w.heap.size, 0, none⟩ = some (.slice A n cap) := by rw [hb5.cell (p := ⟨w.heap.size, 0, none⟩) hlt3]; exact hP1'
      have S3' := S3.out
      have K5 : wc.cell? ⟨w2.heap.size, 0, none⟩ = some (i64 worn) := by rw [hb5.cell (p := ⟨w2.heap.size, 0, none⟩) (by show w2.heap.size < _; omega)]; exact C5.out
      have hwc := hb5.size
      have hw2 := hb2.size
      obtain ⟨g1, cur1, rfl, hg1b, hg1, hn1, hm1, hc1, ht1⟩ := own_row OWN.out NE.out
      have hg1lt := (Array.getElem?_eq_some_iff.1 hg1).1
      have hg1c : wc.heap[g1]? = some (.cells cur1 3 (0, 0)) := by
        rw [hb5.block g1 (by omega), hb3.block g1 (by omega), hb2.block g1 hg1lt]; exact hg1
      have hg1w : w.heap.size < g1 := by simp at hg1b; omega
      have gc := Lib.hid (clone_own (.slice (some ⟨g1, 0, none⟩) xa.length cap2) xa w.heap.size wc (row_own hg1c hn1 hm1 hc1 ht1 (by omega)) (by omega))
      have G1 := Lib.hid hg1c
      have T1 := Lib.hid ht1
      clear hg1 hg1c ht1
      go_wp2_with fail
      refine gc.out.mono ?_
      rintro e w6 ⟨v6, rfl, hown6, hb6⟩
      obtain ⟨B6, cap6, rfl⟩ := own_slice hown6
      obtain ⟨g6, cur6, rfl, hg6b, hg6, hn6, hm6, hc6, ht6⟩ := own_row hown6 NE.out
      have hy6 := hb6.size
      have HB6 := Base.tr HB5 hb6
      have K1' : w6.cell? ⟨w.heap.size, 0, none⟩ = some (.slice A n cap) := by rw [hb6.cell (p := ⟨w.heap.size, 0, none⟩) (by show w.heap.size < _; omega)]; exact K1
      have Kq : w6.cell? ⟨q, 0, none⟩ = some (i64 first) := by rw [hb6.cell (p := ⟨q, 0, none⟩) hq2]; exact hq3
      have hdel := deleteFunc_row 190 #[.pointer (some ⟨w.heap.size, 0, none⟩), .pointer (some ⟨q, 0, none⟩)] enters65 (fun i => aheadB (gi l i).wear (gi l first).wear) g6 cap6 cur6 xa w6 hg6 hn6 hm6 hc6 ht6 (by
        intro x hx W hW
        obtain ⟨x0, x1⟩ := R1.out x hx
        have := erase2_any A n cap l w.heap.size q x.toNat first.toNat (by omega) (by omega) hm W (Sl.grown H.out HB6 hW (by omega)) (hW.cell K1' (by simp; omega)) (by rw [show ((first.toNat : Nat) : Int) = first from by omega]; exact hW.cell Kq (by simp; omega))
        rw [show ((x.toNat : Nat) : Int) = x from by omega, show ((first.toNat : Nat) : Int) = first from by omega] at this
        exact this)
      obtain ⟨near, hnear⟩ : ∃ near, near = xa.filter fun i => !aheadB (gi l i).wear (gi l first).wear := ⟨_, rfl⟩
      have hlowv := LOW.out
      rw [← hnear] at hdel hlowv
      have hnr : ∀ x ∈ near, 0 ≤ x ∧ x < (l.length : Int) := by rw [hnear]; exact filter_sub R1.out
      have hnl : near.length ≤ xa.length := by rw [hnear]; exact List.length_filter_le _ _
      have HD := Lib.hid hdel
      have LOWV := Lib.hid hlowv
      have NR := Lib.hid hnr
      clear hdel hlowv hnear hnr LOW
      go_wp2_with fail
      refine HD.out.mono ?_
      rintro e w7 ⟨rfl, hgr7, cur7, hg7, hc7, ht7⟩
      have hy7 := hgr7.size
      have HB7 := Base.gr HB6 hgr7 (fun k hk => by injection hk with hk; omega)
      by_cases hnn : near = []
      · have htest := nil_test hnn
        have hlo : low = xa.filter fun i => !decide ((gi l worn).wear < (gi l i).wear) := by rw [LOWV.out, if_pos hnn]
        have HLO := Lib.hid hlo
        have HNN := Lib.hid hnn
        have K1b : w7.cell? ⟨w.heap.size, 0, none⟩ = some (.slice A n cap) := hgr7.cell K1' (by simp; omega)
        have K5b : w7.cell? ⟨w2.heap.size, 0, none⟩ = some (i64 worn) := hgr7.cell (by rw [hb6.cell (p := ⟨w2.heap.size, 0, none⟩) (by show w2.heap.size < _; omega)]; exact K5) (by simp; omega)
        have hg1d : w7.heap[g1]? = some (.cells cur1 3 (0, 0)) := by
          rw [hgr7.block g1 (by omega) (by simp; omega), hb6.block g1 (by omega)]; exact G1.out
        have hdel2 := deleteFunc_row 192 #[.pointer (some ⟨w.heap.size, 0, none⟩), .pointer (some ⟨w2.heap.size, 0, none⟩)] enters67 (fun i => decide ((gi l worn).wear < (gi l i).wear)) g1 cap2 cur1 xa w7 hg1d hn1 hm1 hc1 T1.out (by
          intro x hx W hW
          obtain ⟨x0, x1⟩ := R1.out x hx
          have := erase3_any A n cap l w.heap.size w2.heap.size x.toNat worn.toNat (by omega) (by omega) W (Sl.grown H.out HB7 hW (by omega)) (hW.cell K1b (by simp; omega)) (by rw [show ((worn.toNat : Nat) : Int) = worn from by omega]; exact hW.cell K5b (by simp; omega))
          rw [show ((x.toNat : Nat) : Int) = x from by omega, show ((worn.toNat : Nat) : Int) = worn from by omega] at this
          exact this)
        rw [← hlo] at hdel2
        have hlr : ∀ x ∈ low, 0 ≤ x ∧ x < (l.length : Int) := by rw [hlo]; exact filter_sub R1.out
        have hll : low.length ≤ xa.length := by rw [hlo]; exact List.length_filter_le _ _
        have HD2 := Lib.hid hdel2
        have LR := Lib.hid hlr
        clear hdel2 hlo hnn hlr hg1d hg7 hc7 ht7 hgr7 K1' Kq K1 K5
        go_wp2_with fail
        refine HD2.out.mono ?_
        rintro e w8 ⟨rfl, hgr8, cur8, hg8, hc8, ht8⟩
        have HB8 := Base.gr HB7 hgr8 (fun k hk => by injection hk with hk; omega)
        have K1c : w8.cell? ⟨w.heap.size, 0, none⟩ = some (.slice A n cap) := hgr8.cell K1b (by simp; omega)
        have hI8 := own_Ints (row_own (base := 0) hg8 (by omega) hm1 hc8 ht8 (Nat.zero_le _))
        have I8 := Lib.hid hI8
        clear hg8 hc8 ht8 hgr8 hI8 K1b
        go_wp2_with fail
        refine (la low LR.out _ _ _ _ (Sl.below H.out HB8) I8.out).out.mono ?_
        rintro e w9 ⟨rfl, hb9⟩
        go_wp2_with fail
        go_ret2
        exact ⟨rfl, Base.tr HB8 hb9⟩
      · have htest := cons_test hnn
        have hown7 := row_own (base := w.heap.size) hg7 (by omega) hm6 hc7 ht7 (by omega)
        have gc2 := Lib.hid (clone_own (.slice (some ⟨g6, 0, none⟩) near.length cap6) near w.heap.size w7 hown7 (by omega))
        have K1b : w7.cell? ⟨w.heap.size, 0, none⟩ = some (.slice A n cap) := hgr7.cell K1' (by simp; omega)
        have I7 := Lib.hid (own_Ints hown7)
        have HNN := Lib.hid hnn
        have hg6lt : g6 < w7.heap.size := (Array.getElem?_eq_some_iff.1 hg7).1
        clear hown7 hg7 hc7 ht7 hgr7 K1' Kq K1 K5 hnn
        go_wp2_with fail
        refine gc2.out.mono ?_
        rintro e w8 ⟨v8, rfl, hown8, hb8⟩
        obtain ⟨B8, cap8, rfl⟩ := own_slice hown8
        obtain ⟨g8, cur8, rfl, hg8b, hg8, hn8, hm8, hc8, ht8⟩ := own_row hown8 HNN.out
        have hy8 := hb8.size
        have HB8 := Base.tr HB7 hb8
        have K1c : w8.cell? ⟨w.heap.size, 0, none⟩ = some (.slice A n cap) := by rw [hb8.cell (p := ⟨w.heap.size, 0, none⟩) (by show w.heap.size < _; omega)]; exact K1b
        have hdel3 := deleteFunc_row 193 #[.pointer (some ⟨w.heap.size, 0, none⟩)] enters68 (fun i => !noNeed (gi l i)) g8 cap8 cur8 near w8 hg8 hn8 hm8 hc8 ht8 (by
          intro x hx W hW
          obtain ⟨x0, x1⟩ := NR.out x hx
          have := erase4_any A n cap l w.heap.size x.toNat (by omega) W (Sl.grown H.out HB8 hW (by omega)) (hW.cell K1c (by simp; omega))
          rw [show ((x.toNat : Nat) : Int) = x from by omega] at this
          exact this)
        obtain ⟨free, hfree⟩ : ∃ free, free = near.filter fun i => !(!noNeed (gi l i)) := ⟨_, rfl⟩
        have hlowv := LOWV.out
        rw [if_neg HNN.out] at hlowv
        rw [← hfree] at hdel3 hlowv
        have hfr : ∀ x ∈ free, 0 ≤ x ∧ x < (l.length : Int) := by rw [hfree]; exact filter_sub NR.out
        have hfl : free.length ≤ near.length := by rw [hfree]; exact List.length_filter_le _ _
        have HD3 := Lib.hid hdel3
        have LOWV2 := Lib.hid hlowv
        have FR := Lib.hid hfr
        have I8 := Lib.hid (Sl.below I7.out hb8)
        clear hdel3 hlowv hfree hfr LOWV hown8
        go_wp2_with fail
        refine HD3.out.mono ?_
        rintro e w9 ⟨rfl, hgr9, cur9, hg9, hc9, ht9⟩
        have HB9 := Base.gr HB8 hgr9 (fun k hk => by injection hk with hk; omega)
        have K1d : w9.cell? ⟨w.heap.size, 0, none⟩ = some (.slice A n cap) := hgr9.cell K1c (by simp; omega)
        by_cases hff : free = []
        · have htest2 : ¬ (0 : Int) < (free.length : Int) := by rw [hff]; simp
          have hlo : low = near := by rw [LOWV2.out, if_pos hff]
          have hI9 : Ints w9 (.slice (some ⟨g6, 0, none⟩) near.length cap6) near := by
            have hh := I8.out
            obtain ⟨A', cp, e1, e2, e3, e4, e5⟩ := hh
            rw [List.length_map] at e5
            refine ⟨A', cp, e1, e2, e3, e4, fun h0 => ?_⟩
            obtain ⟨b, off, hA, hb, hx⟩ := e5 (by simpa using h0)
            have hAe : A' = some ⟨g6, 0, none⟩ := by injection e1 with e1; exact e1.symm
            have hbg : b = g6 := by rw [hAe] at hA; injection hA with hA; injection hA with h1 _ _; exact h1.symm
            refine ⟨b, off, hA, Nat.lt_of_lt_of_le hb hgr9.size, fun i x hi => ⟨(hx i x hi).1, fun j u hj => ?_⟩⟩
            exact hgr9.cell ((hx i x hi).2 j u hj) (by rw [hbg]; simp; omega)
          have I9 := Lib.hid hI9
          have HLO := Lib.hid hlo
          clear hff hlo hI9 hg9 hc9 ht9 hgr9 K1c K1b
          go_wp2_with fail
          refine (la near NR.out _ _ _ _ (Sl.below H.out HB9) I9.out).out.mono ?_
          rintro e w10 ⟨rfl, hb10⟩
          go_wp2_with fail
          go_ret2
          exact ⟨by rw [HLO.out]; rfl, Base.tr HB9 hb10⟩
        · have htest2 : (0 : Int) < (free.length : Int) := by have := List.length_pos_iff.2 hff; omega
          have hlo : low = free := by rw [LOWV2.out, if_neg hff]
          have I9 := Lib.hid (own_Ints (row_own (base := 0) hg9 (by omega) hm8 hc9 ht9 (Nat.zero_le _)))
          have HLO := Lib.hid hlo
          clear hff hlo hg9 hc9 ht9 hgr9 K1c K1b
          go_wp2_with fail
          refine (la free FR.out _ _ _ _ (Sl.below H.out HB9) I9.out).out.mono ?_
          rintro e w10 ⟨rfl, hb10⟩
          go_wp2_with fail
          go_ret2
          exact ⟨by rw [HLO.out]; rfl, Base.tr HB9 hb10⟩
end Go.Proofs.YthiimpleljaimaaGreatDoor
