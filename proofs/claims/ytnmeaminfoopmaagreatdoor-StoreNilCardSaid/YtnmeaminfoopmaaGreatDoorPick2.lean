/- More of package pick: the comparisons, least, Write, Blank, AtOnce, Oldest. -/
import Derived.Test.YtnmeaminfoopmaaGreatDoorSlices
import Derived.StillTailTactics
namespace Go.Proofs.YtnmeaminfoopmaaGreatDoor
open Go.RowKit

set_option maxHeartbeats 400000 in
theorem erasable_any (x : Info) (w : World) : Makes 86 #[x.val] w (.bool (decide (x.cls ≠ 0) && !x.isOpen && !x.held)) := by
  cases hb : x.held <;> cases ho : x.isOpen <;> by_cases hc : x.cls = 0
  all_goals
    go_enter Tryz.func86, Tryz.ntmps86
    go_wp2_with fail
    all_goals go_ret
    all_goals exact ⟨ret_bool (by simp [hc]), Base.al (Below.refl _ _) _⟩

set_option maxHeartbeats 400000 in
theorem needless_any (x : Info) (w : World) : Makes 96 #[x.val] w (.bool (decide (x.need = 0) || decide (x.cls = 2))) := by
  by_cases hb : x.need = 0 <;> by_cases hc : x.cls = 2
  all_goals
    go_enter Tryz.func96, Tryz.ntmps96
    go_wp2_with fail
    all_goals go_ret
    all_goals exact ⟨ret_bool (by simp [hb, hc]), Base.al (Below.refl _ _) _⟩

set_option maxHeartbeats 400000 in
theorem free_any (x : Info) (w : World) : Makes 89 #[x.val] w (.bool (!x.held)) := by
  go_enter Tryz.func89, Tryz.ntmps89
  go_wp2_with fail
  go_ret
  exact ⟨rfl, Base.al (Below.refl _ _) _⟩

def canErase (x : Info) : Bool := decide (x.cls ≠ 0) && !x.isOpen && !x.held
def noNeed (x : Info) : Bool := decide (x.need = 0) || decide (x.cls = 2)
def onceB (x : Info) : Bool := canErase x && noNeed x
def canBlank (x : Info) : Bool := decide (x.cls = 0) && !x.held

set_option maxHeartbeats 400000 in
theorem once_any (x : Info) (w : World) : Makes 167 #[x.val] w (.bool (canErase x && noNeed x)) := by
  have g1 := fun W => erasable_any x W
  have g2 := fun W => needless_any x W
  obtain ⟨p, hp⟩ : ∃ p, p = canErase x := ⟨_, rfl⟩
  obtain ⟨q, hq⟩ : ∃ q, q = noNeed x := ⟨_, rfl⟩
  rw [← hp, ← hq]
  unfold canErase at hp
  unfold noNeed at hq
  rw [← hp] at g1
  rw [← hq] at g2
  have h1 := fun W => Lib.hid (g1 W)
  have h2 := fun W => Lib.hid (g2 W)
  clear hp hq g1 g2
  cases p
  · go_enter Tryz.func167, Tryz.ntmps167
    go_wp2_with fail
    refine (h1 _).out.mono ?_; rintro e w1 ⟨rfl, hb1⟩
    go_wp2_with fail
    go_ret
    exact ⟨rfl, Base.tr (Base.al (Below.refl _ _) _) hb1⟩
  · go_enter Tryz.func167, Tryz.ntmps167
    go_wp2_with fail
    refine (h1 _).out.mono ?_; rintro e w1 ⟨rfl, hb1⟩
    obtain ⟨hc, hf⟩ := bcell hb1
    go_wp2_with fail
    refine (h2 _).out.mono ?_; rintro e w2 ⟨rfl, hb2⟩
    go_wp2_with fail
    go_ret
    exact ⟨rfl, Base.tr (Base.tr (Base.al (Below.refl _ _) _) hb1) hb2⟩

set_option maxHeartbeats 400000 in
theorem isNaN_u64 (a : Int) (w : World) : Gives 170 #[.int .u64 a] w (.bool false) := by
  go_enter Tryz.func170, Tryz.ntmps170
  go_wp2_with fail
  go_ret
  exact ⟨rfl, rfl⟩

set_option maxHeartbeats 400000 in
theorem compare_u64 (a b : Int) (w : World) : Gives 143 #[.int .u64 a, .int .u64 b] w (i64 (cmpI a b)) := by
  have g1 := Lib.hid (isNaN_u64 a w)
  have g2 := Lib.hid (isNaN_u64 b w)
  unfold cmpI
  by_cases h : a < b
  · rw [if_pos h]
    go_enter Tryz.func143, Tryz.ntmps143
    go_wp2_with fail
    refine g1.out.mono ?_; rintro e w' ⟨rfl, rfl⟩
    go_wp2_with fail
    refine g2.out.mono ?_; rintro e w' ⟨rfl, rfl⟩
    go_wp2_with fail
    go_ret
    exact ⟨rfl, rfl⟩
  · rw [if_neg h]
    by_cases h2 : b < a
    · rw [if_pos h2]
      go_enter Tryz.func143, Tryz.ntmps143
      go_wp2_with fail
      refine g1.out.mono ?_; rintro e w' ⟨rfl, rfl⟩
      go_wp2_with fail
      refine g2.out.mono ?_; rintro e w' ⟨rfl, rfl⟩
      go_wp2_with fail
      go_ret
      exact ⟨rfl, rfl⟩
    · rw [if_neg h2]
      go_enter Tryz.func143, Tryz.ntmps143
      go_wp2_with fail
      refine g1.out.mono ?_; rintro e w' ⟨rfl, rfl⟩
      go_wp2_with fail
      refine g2.out.mono ?_; rintro e w' ⟨rfl, rfl⟩
      go_wp2_with fail
      go_ret
      exact ⟨rfl, rfl⟩

set_option maxHeartbeats 400000 in
theorem byWear_any (x y : Info) (w : World) : Makes 88 #[x.val, y.val] w (i64 (cmpI x.wear y.wear)) := by
  have g := fun W => Lib.hid (compare_int x.wear y.wear W)
  go_enter Tryz.func88, Tryz.ntmps88
  go_wp2_with fail
  refine (g _).out.mono ?_; rintro e w1 ⟨rfl, rfl⟩
  go_wp2_with fail
  go_ret
  exact ⟨rfl, Base.al (Base.al (Below.refl _ _) _) _⟩
set_option maxHeartbeats 400000 in
theorem byAge_any (x y : Info) (w : World) : Makes 97 #[x.val, y.val] w (i64 (cmpI x.age y.age)) := by
  have g := fun W => Lib.hid (compare_u64 x.age y.age W)
  go_enter Tryz.func97, Tryz.ntmps97
  go_wp2_with fail
  refine (g _).out.mono ?_; rintro e w1 ⟨rfl, rfl⟩
  go_wp2_with fail
  go_ret
  exact ⟨rfl, Base.al (Base.al (Below.refl _ _) _) _⟩

/-! ### least -/
/-- The i-th. -/
def gi (l : List Info) (i : Int) : Info := l.getD i.toNat ⟨0, false, 0, 0, 0, false⟩
theorem gi_of {l : List Info} {k : Nat} (hk : k < l.length) : gi l k = l[k] := by simp [gi, hk]

set_option maxHeartbeats 1000000 in
set_option maxRecDepth 100000 in
theorem least1_any (cf : FuncId) (hcf : Enters cf) (c : Info → Info → Int) (hc : ∀ x y W, Makes cf #[x.val, y.val] W (i64 (c x y))) (A : Option Addr) (n cap : Nat) (l : List Info) (p3 p5 : Nat) (x y : Nat) (hx : x < l.length) (hy : y < l.length)
    (w : World) (h : Infos w (.slice A n cap) l) (h3 : w.cell? ⟨p3, 0, none⟩ = some (.slice A n cap)) (h5 : w.cell? ⟨p5, 0, none⟩ = some (.func (.func cf) #[] #[])) :
    Makes 140 #[i64 x, i64 y, .pointer (some ⟨p5, 0, none⟩), .pointer (some ⟨p3, 0, none⟩)] w (i64 (c (gi l x) (gi l y))) := by
  have hn := h.len
  rw [List.length_map] at hn
  subst hn
  rw [gi_of hx, gi_of hy]
  obtain ⟨b, off, rfl, hbs, a0, a1, a2, a3, a4, a5⟩ := Infos.cells h hx
  obtain ⟨b', off', hbo, _, c0, c1, c2, c3, c4, c5⟩ := Infos.cells h hy
  injection hbo with hbo
  injection hbo with hb1 hb2
  subst hb1; subst hb2
  have g := fun W => Lib.hid (hc l[x] l[y] W)
  have hx1 : (x : Int) < (l.length : Int) := by omega
  have hy1 : (y : Int) < (l.length : Int) := by omega
  have hx0 : (0 : Int) ≤ (x : Int) := by omega
  have hy0 : (0 : Int) ≤ (y : Int) := by omega
  go_enter Tryz.func140, Tryz.ntmps140
  go_wp2_with fail
  go_still_tail 9, (by kernel_rfl)
  change wpList _ _ _ _ _ w.drew
  go_wp2_with fail
  refine (g _).out.mono ?_; rintro e w1 ⟨rfl, hb1⟩
  go_wp2_with fail
  go_ret
  exact ⟨rfl, Base.tr (Base.dr (Below.refl _ _)) hb1⟩

/-- Are there any? -/
def someB : List Int → Bool | [] => false | _ :: _ => true
/-- The least of some numbers, by a comparison of what they number. -/
def leastOf (c : Info → Info → Int) (l : List Info) (xs : List Int) : Int := if xs = [] then 0 else minL (fun i k => c (gi l i) (gi l k)) xs
theorem enters82 : Enters 140 := fun _ _ => by kernel_rfl

set_option maxHeartbeats 1000000 in
set_option maxRecDepth 100000 in
theorem least_any (cf : FuncId) (hcf : Enters cf) (c : Info → Info → Int) (hc : ∀ x y W, Makes cf #[x.val, y.val] W (i64 (c x y))) (A : Option Addr) (n cap : Nat) (l : List Info) (B : Option Addr) (m cap2 : Nat) (xs : List Int)
    (w : World) (h : Infos w (.slice A n cap) l) (hx : Ints w (.slice B m cap2) xs) (hr : ∀ x ∈ xs, 0 ≤ x ∧ x < l.length) :
    Makes 87 #[.slice A n cap, .slice B m cap2, .func (.func cf) #[] #[]] w (.tuple #[i64 (leastOf c l xs), .bool (someB xs)]) := by
  have hm := hx.len
  rw [List.length_map] at hm
  have hxm := hx.max
  rw [List.length_map] at hxm
  unfold maxLen at hxm
  cases hxs : xs with
  | nil =>
    rw [hxs] at hm
    rw [hm]
    go_enter Tryz.func87, Tryz.ntmps87
    go_wp2_with fail
    go_ret2
    exact ⟨rfl, Base.al (Base.al (Below.refl _ _) _) _⟩
  | cons x0 xr =>
    have hv : leastOf c l xs = minL (fun i k => c (gi l i) (gi l k)) xs := if_neg (by rw [hxs]; simp)
    rw [← hxs, hv]
    have hd : someB xs = true := by rw [hxs]; rfl
    rw [hd]
    have hpos : 0 < xs.length := by rw [hxs]; simp
    subst hm
    have hne : ((xs.length : Int) == 0) = false := beq_eq_false_iff_ne.2 (by omega)
    have hcall : ∀ (w1 : World), Below w.heap.size w w1 → w1.cell? ⟨w.heap.size, 0, none⟩ = some (.slice A n cap) → w1.cell? ⟨w.heap.size + 1, 0, none⟩ = some (.func (.func cf) #[] #[]) → w.heap.size + 1 < w1.heap.size →
        Makes 139 #[.slice B xs.length cap2, .func (.func 140) #[] #[.pointer (some ⟨w.heap.size + 1, 0, none⟩), .pointer (some ⟨w.heap.size, 0, none⟩)]] w1 (i64 (minL (fun i k => c (gi l i) (gi l k)) xs)) := by
      intro w1 hb1 k3 k5 hsz
      refine minFunc_any _ _ enters82 _ _ _ _ _ hpos _ (Sl.below hx hb1) ?_
      intro x hxm y hym W hW
      obtain ⟨hx0, hx1⟩ := hr x hxm
      obtain ⟨hy0, hy1⟩ := hr y hym
      have := least1_any cf hcf c hc A n cap l w.heap.size (w.heap.size + 1) x.toNat y.toNat (by omega) (by omega) W (Sl.below h (Base.trb hb1 hW hb1.size))
        (by rw [hW.cell (p := ⟨w.heap.size, 0, none⟩) (by show w.heap.size < _; omega)]; exact k3) (by rw [hW.cell (p := ⟨w.heap.size + 1, 0, none⟩) (by show w.heap.size + 1 < _; omega)]; exact k5)
      rw [show ((x.toNat : Nat) : Int) = x from by omega, show ((y.toNat : Nat) : Int) = y from by omega] at this
      exact this
    have HC := Lib.hid hcall
    clear hcall hv hd hxs
    go_enter Tryz.func87, Tryz.ntmps87
    go_wp2_with fail
    refine (HC.out _ ?_ ?_ ?_ ?_).mono ?_
    · exact Base.al (Base.al (Below.refl _ _) _) _
    · go_simp
    · go_simp
    · simp
    rintro e w1 ⟨rfl, hb1⟩
    go_wp2_with fail
    go_ret2
    exact ⟨rfl, Base.tr (Base.al (Base.al (Below.refl _ _) _) _) hb1⟩

theorem idx_range (p : Info → Bool) : ∀ (l : List Info) (i : Nat), ∀ x ∈ idx p i l, (i : Int) ≤ x ∧ x < ((i + l.length : Nat) : Int)
  | [], _, x, h => by simp [idx] at h
  | y :: l, i, x, h => by
    have key : ∀ x ∈ idx p (i + 1) l, (i : Int) ≤ x ∧ x < ((i + (y :: l).length : Nat) : Int) := fun x h => by
      have := idx_range p l (i + 1) x h
      simp only [List.length_cons]; omega
    simp only [idx] at h
    split at h
    · rcases List.mem_cons.1 h with rfl | h
      · simp only [List.length_cons]; omega
      · exact key x h
    · exact key x h

/-- An owned row's value, taken apart. -/
theorem own_slice {w : World} {base : Nat} {e : TypeId} {size : Nat} {v : Value} {n : Nat} {xs : List Value} (h : w.ownsRow base e size v n xs) : ∃ A cap, v = .slice A n cap := by
  rcases h.2 with ⟨rfl, rfl⟩ | ⟨g, cap, cur, rfl, _⟩
  · exact ⟨none, 0, rfl⟩
  · exact ⟨some ⟨g, 0, none⟩, cap, rfl⟩
theorem own_Ints {w : World} {base : Nat} {e : TypeId} {v : Value} {xs : List Int} (h : w.ownsRow base e 1 v xs.length (xs.map (Value.int .i64))) : Ints w v xs := by
  have := own_Sl (xs := xs.map (Value.int .i64)) (by simpa using h)
  rw [List.map_map] at this
  exact this

theorem enters59 : Enters 121 := fun _ _ => by kernel_rfl
theorem enters60 : Enters 88 := fun _ _ => by kernel_rfl
theorem enters61 : Enters 86 := fun _ _ => by kernel_rfl
theorem enters70 : Enters 97 := fun _ _ => by kernel_rfl
def cWear (x y : Info) : Int := cmpI x.wear y.wear
def cAge (x y : Info) : Int := cmpI x.age y.age

set_option maxHeartbeats 1000000 in
set_option maxRecDepth 100000 in
theorem Write_any (A : Option Addr) (n cap : Nat) (l : List Info) (w : World) (h : Infos w (.slice A n cap) l) (hbig : l.length * 8 ≤ 140737488351232) :
    Makes 120 #[.slice A n cap] w (.tuple #[i64 (leastOf cWear l (idx canBlank 0 l)), .bool (someB (idx canBlank 0 l))]) := by
  have g1 := Lib.hid (of_blank canBlank A n cap l w h (fun x W => pkBlank_any x W) hbig)
  have hr := fun x hx => idx_range canBlank l 0 x hx
  have g2 := fun W B m cap2 hw hi => Lib.hid (least_any 88 enters60 cWear (fun x y W => byWear_any x y W) A n cap l B m cap2 (idx canBlank 0 l) W hw hi (fun x hx => by have := hr x hx; omega))
  have hh := Lib.hid h
  clear hr h
  go_enter Tryz.func120, Tryz.ntmps120
  go_wp2_with fail
  refine g1.out.mono ?_
  rintro e w1 ⟨v, rfl, hown, hb1⟩
  obtain ⟨B, cap2, rfl⟩ := own_slice hown
  have hI := own_Ints hown
  have hO := Lib.hid hown
  have hI2 := Lib.hid hI
  clear hown hI
  go_wp2_with fail
  refine (g2 _ _ _ _ (Sl.below hh.out hb1) hI2.out).out.mono ?_
  rintro e w2 ⟨rfl, hb2⟩
  go_wp2_with fail
  go_ret2
  exact ⟨rfl, Base.tr hb1 hb2⟩
set_option maxHeartbeats 1000000 in
set_option maxRecDepth 100000 in
theorem AtOnce_any (A : Option Addr) (n cap : Nat) (l : List Info) (w : World) (h : Infos w (.slice A n cap) l) (hbig : l.length * 8 ≤ 140737488351232) :
    Makes 135 #[.slice A n cap] w (.tuple #[i64 (leastOf cWear l (idx onceB 0 l)), .bool (someB (idx onceB 0 l))]) := by
  have g1 := Lib.hid (of_once onceB A n cap l w h (fun x W => once_any x W) hbig)
  have hr := fun x hx => idx_range onceB l 0 x hx
  have g2 := fun W B m cap2 hw hi => Lib.hid (least_any 88 enters60 cWear (fun x y W => byWear_any x y W) A n cap l B m cap2 (idx onceB 0 l) W hw hi (fun x hx => by have := hr x hx; omega))
  have hh := Lib.hid h
  clear hr h
  go_enter Tryz.func135, Tryz.ntmps135
  go_wp2_with fail
  refine g1.out.mono ?_
  rintro e w1 ⟨v, rfl, hown, hb1⟩
  obtain ⟨B, cap2, rfl⟩ := own_slice hown
  have hI := own_Ints hown
  have hO := Lib.hid hown
  have hI2 := Lib.hid hI
  clear hown hI
  go_wp2_with fail
  refine (g2 _ _ _ _ (Sl.below hh.out hb1) hI2.out).out.mono ?_
  rintro e w2 ⟨rfl, hb2⟩
  go_wp2_with fail
  go_ret2
  exact ⟨rfl, Base.tr hb1 hb2⟩
set_option maxHeartbeats 1000000 in
set_option maxRecDepth 100000 in
theorem Oldest_any (A : Option Addr) (n cap : Nat) (l : List Info) (w : World) (h : Infos w (.slice A n cap) l) (hbig : l.length * 8 ≤ 140737488351232) :
    Makes 72 #[.slice A n cap] w (.tuple #[i64 (leastOf cAge l (idx canErase 0 l)), .bool (someB (idx canErase 0 l))]) := by
  have g1 := Lib.hid (of_erasable canErase A n cap l w h (fun x W => erasable_any x W) hbig)
  have hr := fun x hx => idx_range canErase l 0 x hx
  have g2 := fun W B m cap2 hw hi => Lib.hid (least_any 97 enters70 cAge (fun x y W => byAge_any x y W) A n cap l B m cap2 (idx canErase 0 l) W hw hi (fun x hx => by have := hr x hx; omega))
  have hh := Lib.hid h
  clear hr h
  go_enter Tryz.func72, Tryz.ntmps72
  go_wp2_with fail
  refine g1.out.mono ?_
  rintro e w1 ⟨v, rfl, hown, hb1⟩
  obtain ⟨B, cap2, rfl⟩ := own_slice hown
  have hI := own_Ints hown
  have hO := Lib.hid hown
  have hI2 := Lib.hid hI
  clear hown hI
  go_wp2_with fail
  refine (g2 _ _ _ _ (Sl.below hh.out hb1) hI2.out).out.mono ?_
  rintro e w2 ⟨rfl, hb2⟩
  go_wp2_with fail
  go_ret2
  exact ⟨rfl, Base.tr hb1 hb2⟩
end Go.Proofs.YtnmeaminfoopmaaGreatDoor
