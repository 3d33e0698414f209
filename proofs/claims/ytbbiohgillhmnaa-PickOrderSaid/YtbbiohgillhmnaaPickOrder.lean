/- PickOrder: the walk. -/
import Derived.Test.YtbbiohgillhmnaaPickF
import Derived.Test.YtbbiohgillhmnaaPickO
import Derived.Test.YtbbiohgillhmnaaRingC
namespace Go.Proofs.Ytbbiohgillhmnaa
open Go.RowKit

theorem Mild.turn {l : List Info} (h : Mild l) (k : Nat) : Mild (turnI l k) := fun x hx => by
  unfold turnI at hx
  rcases List.mem_append.1 hx with hx | hx
  · exact h x (List.mem_of_mem_drop hx)
  · exact h x (List.mem_of_mem_take hx)

theorem info_Inf : (Try.prog.info? 53).map (fun i => (i.zero, i.size, i.bytes)) = some (some (.agg #[i64 0, .bool false, i64 0, .int .u64 0, i64 0, .bool false]), 6, 48) := by kernel_rfl
theorem infos_len (l : List Info) : (l.flatMap Info.row).length = l.length * 6 := by
  induction l with
  | nil => rfl
  | cons f l ih =>
    have e : (f.row).length = 6 := rfl
    rw [List.flatMap_cons, List.length_append, ih, e, show (f :: l).length = l.length + 1 from rfl]
    omega
theorem infos_one (l : List Info) : ∀ u ∈ l.flatMap Info.row, u.oneCell' = true := by
  intro u hu
  obtain ⟨f, _, hf⟩ := List.mem_flatMap.1 hu
  simp only [List.mem_cons, List.not_mem_nil, or_false] at hf
  rcases hf with rfl | rfl | rfl | rfl | rfl | rfl <;> rfl
theorem infos_split : ∀ (l : List Info) (j : Nat) (u : Value), (l.flatMap Info.row)[j]? = some u → ∃ i q : Nat, j = i * 6 + q ∧ i < l.length ∧ (gi l (i : Int)).row[q]? = some u
  | [], j, u, h => by simp at h
  | x :: l, j, u, h => by
    rw [List.flatMap_cons] at h
    by_cases hj : j < 6
    · rw [List.getElem?_append_left (by simpa using hj)] at h
      exact ⟨0, j, by omega, by simp, h⟩
    · rw [List.getElem?_append_right (by show 6 ≤ j; omega)] at h
      obtain ⟨i, q, he, hi, hg⟩ := infos_split l _ u h
      refine ⟨i + 1, q, ?_, by simpa using hi, ?_⟩
      · have he : j - 6 = i * 6 + q := he
        omega
      · have : gi (x :: l) ((i + 1 : Nat) : Int) = gi l (i : Int) := by simp only [gi, Int.toNat_natCast]; rfl
        rw [this]
        exact hg
theorem gi_drop (l : List Info) (k i : Nat) : gi (l.drop k) (i : Int) = gi l ((k + i : Nat) : Int) := by
  simp only [gi, Int.toNat_natCast, List.getD_eq_getElem?_getD, List.getElem?_drop]
theorem gi_take (l : List Info) (k i : Nat) (h : i < k) : gi (l.take k) (i : Int) = gi l (i : Int) := by
  simp only [gi, Int.toNat_natCast, List.getD_eq_getElem?_getD, List.getElem?_take, if_pos h]

theorem least_in {c : Info → Info → Int} {l : List Info} {ys : List Int} {N : Nat} (hin : InR l ys) (hN : l.length = N) (hs : someB ys = true) : 0 ≤ leastOf c l ys ∧ leastOf c l ys < (N : Int) := by
  have hne : ys ≠ [] := fun e => by rw [e] at hs; cases hs
  obtain ⟨a, ha, hae⟩ := hin _ (least_mem (c := c) (l := l) hne)
  rw [hae]
  omega
theorem turned {key : Info → Int} {l : List Info} {k : Nat} (hk : k < l.length) (hu : Uniq key l) (p : Info → Bool) :
    someB (idx p 0 (turnI l k)) = someB (idx p 0 l) ∧ backI l.length k (leastOf (fun x y => cmpI (key x) (key y)) (turnI l k) (idx p 0 (turnI l k))) (someB (idx p 0 l)) = leastOf (fun x y => cmpI (key x) (key y)) l (idx p 0 l) ∧
    (someB (idx p 0 l) = true → 0 ≤ leastOf (fun x y => cmpI (key x) (key y)) (turnI l k) (idx p 0 (turnI l k)) ∧ leastOf (fun x y => cmpI (key x) (key y)) (turnI l k) (idx p 0 (turnI l k)) < (l.length : Int)) := by
  have hs := idx_same p hk
  have he := hs.some
  refine ⟨he.symm, ?_, fun h => least_in (idx_in p _) (turnI_len l k) (by rw [← he]; exact h)⟩
  rw [he]
  exact back_eq hk hu (idx_in p l) (idx_in p _) hs
theorem turned_wear {l : List Info} {k : Nat} (hk : k < l.length) (hu : Uniq (fun x => x.wear) l) (p : Info → Bool) :
    someB (idx p 0 (turnI l k)) = someB (idx p 0 l) ∧ backI l.length k (leastOf cWear (turnI l k) (idx p 0 (turnI l k))) (someB (idx p 0 l)) = leastOf cWear l (idx p 0 l) ∧
    (someB (idx p 0 l) = true → 0 ≤ leastOf cWear (turnI l k) (idx p 0 (turnI l k)) ∧ leastOf cWear (turnI l k) (idx p 0 (turnI l k)) < (l.length : Int)) := turned hk hu p
theorem turned_age {l : List Info} {k : Nat} (hk : k < l.length) (hu : Uniq (fun x => x.age) l) (p : Info → Bool) :
    someB (idx p 0 (turnI l k)) = someB (idx p 0 l) ∧ backI l.length k (leastOf cAge (turnI l k) (idx p 0 (turnI l k))) (someB (idx p 0 l)) = leastOf cAge l (idx p 0 l) ∧
    (someB (idx p 0 l) = true → 0 ≤ leastOf cAge (turnI l k) (idx p 0 (turnI l k)) ∧ leastOf cAge (turnI l k) (idx p 0 (turnI l k)) < (l.length : Int)) := turned hk hu p
theorem turned_erase {l : List Info} {k : Nat} (hk : k < l.length) (hw : Uniq (fun x => x.wear) l) (hu : Uniq (fun x => x.age) l) :
    eraseOk (turnI l k) = eraseOk l ∧ backI l.length k (eraseIx (turnI l k)) (eraseOk l) = eraseIx l ∧ (eraseOk l = true → 0 ≤ eraseIx (turnI l k) ∧ eraseIx (turnI l k) < (l.length : Int)) := by
  obtain ⟨hs, hi1, hi2⟩ := low_same hk hw
  have hall := idx_same canErase (l := l) hk
  have e1 := hall.some
  have e2 := hs.some
  have ho : eraseOk (turnI l k) = eraseOk l := by unfold eraseOk; rw [e1, e2]
  refine ⟨ho, ?_, fun h => ?_⟩
  · unfold eraseIx
    by_cases hn : idx canErase 0 l = []
    · have hf : eraseOk l = false := by unfold eraseOk; rw [hn]; rfl
      rw [if_pos hn, hf]
      rfl
    · rw [if_neg hn, if_neg (fun e => hn (hall.nil.2 e))]
      have hf : eraseOk l = someB (eraseLow (turnI l k)) := by
        unfold eraseOk
        rw [← e2, show someB (idx canErase 0 l) = true from by cases h : idx canErase 0 l with | nil => exact absurd h hn | cons => rfl, Bool.true_and]
      rw [hf]
      exact back_eq hk hu hi1 hi2 hs
  · have hf : someB (idx canErase 0 l) = true ∧ someB (eraseLow l) = true := by unfold eraseOk at h; rwa [Bool.and_eq_true] at h
    have hn : idx canErase 0 l ≠ [] := fun e => by rw [e] at hf; exact absurd hf.1 (by decide)
    unfold eraseIx
    rw [if_neg (fun e => hn (hall.nil.2 e))]
    exact least_in hi2 (turnI_len l k) (by rw [← e2]; exact hf.2)

set_option maxHeartbeats 1000000 in
theorem back_any (pk pl N k : Nat) (A : Option Addr) (cap : Nat) (j : Int) (ok : Bool) (hk : k < N) (hN : N ≤ 200) (hj : ok = true → 0 ≤ j ∧ j < (N : Int)) (w : World) (h1 : w.cell? ⟨pk, 0, none⟩ = some (i64 k)) (h2 : w.cell? ⟨pl, 0, none⟩ = some (.slice A N cap)) :
    Gives 32 #[i64 j, .bool ok, .pointer (some ⟨pk, 0, none⟩), .pointer (some ⟨pl, 0, none⟩)] w (.tuple #[i64 (backI N k j ok), .bool ok]) := by
  cases ok
  · clear hj
    go_enter Try.func32, Try.ntmps32
    go_wp2_with fail
    go_ret2
    exact ⟨rfl, rfl⟩
  · obtain ⟨j0, j1⟩ := hj rfl
    obtain ⟨q, rfl⟩ : ∃ q : Nat, j = (q : Int) := ⟨j.toNat, by omega⟩
    have e1 : IntKind.i64.wrap ((q : Int) + (k : Int)) = ((q + k : Nat) : Int) := by rw [IntKind.wrap_i64]; omega
    have e3 : ((q + k : Nat) : Int).tmod (N : Int) = (((q + k) % N : Nat) : Int) := by rw [Int.tmod_eq_emod_of_nonneg (by omega)]; push_cast; rfl
    have hb : backI N k (q : Int) true = (((q + k) % N : Nat) : Int) := rfl
    have hz : ((N : Int) == 0) = false := by rw [beq_eq_false_iff_ne]; omega
    rw [hb]
    generalize (q + k) % N = r at *
    generalize q + k = z at *
    clear hb
    go_enter Try.func32, Try.ntmps32
    go_wp2_with fail
    go_ret2
    exact ⟨rfl, rfl⟩

/-- Of the first p no two have the same wear or age. -/
def Apart (l : List Info) (p : Nat) : Prop := ∀ a b : Nat, b < a → a < p → (gi l a).wear ≠ (gi l b).wear ∧ (gi l a).age ≠ (gi l b).age

set_option maxHeartbeats 8000000 in
set_option maxRecDepth 100000 in
theorem pickOrder_makes (A : Option Addr) (n cap : Nat) (l : List Info) (by8 : Nat) (h8 : by8 ≤ 255) (w : World) (h : Infos w (.slice A n cap) l) : Makes 9 #[.slice A n cap, .int .u8 by8] w (.bool true) := by
  have gf := fun W => Lib.hid (fixed11 W)
  have n1 := h.len
  rw [List.length_map] at n1
  subst n1
  have g0 := fun W hW => Lib.hid (great_any A l.length cap l W hW)
  have hcap : l.length ≤ cap := by obtain ⟨_, _, hv, hle, _⟩ := h; injection hv with _ h1 h2; omega
  have H := Lib.hid h
  clear h
  obtain ⟨t1, ht1⟩ : ∃ t, great l = t := ⟨_, rfl⟩
  obtain ⟨t2, ht2⟩ : ∃ t, ((l.length : Int) == 0) = t := ⟨_, rfl⟩
  have hb0 : Below w.heap.size w (w.alloc (.cells #[.slice A l.length cap] 50)) := Base.al (Below.refl _ _) _
  by_cases hor : (t1 || t2) = true
  · rw [ht1] at g0
    clear ht1
    cases t1 <;> cases t2
    · cases hor
    all_goals
      clear hor
      go_enter Try.func9, Try.ntmps9
      go_wp2_with fail
      refine (g0 _ (Sl.below H.out hb0)).out.mono ?_; rintro e w1 ⟨rfl, hb1⟩
      have hb := Base.tr hb0 hb1
      have hbox : w1.cell? ⟨w.heap.size, 0, none⟩ = some (.slice A l.length cap) := ((rd hb1).1 w.heap.size 0 (by show w.heap.size < (w.heap.push _).size; rw [Array.size_push]; omega)).trans (cell_of_row _ w.heap.size 0 #[.slice A l.length cap] 50 (0, 0) (heap_alloc_new w _))
      go_wp2_with fail
      refine (gf _).out.mono ?_; rintro e w2 ⟨rfl, hb2⟩
      go_wp2_with fail
      go_ret
      first | exact ⟨rfl, Base.tr hb hb2⟩ | exact ⟨rfl, hb⟩ | done
  · have e1 : t1 = false := by cases t1 <;> simp at hor ⊢
    have e2 : t2 = false := by cases t2 <;> simp at hor ⊢
    subst e1; subst e2
    clear hor
    have hmild : Mild l := by
      intro x hx
      unfold great at ht1
      rw [Bool.or_eq_false_iff, List.any_eq_false] at ht1
      have := ht1.1 x hx
      unfold greatOf at this
      simp at this
      omega
    have hlen : l.length ≤ 200 := by
      unfold great at ht1
      rw [Bool.or_eq_false_iff, decide_eq_false_iff_not] at ht1
      omega
    have hpos : l.length ≠ 0 := by
      rw [beq_eq_false_iff_ne] at ht2; omega
    rw [ht1] at g0
    clear ht1
    have HM := Lib.hid hmild
    clear hmild
    go_enter Try.func9, Try.ntmps9
    go_wp2_with fail
    refine (g0 _ (Sl.below H.out hb0)).out.mono ?_; rintro e w1 ⟨rfl, hb1⟩
    have hb := Base.tr hb0 hb1
    have hbox : w1.cell? ⟨w.heap.size, 0, none⟩ = some (.slice A l.length cap) := ((rd hb1).1 w.heap.size 0 (by show w.heap.size < (w.heap.push _).size; rw [Array.size_push]; omega)).trans (cell_of_row _ w.heap.size 0 #[.slice A l.length cap] 50 (0, 0) (heap_alloc_new w _))
    have hwlt : w.heap.size < w1.heap.size := Nat.lt_of_lt_of_le (by show w.heap.size < (w.heap.push _).size; rw [Array.size_push]; omega) hb1.size
    go_wp2_with fail
    clear g0 hb1 hb0
    go_loopw [38] (fun i wr => ∃ p : Nat, p ≤ l.length ∧ i = i64 (p : Int) ∧ Below w1.heap.size w1 wr ∧ Apart l p) (fun i _ => l.length - (intOf i).toNat)
    case atStart => exact ⟨0, by omega, rfl, Below.refl _ _, fun a b _ h => by omega⟩
    case round =>
      rename World => wo
      obtain ⟨p, hp, rfl, hbr, hap⟩ := hrel
      by_cases hlt : p < l.length
      · obtain ⟨b, off, rfl, hbs, hc⟩ := gi_cells (Sl.below H.out (Base.tr hb hbr)) hlt
        have e0 := hc p hlt 0 _ rfl
        rw [Nat.add_zero] at e0
        have e1 := hc p hlt 1 _ rfl
        have e2 := hc p hlt 2 _ rfl
        have e3 := hc p hlt 3 _ rfl
        have e4 := hc p hlt 4 _ rfl
        have e5 := hc p hlt 5 _ rfl
        have hboxr := ((rd hbr).1 w.heap.size 0 hwlt).trans hbox
        have HC := Lib.hid hc
        have HAP := Lib.hid hap
        have hpl : (p : Int) ≤ (l.length : Int) := by omega
        have hwlt2 : w.heap.size < wo.heap.size := Nat.lt_of_lt_of_le hwlt hbr.size
        have hpc : (p : Int) ≤ (cap : Int) := by omega
        have hpc2 : p ≤ cap := by omega
        clear hc hap hbox
        go_wp2_with fail
        generalize hX : (#[.int .i64 (gi l p).cls, .bool (gi l p).isOpen, .int .i64 (gi l p).wear, .int .u64 (gi l p).age, .int .i64 (gi l p).need, .bool (gi l p).held] : Array Value) = X
        clear e0 e1 e2 e3 e4 e5
        go_loopw [47] (fun i wq => ∃ q : Nat, q ≤ p ∧ i = i64 (q : Int) ∧ Below (wo.alloc (.cells X 53)).heap.size (wo.alloc (.cells X 53)) wq ∧ ∀ b : Nat, b < q → (gi l p).wear ≠ (gi l b).wear ∧ (gi l p).age ≠ (gi l b).age) (fun i _ => p - (intOf i).toNat)
        case atStart => exact ⟨0, by omega, rfl, Below.refl _ _, fun b h => by omega⟩
        case round =>
          obtain ⟨q, hq, rfl, hbq, hne⟩ := hrel
          have hboxq : wo.cell? ⟨w.heap.size, 0, none⟩ = some (.slice (some ⟨b, off, none⟩) l.length cap) := hboxr
          have HNE := Lib.hid hne
          clear hne
          have hbq0 : Below wo.heap.size wo wr := Base.tr (Base.al (Below.refl _ _) _) hbq
          by_cases hlq : q < p
          · have hqc := fun j u hj => ((rd hbq0).1 b (off + q * 6 + j) hbs).trans (HC.out q (by omega) j u hj)
            have e0 := hqc 0 _ rfl
            rw [Nat.add_zero] at e0
            have e1 := hqc 1 _ rfl
            have e2 := hqc 2 _ rfl
            have e3 := hqc 3 _ rfl
            have e4 := hqc 4 _ rfl
            have e5 := hqc 5 _ rfl
            have hsz : (wo.alloc (.cells X 53)).heap.size = wo.heap.size + 1 := by show (wo.heap.push _).size = _; rw [Array.size_push]
            have f2 : wr.cell? ⟨wo.heap.size, 2, none⟩ = some (.int .i64 (gi l p).wear) := ((rd hbq).1 wo.heap.size 2 (by omega)).trans ((cell_of_row _ wo.heap.size 2 X 53 (0, 0) (heap_alloc_new wo _)).trans (by rw [← hX]; rfl))
            have f3 : wr.cell? ⟨wo.heap.size, 3, none⟩ = some (.int .u64 (gi l p).age) := ((rd hbq).1 wo.heap.size 3 (by omega)).trans ((cell_of_row _ wo.heap.size 3 X 53 (0, 0) (heap_alloc_new wo _)).trans (by rw [← hX]; rfl))
            have hqsz : wo.heap.size < wr.heap.size := by have := hbq.size; omega
            obtain ⟨u1, hu1⟩ : ∃ t, ((gi l p).wear == (gi l q).wear) = t := ⟨_, rfl⟩
            obtain ⟨u2, hu2⟩ : ∃ t, ((gi l p).age == (gi l q).age) = t := ⟨_, rfl⟩
            clear hqc hX
            by_cases hor : (u1 || u2) = true
            · have hret : ∀ (x : Array Value), Below w.heap.size w (wr.alloc (.cells x 53)) := fun x => Base.al (Base.tr hb (Base.tr hbr hbq0)) _
              have HRET := Lib.hid hret
              clear hret hbq0
              cases u1 <;> cases u2
              · cases hor
              all_goals
                clear hor
                go_wp2_with fail
                refine (gf _).out.mono ?_; rintro e w6 ⟨rfl, hb6⟩
                go_wp2_with fail
                go_ret
                exact ⟨rfl, Base.tr (HRET.out _) hb6⟩
            · have x1 : u1 = false := by cases u1 <;> simp at hor ⊢
              have x2 : u2 = false := by cases u2 <;> simp at hor ⊢
              subst x1; subst x2
              clear hor
              have hnext : ∀ b : Nat, b < q + 1 → (gi l p).wear ≠ (gi l b).wear ∧ (gi l p).age ≠ (gi l b).age := fun b hbb => by
                by_cases hbe : b = q
                · subst hbe
                  rw [beq_eq_false_iff_ne] at hu1 hu2
                  exact ⟨hu1, hu2⟩
                · exact HNE.out b (by omega)
              have HNEXT := Lib.hid hnext
              clear hnext
              go_wp2_with fail
              exact ⟨⟨q + 1, by omega, by go_num, Base.al hbq _, HNEXT.out⟩, by simp [intOf]; omega⟩
          · have hqe : q = p := by omega
            subst hqe
            have hapn : Apart l (q + 1) := fun a c hca hap1 => by
              by_cases hae : a = q
              · subst hae
                exact HNE.out c hca
              · exact HAP.out a c hca (by omega)
            have HAPN := Lib.hid hapn
            clear hapn hX
            go_wp2_with fail
            exact ⟨⟨q + 1, by omega, by go_num, Base.tr hbr hbq0, HAPN.out⟩, by simp [intOf]; omega⟩
      · have hpe : p = l.length := by omega
        subst hpe
        have hbox := ((rd hbr).1 w.heap.size 0 hwlt).trans hbox
        have hwlt := Nat.lt_of_lt_of_le hwlt hbr.size
        have hb := Base.tr hb hbr
        have huw : Uniq (fun x => x.wear) l := fun i j hi hj he => by
          rcases Nat.lt_trichotomy i j with h | h | h
          · exact absurd he.symm (hap j i h hj).1
          · exact h
          · exact absurd he (hap i j h hi).1
        have hua : Uniq (fun x => x.age) l := fun i j hi hj he => by
          rcases Nat.lt_trichotomy i j with h | h | h
          · exact absurd he.symm (hap j i h hj).2
          · exact h
          · exact absurd he (hap i j h hi).2
        have HU := Lib.hid huw
        have HA := Lib.hid hua
        clear huw hua hap hbr
        have hmod : (by8 : Int).tmod (l.length : Int) = ((by8 % l.length : Nat) : Int) := by rw [Int.tmod_eq_emod_of_nonneg (by omega)]; push_cast; rfl
        have hklt : by8 % l.length < l.length := Nat.mod_lt _ (by omega)
        generalize hk : by8 % l.length = k at *
        obtain ⟨b, off, rfl, hbs, hc⟩ := gi_cells (Sl.below H.out hb) hklt
        have hk1 : (k : Int) ≤ (l.length : Int) := by omega
        have hk2 : (k : Int) ≤ (cap : Int) := by omega
        have hk3 : k ≤ cap := by omega
        have HC := Lib.hid hc
        clear hc
        obtain ⟨i0, hi, hz0, hz1, hz2⟩ := info_parts info_Inf
        have hwb1 : Below w.heap.size w (wo.alloc (.cells #[.int .i64 (k : Int)] 3)) := Base.al hb _
        have hdrop : ∀ (W : World), Below wo.heap.size wo W → ∀ j u, ((l.drop k).flatMap Info.row)[j]? = some u → W.cell? ((⟨b, off + k * 6, none⟩ : Addr).add j) = some u := fun W hW j u hj => by
          obtain ⟨i, q, rfl, hi, hg⟩ := infos_split _ _ _ hj
          rw [gi_drop] at hg
          rw [List.length_drop] at hi
          rw [Addr.add_lit, show off + k * 6 + (i * 6 + q) = off + (k + i) * 6 + q by omega, (rd hW).1 b _ hbs]
          exact HC.out (k + i) (by omega) q u hg
        have htake : ∀ (W : World), Below wo.heap.size wo W → ∀ j u, ((l.take k).flatMap Info.row)[j]? = some u → W.cell? ((⟨b, off, none⟩ : Addr).add j) = some u := fun W hW j u hj => by
          obtain ⟨i, q, rfl, hi, hg⟩ := infos_split _ _ _ hj
          rw [List.length_take] at hi
          rw [gi_take _ _ _ (by omega)] at hg
          rw [Addr.add_lit, show off + (i * 6 + q) = off + i * 6 + q by omega, (rd hW).1 b _ hbs]
          exact HC.out i (by omega) q u hg
        have HD := Lib.hid hdrop
        have HT := Lib.hid htake
        have hsz : (wo.alloc (.cells #[.int .i64 (k : Int)] 3)).heap.size = wo.heap.size + 1 := by show (wo.heap.push _).size = _; rw [Array.size_push]
        have hown0 := World.ownsRow_made (wo.alloc (.cells #[.int .i64 (k : Int)] 3)) (base := wo.heap.size + 1) (e := 53) (size := 6) #[] 0 (Nat.le_of_eq hsz.symm) (Nat.zero_le _) rfl
        rw [hsz] at hown0
        clear hdrop htake hk
        go_wp2_with (at_builtin; go_must (refine wpList_append_own _ rfl _ _ 50 rfl (wo.heap.size + 1) 53 i0 _ 6 48 Try.underlying50 hi hz0 hz1 hz2 rfl (by decide) _ _ _ rfl hown0 ⟨b, off + k * 6, none⟩ (l.length - k) (cap - k) ((l.drop k).flatMap Info.row) rfl ?c0 ?c1 (infos_one _) ?c3 ?c4 ?c5 ?_))
        case c0 => rw [infos_len, List.length_drop]
        case c1 => exact HD.out _ (Base.al (Base.al (Below.refl _ _) _) _)
        case c3 => unfold maxLen; omega
        case c4 => omega
        case c5 => simp
        intro v2 w2 hown2 hgr2 _
        have hb2 := Base.gr (Base.al (Below.refl _ (wo.alloc (.cells #[.int .i64 (k : Int)] 3))) (.cells #[] 53)) hgr2 (fun j hj => by simp [Value.ownBlock] at hj; omega)
        have OWN2 := Lib.hid hown2
        clear hown2 hgr2 hown0
        have hbo2 : Below wo.heap.size wo w2 := Base.tr (Base.al (Below.refl _ _) _) hb2
        have hbox2 := ((rd hbo2).1 w.heap.size 0 hwlt).trans hbox
        have hkc2 : w2.cell? ⟨wo.heap.size, 0, none⟩ = some (.int .i64 (k : Int)) := ((rd hb2).1 wo.heap.size 0 (by omega)).trans (cell_of_row _ wo.heap.size 0 _ 3 (0, 0) (heap_alloc_new wo _))
        have hwlt2 : w.heap.size < w2.heap.size := Nat.lt_of_lt_of_le hwlt hbo2.size
        have hklt2 : wo.heap.size < w2.heap.size := by have := hb2.size; omega
        clear hbox
        go_wp2_with (at_builtin; go_must (refine wpList_append_own _ rfl _ _ 50 rfl (wo.heap.size + 1) 53 i0 _ 6 48 Try.underlying50 hi hz0 hz1 hz2 rfl (by decide) _ _ _ rfl OWN2.out ⟨b, off, none⟩ k cap ((l.take k).flatMap Info.row) rfl ?d0 (HT.out _ hbo2) (infos_one _) ?d3 ?d4 ?d5 ?_))
        case d0 => rw [infos_len, List.length_take, Nat.min_eq_left (by omega)]
        case d3 => unfold maxLen; omega
        case d4 => omega
        case d5 => have := hbo2.size; omega
        intro v3 w3 hown3 hgr3 _
        have hb3 := Base.gr hb2 hgr3 (fun j hj => by have := (OWN2.out.lt j hj).1; omega)
        have hbo3 : Below wo.heap.size wo w3 := Base.tr (Base.al (Below.refl _ _) _) hb3
        have hbw3 : Below w.heap.size w w3 := Base.tr hb hbo3
        have hbox0 : wo.cell? ⟨w.heap.size, 0, none⟩ = some (.slice (some ⟨b, off, none⟩) l.length cap) := by rw [← (rd hbo2).1 w.heap.size 0 hwlt]; exact hbox2
        have hkc3 : w3.cell? ⟨wo.heap.size, 0, none⟩ = some (.int .i64 (k : Int)) := ((rd hb3).1 wo.heap.size 0 (by omega)).trans (cell_of_row _ wo.heap.size 0 _ 3 (0, 0) (heap_alloc_new wo _))
        have hbox3 := ((rd hbo3).1 w.heap.size 0 hwlt).trans hbox0
        have hks3 : wo.heap.size < w3.heap.size := by have := hb3.size; omega
        have hkeep : ∀ W, Below w3.heap.size w3 W → W.cell? ⟨w.heap.size, 0, none⟩ = some (.slice (some ⟨b, off, none⟩) l.length cap) ∧ W.cell? ⟨wo.heap.size, 0, none⟩ = some (.int .i64 (k : Int)) := fun W hW => ⟨((rd hW).1 _ _ (by omega)).trans hbox3, ((rd hW).1 _ _ hks3).trans hkc3⟩
        have HB := Lib.hid hkeep
        have hlen3 : l.length - k + k = (turnI l k).length := by rw [turnI_len]; omega
        have hrows3 : (l.drop k).flatMap Info.row ++ (l.take k).flatMap Info.row = (turnI l k).flatMap Info.row := by unfold turnI; rw [List.flatMap_append]
        rw [hrows3, hlen3] at hown3
        have hS3 : Infos w3 v3 (turnI l k) := Sl.own _ (by intro y hy; obtain ⟨q, _, rfl⟩ := List.mem_map.1 hy; rfl) (by
          have := hown3
          rw [List.flatMap_def] at this
          rw [List.length_map]
          exact this)
        obtain ⟨A3, cp3, hv3, _⟩ := id hS3
        rw [List.length_map, turnI_len] at hv3
        subst hv3
        have hbig : l.length * 8 ≤ 140737488351232 := by omega
        have hbigm : (turnI l k).length * 8 ≤ 140737488351232 := by rw [turnI_len]; omega
        have hS1 : ∀ W, Below w3.heap.size w3 W → Infos W (.slice (some ⟨b, off, none⟩) l.length cap) l := fun W hW => Sl.below H.out (Base.tr hbw3 hW)
        have hS2 : ∀ W, Below w3.heap.size w3 W → Infos W (.slice A3 l.length cp3) (turnI l k) := fun W hW => Sl.below hS3 hW
        have c1 := fun W hW => Lib.hid (Write_any (some ⟨b, off, none⟩) l.length cap l W (hS1 W hW) hbig)
        have c2 := fun W hW => Lib.hid (Write_any A3 l.length cp3 (turnI l k) W (hS2 W hW) hbigm)
        have c3 := fun W hW => Lib.hid (Erase_any (some ⟨b, off, none⟩) l.length cap l HM.out W (hS1 W hW) hbig)
        have c4 := fun W hW => Lib.hid (Erase_any A3 l.length cp3 (turnI l k) (HM.out.turn k) W (hS2 W hW) hbigm)
        have c5 := fun W hW => Lib.hid (AtOnce_any (some ⟨b, off, none⟩) l.length cap l W (hS1 W hW) hbig)
        have c6 := fun W hW => Lib.hid (AtOnce_any A3 l.length cp3 (turnI l k) W (hS2 W hW) hbigm)
        have c7 := fun W hW => Lib.hid (Oldest_any (some ⟨b, off, none⟩) l.length cap l W (hS1 W hW) hbig)
        have c8 := fun W hW => Lib.hid (Oldest_any A3 l.length cp3 (turnI l k) W (hS2 W hW) hbigm)
        obtain ⟨s1, b1, r1⟩ := turned_wear hklt HU.out canBlank
        obtain ⟨s2, b2, r2⟩ := turned_erase hklt HU.out HA.out
        obtain ⟨s3, b3, r3⟩ := turned_wear hklt HU.out onceB
        obtain ⟨s4, b4, r4⟩ := turned_age hklt HA.out canErase
        rw [s1] at c2
        rw [s2] at c4
        rw [s3] at c6
        rw [s4] at c8
        have k1 := fun W h1 h2 => Lib.hid (back_any wo.heap.size w.heap.size l.length k (some ⟨b, off, none⟩) cap _ _ hklt hlen r1 W h1 h2)
        have k2 := fun W h1 h2 => Lib.hid (back_any wo.heap.size w.heap.size l.length k (some ⟨b, off, none⟩) cap _ _ hklt hlen r2 W h1 h2)
        have k3 := fun W h1 h2 => Lib.hid (back_any wo.heap.size w.heap.size l.length k (some ⟨b, off, none⟩) cap _ _ hklt hlen r3 W h1 h2)
        have k4 := fun W h1 h2 => Lib.hid (back_any wo.heap.size w.heap.size l.length k (some ⟨b, off, none⟩) cap _ _ hklt hlen r4 W h1 h2)
        rw [b1] at k1
        rw [b2] at k2
        rw [b3] at k3
        rw [b4] at k4
        have hw3 := Below.refl w3.heap.size w3
        generalize leastOf cWear l (idx canBlank 0 l) = x1 at *
        generalize eraseIx l = x2 at *
        generalize leastOf cWear l (idx onceB 0 l) = x3 at *
        generalize leastOf cAge l (idx canErase 0 l) = x4 at *
        generalize leastOf cWear (turnI l k) (idx canBlank 0 (turnI l k)) = y1 at *
        generalize eraseIx (turnI l k) = y2 at *
        generalize leastOf cWear (turnI l k) (idx onceB 0 (turnI l k)) = y3 at *
        generalize leastOf cAge (turnI l k) (idx canErase 0 (turnI l k)) = y4 at *
        generalize someB (idx canBlank 0 l) = z1 at *
        generalize eraseOk l = z2 at *
        generalize someB (idx onceB 0 l) = z3 at *
        generalize someB (idx canErase 0 l) = z4 at *
        obtain ⟨p1, p2⟩ := HB.out _ hw3
        have HW := Lib.hid hbw3
        clear OWN2 hown3 hgr3 hrows3 hlen3 hS3 hS1 hS2 s1 s2 s3 s4 b1 b2 b3 b4 r1 r2 r3 r4 hkeep hbox3 hkc3 hbox0 hbo3 hb3 hbox2 hkc2 hwlt2 hklt2 hb2 hbo2 HD HT hsz hi hz0 hz1 hz2 HC HU HA hmod hbw3 hwb1 HM H
        go_wp2_with fail
        refine (c1 _ hw3).out.mono ?_; rintro e v3 ⟨rfl, hb4⟩
        have hw4 := Base.tr hw3 hb4
        obtain ⟨p1, p2⟩ := HB.out _ hw4
        clear hb4
        go_wp2_with fail
        refine (c2 _ hw4).out.mono ?_; rintro e v4 ⟨rfl, hb5⟩
        have hw5 := Base.tr hw4 hb5
        obtain ⟨p1, p2⟩ := HB.out _ hw5
        clear hb5
        go_wp2_with fail
        refine (k1 _ p2 p1).out.mono ?_; rintro e v5 he
        obtain ⟨rfl, rfl⟩ := he
        go_wp2_with fail
        refine (c3 _ hw5).out.mono ?_; rintro e v5 ⟨rfl, hb6⟩
        have hw6 := Base.tr hw5 hb6
        obtain ⟨p1, p2⟩ := HB.out _ hw6
        clear hb6
        go_wp2_with fail
        refine (c4 _ hw6).out.mono ?_; rintro e v6 ⟨rfl, hb7⟩
        have hw7 := Base.tr hw6 hb7
        obtain ⟨p1, p2⟩ := HB.out _ hw7
        clear hb7
        go_wp2_with fail
        refine (k2 _ p2 p1).out.mono ?_; rintro e v7 he
        obtain ⟨rfl, rfl⟩ := he
        go_wp2_with fail
        refine (c5 _ hw7).out.mono ?_; rintro e v7 ⟨rfl, hb8⟩
        have hw8 := Base.tr hw7 hb8
        obtain ⟨p1, p2⟩ := HB.out _ hw8
        clear hb8
        go_wp2_with fail
        refine (c6 _ hw8).out.mono ?_; rintro e v8 ⟨rfl, hb9⟩
        have hw9 := Base.tr hw8 hb9
        obtain ⟨p1, p2⟩ := HB.out _ hw9
        clear hb9
        go_wp2_with fail
        refine (k3 _ p2 p1).out.mono ?_; rintro e v9 he
        obtain ⟨rfl, rfl⟩ := he
        go_wp2_with fail
        refine (c7 _ hw9).out.mono ?_; rintro e v9 ⟨rfl, hb10⟩
        have hw10 := Base.tr hw9 hb10
        obtain ⟨p1, p2⟩ := HB.out _ hw10
        clear hb10
        go_wp2_with fail
        refine (c8 _ hw10).out.mono ?_; rintro e v10 ⟨rfl, hb11⟩
        have hw11 := Base.tr hw10 hb11
        obtain ⟨p1, p2⟩ := HB.out _ hw11
        clear hb11
        go_wp2_with fail
        refine (k4 _ p2 p1).out.mono ?_; rintro e v11 he
        obtain ⟨rfl, rfl⟩ := he
        go_wp2_with fail
        refine (gf _).out.mono ?_; rintro e vz ⟨rfl, hbz⟩
        have hwz := Base.tr hw11 hbz
        have hie : ∀ x : Int, (x == x) = true := fun x => beq_self_eq_true x
        have hbe : ∀ x : Bool, (x == x) = true := fun x => beq_self_eq_true x
        go_wp2_with fail
        go_ret
        exact ⟨rfl, Base.tr HW.out hwz⟩
end Go.Proofs.Ytbbiohgillhmnaa
