/- A region that draws its order, whose effects (calls, stores, allocations) stand in one forced order among what only reads: one walk in the text's order, world by world. -/
import Derived.Test.YthiimpleljaimaaGreatDoorPh
namespace Go.Proofs.YthiimpleljaimaaGreatDoor
open Go Go.RowKit

section
variable {P : Program} {ops : Array Oper} {md : Region.Mode} {D : World → Prop} {effs : List Nat}

/-- What an effect comes to: whatever it yields, R holds. -/
def effUpon2 (P : Program) (w : World) (R : Value → World → Prop) : Result Next → Prop
  | .ok (.value u) w' => R u w'
  | .ok .skip w' => R undef w'
  | .ok (.enter f args) w' => w' = w ∧ Calls P f args w (fun e w'' => ∃ v, e = .returned v ∧ R v w'')
  | _ => False
def effAt2 (P : Program) (o : Oper) (a : Act) (w : World) (R : Value → World → Prop) : Prop := effUpon2 P w R ((execOp a.eval o).run P w)
theorem effAt2_same {o : Oper} {a a' : Act} {w : World} {R : Value → World → Prop} (he : execOp a'.eval o = execOp a.eval o) (h : effAt2 P o a w R) : effAt2 P o a' w R := by
  unfold effAt2 at *; rwa [he]
theorem effAt2_mono {o : Oper} {a : Act} {w : World} {R R' : Value → World → Prop} (hR : ∀ v w', R v w' → R' v w') (h : effAt2 P o a w R) : effAt2 P o a w R' := by
  unfold effAt2 effUpon2 at *
  generalize (execOp a.eval o).run P w = r at *
  cases r with
  | ok n w' =>
    cases n <;> simp only at h ⊢
    case value => exact hR _ _ h
    case skip => exact hR _ _ h
    case enter f args => exact ⟨h.1, h.2.mono fun e w'' ⟨v, he, hv⟩ => ⟨v, he, hR _ _ hv⟩⟩
  | halt x w' => simp only at h
theorem effAt2_some {o : Oper} {a : Act} {w : World} {R : Value → World → Prop} (h : effAt2 P o a w R) : ∃ v w', R v w' := by
  unfold effAt2 effUpon2 at h
  generalize (execOp a.eval o).run P w = r at *
  cases r with
  | ok n w' =>
    cases n <;> simp only at h
    case value => exact ⟨_, _, h⟩
    case skip => exact ⟨_, _, h⟩
    case enter f args =>
      obtain ⟨e, w'', fr, ⟨v, _, hv⟩, _⟩ := h.2 []
      exact ⟨v, w'', hv⟩
  | halt x w' => simp only at h
theorem effAt2_wp {o : Oper} {a : Act} {K' : Act → World → Prop} {Q' : Exit → Act → World → Prop} {w : World} {R : Value → World → Prop} (h : effAt2 P o a w R) (hK : ∀ v w', R v w' → K' (a.put o.dst v) w') : o.wp P a w K' Q' := by
  unfold effAt2 at h
  unfold Oper.wp
  generalize (execOp a.eval o).run P w = r at *
  cases r with
  | ok n w' =>
    cases n <;> simp only [effUpon2] at h <;> simp only [Oper.upon]
    case value u => exact hK _ _ h
    case skip => exact hK _ _ h
    case enter f args =>
      obtain ⟨e1, hc⟩ := h
      rw [e1]
      exact hc.mono fun e w'' ⟨v, he, hv⟩ => by subst he; exact hK _ _ hv
  | halt x w' => simp only [effUpon2] at h

/-- It yields v and leaves the world alone. -/
def readsAt (P : Program) (o : Oper) (a : Act) (v : Value) (w : World) : Prop := (execOp a.eval o).run P w = .ok (.value v) w
theorem readsAt_same {o : Oper} {a a' : Act} {w : World} {v : Value} (he : execOp a'.eval o = execOp a.eval o) (h : readsAt P o a v w) : readsAt P o a' v w := by
  unfold readsAt at *; rwa [he]
theorem readsAt_one {o : Oper} {a : Act} {w : World} {v u : Value} (h : readsAt P o a v w) (g : readsAt P o a u w) : v = u := by
  unfold readsAt at *
  rw [h] at g
  injection g with g _
  injection g
theorem readsAt_wp {o : Oper} {a : Act} {K' : Act → World → Prop} {Q' : Exit → Act → World → Prop} {w : World} {v : Value} (h : readsAt P o a v w) (hK : K' (a.put o.dst v) w) : o.wp P a w K' Q' := by
  unfold readsAt at h
  unfold Oper.wp
  rw [h]
  exact hK

/-- The operation number i comes up, in act a and world w. -/
def poOp (P : Program) (ops : Array Oper) (D : World → Prop) (effs : List Nat) (i : Nat) (K : Act → World → Prop) (a : Act) (w : World) : Prop :=
  match ops[i]? with
  | none => K a w
  | some o => if Region.wanted o (yielded ops a.tmps) then
      (effs.contains i = true ∧ effAt2 P o a w (fun v w' => D w' ∧ K (a.put o.dst v) w')) ∨
      (effs.contains i = false ∧ ∃ v, (∀ w, D w → readsAt P o a v w) ∧ K (a.put o.dst v) w)
    else K (a.put o.dst undef) w

theorem poOp_mono {i : Nat} {a : Act} {w : World} (hD : D w) {K K' : Act → World → Prop} (h : ∀ a w, D w → K a w → K' a w) (hh : poOp P ops D effs i K a w) : poOp P ops D effs i K' a w := by
  unfold poOp at *
  split
  · exact h _ _ hD (by simpa [*] using hh)
  · rename_i o ho
    simp only [ho] at hh
    split
    · rename_i hw
      simp only [hw, if_true] at hh
      rcases hh with ⟨h1, h2⟩ | ⟨h1, v, h2, h3⟩
      · exact .inl ⟨h1, effAt2_mono (fun v w' ⟨p, q⟩ => ⟨p, h _ _ p q⟩) h2⟩
      · exact .inr ⟨h1, v, h2, h _ _ hD h3⟩
    · rename_i hw; simp only [hw] at hh; exact h _ _ hD hh

/-- Two that are apart, of which one only reads, may change places. -/
theorem poOp_comm {i j : Nat} {oi oj : Oper} {w : World} {a : Act} (hi : ops[i]? = some oi) (hj : ops[j]? = some oj) (hap : oi.apart ops oj = true) (hne : (effs.contains i && effs.contains j) = false)
    (hsi : ∀ cs b, oi.op ≠ .select cs b) (hsj : ∀ cs b, oj.op ≠ .select cs b) (hD : D w) {K : Act → World → Prop} (h : poOp P ops D effs i (poOp P ops D effs j K) a w) : poOp P ops D effs j (poOp P ops D effs i K) a w := by
  obtain ⟨h1, h2, h3⟩ := Oper.apart_spec hap
  have ej : ∀ (a : Act) v, execOp (a.put oi.dst v).eval oj = execOp a.eval oj := fun a v => execOp_put oj hsj a oi.dst v h1
  have ei : ∀ (a : Act) v, execOp (a.put oj.dst v).eval oi = execOp a.eval oi := fun a v => execOp_put oi hsi a oj.dst v h3
  have wj : ∀ (a : Act) v, Region.wanted oj (yielded ops (a.put oi.dst v).tmps) = Region.wanted oj (yielded ops a.tmps) := fun a v => wanted_put oj a oi.dst v h1
  have wi : ∀ (a : Act) v, Region.wanted oi (yielded ops (a.put oj.dst v).tmps) = Region.wanted oi (yielded ops a.tmps) := fun a v => wanted_put oi a oj.dst v h3
  have pc : ∀ (a : Act) v u, (a.put oi.dst v).put oj.dst u = (a.put oj.dst u).put oi.dst v := fun a v u => Act.put_comm a v u h2
  unfold poOp at h ⊢
  simp only [hi, hj] at h ⊢
  by_cases hwi : Region.wanted oi (yielded ops a.tmps) = true
  · simp only [hwi, if_true] at h
    by_cases hwj : Region.wanted oj (yielded ops a.tmps) = true
    · simp only [hwj, if_true]
      rcases h with ⟨c1, c2⟩ | ⟨c1, v, c2, c3⟩
      · have cj : effs.contains j = false := by
          cases hc : effs.contains j
          · rfl
          · rw [c1, hc] at hne; cases hne
        refine .inr ⟨cj, ?_⟩
        have c2' : effAt2 P oi a w (fun v w' => D w' ∧ ∃ u, (∀ w, D w → readsAt P oj a u w) ∧ K ((a.put oi.dst v).put oj.dst u) w') := by
          refine effAt2_mono (fun v w' ⟨p, q⟩ => ⟨p, ?_⟩) c2
          simp only [wj, hwj, if_true] at q
          rcases q with ⟨q1, _⟩ | ⟨_, u, q2, q3⟩
          · rw [cj] at q1; cases q1
          · exact ⟨u, fun w hw => readsAt_same (ej a v).symm (q2 w hw), q3⟩
        obtain ⟨_, _, _, u, hu, _⟩ := effAt2_some c2'
        refine ⟨u, hu, ?_⟩
        rw [wi, hwi, if_pos rfl]
        refine .inl ⟨c1, effAt2_same (ei a u) (effAt2_mono (fun v w' ⟨p, u', q1, q2⟩ => ⟨p, ?_⟩) c2')⟩
        have : u' = u := readsAt_one (q1 w hD) (hu w hD)
        subst this
        rw [← pc]
        exact q2
      · simp only [wj, hwj, if_true] at c3
        rcases c3 with ⟨d1, d2⟩ | ⟨d1, u, d2, d3⟩
        · refine .inl ⟨d1, effAt2_same (ej a v).symm (effAt2_mono (fun u w' ⟨p, q⟩ => ⟨p, ?_⟩) d2)⟩
          rw [wi, hwi, if_pos rfl]
          exact .inr ⟨c1, v, fun w hw => readsAt_same (ei a u) (c2 w hw), by rw [← pc]; exact q⟩
        · refine .inr ⟨d1, u, fun w hw => readsAt_same (ej a v).symm (d2 w hw), ?_⟩
          rw [wi, hwi, if_pos rfl]
          exact .inr ⟨c1, v, fun w hw => readsAt_same (ei a u) (c2 w hw), by rw [← pc]; exact d3⟩
    · have hwj' : Region.wanted oj (yielded ops a.tmps) = false := by simpa using hwj
      simp only [hwj', Bool.false_eq_true, if_false]
      rw [wi, hwi, if_pos rfl]
      rcases h with ⟨c1, c2⟩ | ⟨c1, v, c2, c3⟩
      · refine .inl ⟨c1, effAt2_same (ei a undef) (effAt2_mono (fun v w' ⟨p, q⟩ => ⟨p, ?_⟩) c2)⟩
        simp only [wj, hwj', Bool.false_eq_true, if_false] at q
        rw [← pc]; exact q
      · simp only [wj, hwj', Bool.false_eq_true, if_false] at c3
        exact .inr ⟨c1, v, fun w hw => readsAt_same (ei a undef) (c2 w hw), by rw [← pc]; exact c3⟩
  · have hwi' : Region.wanted oi (yielded ops a.tmps) = false := by simpa using hwi
    simp only [hwi', Bool.false_eq_true, if_false] at h
    simp only [wj] at h
    by_cases hwj : Region.wanted oj (yielded ops a.tmps) = true
    · simp only [hwj, if_true] at h ⊢
      rcases h with ⟨d1, d2⟩ | ⟨d1, u, d2, d3⟩
      · refine .inl ⟨d1, effAt2_same (ej a undef).symm (effAt2_mono (fun u w' ⟨p, q⟩ => ⟨p, ?_⟩) d2)⟩
        rw [wi, hwi', if_neg (by simp), ← pc]
        exact q
      · refine .inr ⟨d1, u, fun w hw => readsAt_same (ej a undef).symm (d2 w hw), ?_⟩
        rw [wi, hwi', if_neg (by simp), ← pc]
        exact d3
    · have hwj' : Region.wanted oj (yielded ops a.tmps) = false := by simpa using hwj
      simp only [hwj', Bool.false_eq_true, if_false] at h ⊢
      rw [wi, hwi', if_neg (by simp), ← pc]
      exact h

/-- Which ones of the first k wait, straight or through others, for number i. -/
def reach (md : Region.Mode) (ops : Array Oper) (i : Nat) (k : Nat) : List Bool :=
  (List.range k).foldl (fun r k => r ++ [match ops[k]? with | none => false | some o => o.after.any fun e => Region.binds md e && (e.on == i || r.getD e.on false)]) []
theorem reach_succ (i k : Nat) : reach md ops i (k + 1) = reach md ops i k ++ [match ops[k]? with | none => false | some o => o.after.any fun e => Region.binds md e && (e.on == i || (reach md ops i k).getD e.on false)] := by
  unfold reach
  rw [List.range_succ, List.foldl_append]
  rfl
theorem reach_len (i : Nat) : ∀ k, (reach md ops i k).length = k
  | 0 => rfl
  | k + 1 => by rw [reach_succ, List.length_append, reach_len i k]; rfl
/-- Where all that a listed one waits for is listed, one that reaches i comes up behind i. -/
theorem reach_spec {i : Nat} {listed : Array Bool} (hcl : ∀ j oj, ops[j]? = some oj → listed.getD j false = true → ∀ e ∈ oj.after, Region.binds md e = true → listed.getD e.on false = true) :
    ∀ k j, (reach md ops i k).getD j false = true → (∀ oj, ops[j]? = some oj → ∀ e ∈ oj.after, Region.binds md e = true → listed.getD e.on false = true) → listed.getD i false = true
  | 0, j, h, _ => by simp [reach] at h
  | k + 1, j, h, hd => by
    rw [reach_succ, List.getD_eq_getElem?_getD] at h
    by_cases hjk : j < k
    · rw [List.getElem?_append_left (by rw [reach_len]; exact hjk), ← List.getD_eq_getElem?_getD] at h
      exact reach_spec hcl k j h hd
    · by_cases hj : j = k
      · subst hj
        rw [List.getElem?_append_right (by rw [reach_len]; exact Nat.le_refl _), reach_len, Nat.sub_self] at h
        simp only [List.getElem?_cons_zero, Option.getD_some] at h
        split at h
        · cases h
        · rename_i o ho
          rw [Array.any_eq_true] at h
          obtain ⟨q, hq, h⟩ := h
          rw [Bool.and_eq_true, Bool.or_eq_true] at h
          obtain ⟨hb, h⟩ := h
          have hl := hd o ho _ (Array.getElem_mem hq) hb
          rcases h with h | h
          · have : o.after[q].on = i := by simpa using h
            rw [← this]; exact hl
          · exact reach_spec hcl j _ h (fun oj ho' => hcl _ oj ho' hl)
      · rw [List.getElem?_eq_none (by rw [List.length_append, reach_len]; simp; omega)] at h
        cases h
theorem ready_reach {n i j k : Nat} {listed : Array Bool} (inv : HeadInv md ops n listed) (hi : listed.getD i true = false) (hj : j ∈ Region.ready md ops listed) : (reach md ops i k).getD j false = false := by
  cases h : (reach md ops i k).getD j false
  · rfl
  · obtain ⟨_, o, ho, hall⟩ := mem_ready.1 hj
    have := reach_spec inv.closed k j h (fun oj ho' => by rw [ho] at ho'; injection ho' with ho'; subst ho'; exact hall)
    rw [getD_both hi] at this
    cases this

/-- No other one of effs may come up while this one has not. -/
def clashB2 (md : Region.Mode) (ops : Array Oper) (effs : List Nat) (listed : Array Bool) (i : Nat) : Bool :=
  !effs.contains i || effs.all fun j => j == i || listed.getD j true || (reach md ops i ops.size).getD j false
theorem clashB2_spec {i j : Nat} {listed : Array Bool} (h : clashB2 md ops effs listed i = true) (hi : effs.contains i = true) (hj : effs.contains j = true) (hne : j ≠ i) (hun : listed.getD j true = false) : (reach md ops i ops.size).getD j false = true := by
  unfold clashB2 at h
  rw [hi] at h
  simp only [Bool.not_true, Bool.false_or] at h
  have := List.all_eq_true.1 h j (by simpa using hj)
  simp only [Bool.or_eq_true, beq_iff_eq, hne, false_or, hun, Bool.false_eq_true] at this
  exact this
def headB2 (md : Region.Mode) (ops : Array Oper) (effs : List Nat) (g : Nat) : Nat → Nat → Array Bool → Bool
  | 0, k, listed => Region.seqB md ops g k listed
  | f + 1, k, listed => (Region.ready md ops listed).contains k && Region.free md ops listed k && clashB2 md ops effs listed k && headB2 md ops effs g f (k + 1) (listed.setIfInBounds k true)
def phB2 (md : Region.Mode) (ops : Array Oper) (effs : List Nat) (n : Nat) : Bool :=
  Region.noSelect ops && tailB md ops n && headB2 md ops effs (ops.size - n) n 0 (Array.replicate ops.size false)

/-- Whatever order is picked among the first n. -/
def wpPo (P : Program) (md : Region.Mode) (ops : Array Oper) (D : World → Prop) (effs : List Nat) (n : Nat) (L : Array Bool → Act → World → Prop) : Nat → Array Bool → Act → World → Prop
  | 0, listed, a, w => L listed a w
  | f + 1, listed, a, w => Region.ready md ops listed ≠ [] ∧ ∀ i ∈ Region.ready md ops listed, i < n ∧ poOp P ops D effs i (wpPo P md ops D effs n L f (listed.setIfInBounds i true)) a w

theorem wpPo_first {n i : Nat} {oi : Oper} {L : Array Bool → Act → World → Prop} (hi : ops[i]? = some oi) (hsel : ∀ (j : Nat) (o : Oper) cs b, ops[j]? = some o → o.op ≠ .select cs b) (hin : i < n)
    (hlt : ∀ listed, HeadInv md ops n listed → listed.getD i true = false → ∀ j ∈ Region.ready md ops listed, j < n)
    (hdone : ∀ listed a w, L listed a w → ∀ j ∈ Region.ready md ops listed, n ≤ j) :
    ∀ (f : Nat) (listed : Array Bool) (a : Act) (w : World), D w → HeadInv md ops n listed →
      (∀ j oj, ops[j]? = some oj → j ≠ i → listed.getD j true = false → (∀ e ∈ oj.after, Region.binds md e = true → e.on ≠ i) → oi.apart ops oj = true) →
      (∀ j, effs.contains i = true → effs.contains j = true → j ≠ i → listed.getD j true = false → (reach md ops i ops.size).getD j false = true) →
      i ∈ Region.ready md ops listed → poOp P ops D effs i (wpPo P md ops D effs n L f (listed.setIfInBounds i true)) a w → wpPo P md ops D effs n L (f + 1) listed a w := by
  intro f
  induction f with
  | zero =>
    intro listed a w hD inv _ _ hr H
    have hun := (mem_ready.1 hr).1
    refine ⟨fun h => (by rw [h] at hr; cases hr), fun j hj => ⟨hlt listed inv hun j hj, ?_⟩⟩
    by_cases hji : j = i
    · subst hji; exact H
    · exfalso
      have hs : ∃ a' w', L (listed.setIfInBounds i true) a' w' := by
        unfold poOp at H
        simp only [hi] at H
        split at H
        · rcases H with ⟨_, H⟩ | ⟨_, v, _, H⟩
          · obtain ⟨v, w', _, h⟩ := effAt2_some H; exact ⟨_, _, h⟩
          · exact ⟨_, _, H⟩
        · exact ⟨_, _, H⟩
      obtain ⟨a', w', hl⟩ := hs
      have := hdone _ _ _ hl j (ready_mono hj hji)
      have := hlt listed inv hun j hj
      omega
  | succ f ih =>
    intro listed a w hD inv hfree hclash hr H
    have hun := (mem_ready.1 hr).1
    refine ⟨fun h => (by rw [h] at hr; cases hr), fun j hj => ⟨hlt listed inv hun j hj, ?_⟩⟩
    have hjn := hlt listed inv hun j hj
    by_cases hji : j = i
    · subst hji; exact H
    · obtain ⟨hjun, oj, hoj, hall⟩ := mem_ready.1 hj
      have hnot : ∀ e ∈ oj.after, Region.binds md e = true → e.on ≠ i := fun e he hb heq => by
        have h1 := hall e he hb
        rw [heq, getD_both hun] at h1
        cases h1
      have hap := hfree j oj hoj hji hjun hnot
      have hcl : (effs.contains i && effs.contains j) = false := by
        cases hc : (effs.contains i && effs.contains j)
        · rfl
        · rw [Bool.and_eq_true] at hc
          have h1 := hclash j hc.1 hc.2 hji hjun
          rw [ready_reach inv hun hj] at h1
          cases h1
      have h1 : poOp P ops D effs i (poOp P ops D effs j (wpPo P md ops D effs n L f ((listed.setIfInBounds i true).setIfInBounds j true))) a w := poOp_mono hD (fun a' w' _ h => (h.2 j (ready_mono hj hji)).2) H
      have h2 := poOp_comm hi hoj hap hcl (fun cs b => hsel i oi cs b hi) (fun cs b => hsel j oj cs b hoj) hD h1
      have hfree' : ∀ k ok, ops[k]? = some ok → k ≠ i → (listed.setIfInBounds j true).getD k true = false →
          (∀ e ∈ ok.after, Region.binds md e = true → e.on ≠ i) → oi.apart ops ok = true := fun k ok hk hki hu hno => by
        refine hfree k ok hk hki ?_ hno
        by_cases hjk : j = k
        · subst hjk; exact hjun
        · rw [getD_set_ne true hjk] at hu; exact hu
      have hclash' : ∀ k, effs.contains i = true → effs.contains k = true → k ≠ i → (listed.setIfInBounds j true).getD k true = false → (reach md ops i ops.size).getD k false = true := fun k c1 c2 hki hu => by
        refine hclash k c1 c2 hki ?_
        by_cases hjk : j = k
        · subst hjk; exact hjun
        · rw [getD_set_ne true hjk] at hu; exact hu
      refine poOp_mono hD (fun a' w' hD' h3 => ih (listed.setIfInBounds j true) a' w' hD' (inv.set hj hjn) hfree' hclash' (ready_mono hr (Ne.symm hji)) ?_) h2
      rw [Array.setIfInBounds_comm _ _ hji]
      exact h3

/-- The walk of the text's order. -/
def wpSeq (P : Program) (ops : Array Oper) (D : World → Prop) (effs : List Nat) (Q : Act → World → Prop) : Nat → List Oper → Act → World → Prop
  | _, [], a, w => Q a w
  | k, o :: rest, a, w => if Region.wanted o (yielded ops a.tmps) then
      (effs.contains k = true ∧ effAt2 P o a w (fun v w' => D w' ∧ wpSeq P ops D effs Q (k + 1) rest (a.put o.dst v) w')) ∨
      (effs.contains k = false ∧ ∃ v, (∀ w, D w → readsAt P o a v w) ∧ wpSeq P ops D effs Q (k + 1) rest (a.put o.dst v) w)
    else wpSeq P ops D effs Q (k + 1) rest (a.put o.dst undef) w

theorem wpPo_lex {n g : Nat} {Lq : Act → World → Prop} (hsel : Region.noSelect ops = true)
    (hlt : ∀ i, i < n → ∀ listed, HeadInv md ops n listed → listed.getD i true = false → ∀ j ∈ Region.ready md ops listed, j < n) :
    ∀ (l : List Oper) (k : Nat) (listed : Array Bool) (a : Act) (w : World), D w → (∀ j, j < l.length → l[j]? = ops[k + j]?) → k + l.length = n → HeadInv md ops n listed →
    headB2 md ops effs g l.length k listed = true → wpSeq P ops D effs Lq k l a w →
    wpPo P md ops D effs n (fun listed' a' w' => Region.seqB md ops g n listed' = true ∧ D w' ∧ Lq a' w') l.length listed a w
  | [], k, listed, a, w, hD, _, hk, _, hB, h => by
    have : k = n := by simpa using hk
    subst this
    exact ⟨by simpa [headB2] using hB, hD, h⟩
  | o :: l, k, listed, a, w, hD, hl, hk, inv, hB, h => by
    have h0 : ops[k]? = some o := by simpa using (hl 0 (by simp)).symm
    simp only [List.length_cons, headB2, Bool.and_eq_true] at hB
    obtain ⟨⟨⟨hr, hf⟩, hc⟩, hB'⟩ := hB
    have hkn : k < n := by simp only [List.length_cons] at hk; omega
    have hr' : k ∈ Region.ready md ops listed := by simpa using hr
    have hst : poOp P ops D effs k (wpSeq P ops D effs Lq (k + 1) l) a w := by unfold poOp; simp only [h0]; exact h
    refine wpPo_first h0 (Region.noSelect_spec hsel) hkn (hlt k hkn) (fun listed' a' w' hL => seqB_ready hL.1) l.length listed a w hD inv
      (fun j oj hj hne hun hno => Region.free_spec h0 hf j oj hj hne hun hno) (fun j c1 c2 hne hun => clashB2_spec hc c1 c2 hne hun) hr' ?_
    exact poOp_mono hD (fun a' w' hD' h' => wpPo_lex hsel hlt l (k + 1) _ a' w' hD' (fun j hj => by have := hl (j + 1) (by simp; omega); simpa [Nat.add_assoc, Nat.add_comm 1 j] using this) (by simp only [List.length_cons] at hk; omega) (inv.set hr' hkn) hB' h') hst

theorem wpOp_of_poOp {i : Nat} {a : Act} {K K' : Act → World → Prop} {Q' : Exit → Act → World → Prop} {w : World} (hD : D w) (h : ∀ a w', D w' → K a w' → K' a w') (hh : poOp P ops D effs i K a w) : wpOp P ops Q' i K' a w := by
  unfold poOp at hh
  unfold wpOp
  split
  · rename_i ho; simp only [ho] at hh; exact h _ _ hD hh
  · rename_i o ho
    simp only [ho] at hh
    split
    · rename_i hw
      simp only [hw, if_true] at hh
      refine .inl ?_
      rcases hh with ⟨_, g1⟩ | ⟨_, v, g1, g2⟩
      · exact effAt2_wp g1 (fun v w' ⟨p, q⟩ => h _ _ p q)
      · exact readsAt_wp (g1 w hD) (h _ _ hD g2)
    · rename_i hw; simp only [hw] at hh; exact h _ _ hD hh

theorem wpAny_of_po {n g : Nat} {L : Array Bool → Act → World → Prop} {Q' : Exit → Act → World → Prop} (hL : ∀ listed a w, L listed a w → wpAny P md ops Q' g listed a w) :
    ∀ (f : Nat) (listed : Array Bool) (a : Act) (w : World), D w → wpPo P md ops D effs n L f listed a w → wpAny P md ops Q' (f + g) listed a w
  | 0, listed, a, w, _, h => by rw [Nat.zero_add]; exact hL _ _ _ h
  | f + 1, listed, a, w, hD, h => by
    rw [show f + 1 + g = (f + g) + 1 by omega]
    exact ⟨fun h0 => absurd h0 h.1, fun i hi => wpOp_of_poOp hD (fun a' w' hD' h' => wpAny_of_po hL f _ a' w' hD' h') (h.2 i hi).2⟩

theorem wp_region_po {id : Nat} {Q : Exit → Act → World → Prop} {a : Act} {w : World} {l : List Oper} (D : World → Prop) (n : Nat) (effs : List Nat) (hm : P.follows .mixedOrders = true) (hB : phB2 .any l.toArray effs n = true)
    (hD : D w.drew)
    (h : wpSeq P l.toArray D effs (fun a' w' => wpList P l.toArray Q (l.drop n) a' w') 0 (l.take n) a w.drew) : (Code.region id l.toArray true).wp P Q a w := by
  simp only [phB2, Bool.and_eq_true] at hB
  obtain ⟨⟨hsel, ht⟩, hlex⟩ := hB
  have hn' : n ≤ l.length := by
    simp only [tailB, Bool.or_eq_true, Bool.and_eq_true, decide_eq_true_eq, List.size_toArray] at ht
    rcases ht with ht | ⟨⟨ht, _⟩, _⟩ <;> omega
  have htl : (l.take n).length = n := by simp; omega
  have hdl : (l.drop n).length = l.toArray.size - n := by simp
  have inv0 : HeadInv .any l.toArray n (Array.replicate l.toArray.size false) :=
    ⟨by simp, fun j oj _ hl => (by rw [getD_replicate_false] at hl; cases hl), fun t _ ht => getD_in (by simpa using ht) (getD_replicate_false _ _)⟩
  have hlt : ∀ i, i < n → ∀ listed, HeadInv .any l.toArray n listed → listed.getD i true = false → ∀ j ∈ Region.ready .any l.toArray listed, j < n := by
    intro i hi listed inv hun j hj
    simp only [tailB, Bool.or_eq_true, Bool.and_eq_true, decide_eq_true_eq] at ht
    rcases ht with ht | ⟨⟨ht, hs⟩, hc⟩
    · obtain ⟨_, o, ho, _⟩ := mem_ready.1 hj
      have := (Array.getElem?_eq_some_iff.1 ho).1
      omega
    · rcases Nat.lt_or_ge j n with h | h
      · exact h
      · exact absurd hj (tail_waits hs hc ht inv _ i rfl hi hun j h)
  have H := wpPo_lex (md := .any) (g := l.toArray.size - n) hsel hlt (l.take n) 0 _ a w.drew hD (fun j hj => by
    have hj' : j < n := by rw [htl] at hj; exact hj
    simp [hj']) (by simpa using htl) inv0 (by rw [htl]; exact hlex) h
  refine wp_region_any hm ?_
  have := wpAny_of_po (Q' := Q) (g := l.toArray.size - n) (L := fun listed' a' w' => Region.seqB .any l.toArray (l.toArray.size - n) n listed' = true ∧ D w' ∧ wpList P l.toArray Q (l.drop n) a' w') (fun listed a' w' hL => by
    have := wpAny_of_seq (md := .any) (Q' := Q) (l.drop n) n listed a' w' (fun j => by simp [List.getElem?_drop]) (by rw [hdl]; exact hL.1) hL.2.2
    rwa [hdl] at this) _ _ _ w.drew hD H
  rw [htl, show n + (l.toArray.size - n) = l.toArray.size by rw [List.size_toArray]; omega] at this
  exact this

/-! ### The steps of the walk -/
variable {Q : Act → World → Prop} {a : Act} {w : World} {o : Oper} {rest : List Oper} {k : Nat}
theorem seq_nil (h : Q a w) : wpSeq P ops D effs Q k [] a w := h
theorem seq_read (hk : effs.contains k = false)
    (h : ∀ K : Act → Prop, (∀ a, wpSeq P ops D effs Q (k + 1) rest a w → K a) → if Region.wanted o (yielded ops a.tmps) then ∃ v, (∀ w, D w → readsAt P o a v w) ∧ K (a.put o.dst v) else K (a.put o.dst undef)) :
    wpSeq P ops D effs Q k (o :: rest) a w := by
  have := h _ (fun _ h => h)
  unfold wpSeq
  split
  · rename_i hw; rw [if_pos hw] at this; exact .inr ⟨hk, this⟩
  · rename_i hw; rw [if_neg hw] at this; exact this
/-- An effect that is wanted. -/
theorem seq_eff (hk : effs.contains k = true) (hw : Region.wanted o (yielded ops a.tmps) = true)
    (h : ∀ K : Act → World → Prop, (∀ a w, wpSeq P ops D effs Q (k + 1) rest a w → K a w) → effAt2 P o a w (fun v w' => D w' ∧ K (a.put o.dst v) w')) : wpSeq P ops D effs Q k (o :: rest) a w := by
  unfold wpSeq
  rw [if_pos hw]
  exact .inl ⟨hk, h _ (fun _ _ h => h)⟩
/-- One that is not wanted. -/
theorem seq_skip (hw : Region.wanted o (yielded ops a.tmps) = false) (h : wpSeq P ops D effs Q (k + 1) rest (a.put o.dst undef) w) : wpSeq P ops D effs Q k (o :: rest) a w := by
  unfold wpSeq
  rw [if_neg (by rw [hw]; simp)]
  exact h
end
end Go.Proofs.YthiimpleljaimaaGreatDoor
