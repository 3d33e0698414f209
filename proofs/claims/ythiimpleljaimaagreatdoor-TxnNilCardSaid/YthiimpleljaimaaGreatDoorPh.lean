/- A region that draws its order: what only reads is walked once, in a class of worlds; allocations among it are taken as they stand in the text; a tail that waits for all of them is walked as it is written. -/
import Derived.Test.YthiimpleljaimaaGreatDoorMg1
import Derived.Test.YthiimpleljaimaaGreatDoorMg2
import Derived.StillTail
import Derived.Deep.AppendLies
namespace Go.Proofs.YthiimpleljaimaaGreatDoor
open Go Go.RowKit

section
variable {P : Program} {ops : Array Oper} {md : Region.Mode} {D : World → Prop} {effs : List Nat}

/-- What an effect comes to: a value in a world of E'; or a call that hands it back so. -/
def effUpon (P : Program) (E' : World → Prop) (w : World) (v : Value) : Result Next → Prop
  | .ok (.value u) w' => E' w' ∧ u = v
  | .ok .skip w' => E' w' ∧ v = undef
  | .ok (.enter f args) w' => w' = w ∧ Calls P f args w (fun e w'' => e = .returned v ∧ E' w'')
  | _ => False
def effAt (P : Program) (o : Oper) (a : Act) (E' : World → Prop) (w : World) (v : Value) : Prop := effUpon P E' w v ((execOp a.eval o).run P w)
theorem effAt_same {o : Oper} {a a' : Act} {C : World → Prop} {w : World} {v : Value} (he : execOp a'.eval o = execOp a.eval o) (h : effAt P o a C w v) : effAt P o a' C w v := by
  unfold effAt at *; rwa [he]
theorem effAt_wp {o : Oper} {a : Act} {K' : Act → World → Prop} {Q' : Exit → Act → World → Prop} {w : World} {v : Value} {E' : World → Prop} (h : effAt P o a E' w v) (hK : ∀ w', E' w' → K' (a.put o.dst v) w') : o.wp P a w K' Q' := by
  unfold effAt at h
  unfold Oper.wp
  generalize (execOp a.eval o).run P w = r at *
  cases r with
  | ok n w' =>
    cases n <;> simp only [effUpon] at h <;> simp only [Oper.upon]
    case value u =>
      obtain ⟨e1, e2⟩ := h
      rw [e2]
      exact hK _ e1
    case skip =>
      obtain ⟨e1, e2⟩ := h
      rw [← e2]
      exact hK _ e1
    case enter f args =>
      obtain ⟨e1, hc⟩ := h
      rw [e1]
      exact hc.mono fun e w'' ⟨he, hw''⟩ => by subst he; exact hK _ hw''
  | halt x w' => simp only [effUpon] at h

/-- The operation number i comes up: one that only reads is the same in all of D; one of effs turns the class. -/
def phOp (P : Program) (ops : Array Oper) (D : World → Prop) (effs : List Nat) (i : Nat) (K : (World → Prop) → Act → Prop) (E : World → Prop) (a : Act) : Prop :=
  match ops[i]? with
  | none => K E a
  | some o => if Region.wanted o (yielded ops a.tmps) then
      (effs.contains i = true ∧ ∃ v E', (∀ w, E w → effAt P o a E' w v) ∧ (∀ w, E' w → D w) ∧ K E' (a.put o.dst v)) ∨
      (effs.contains i = false ∧ ∃ v, (∀ w, D w → o.quietAt P a (fun w' => w' = w) w v) ∧ K E (a.put o.dst v))
    else K E (a.put o.dst undef)

theorem phOp_mono {i : Nat} {a : Act} {E : World → Prop} {K K' : (World → Prop) → Act → Prop} (h : ∀ E a, K E a → K' E a) (hh : phOp P ops D effs i K E a) : phOp P ops D effs i K' E a := by
  unfold phOp at *
  split
  · exact h _ _ (by simpa [*] using hh)
  · rename_i o ho
    simp only [ho] at hh
    split
    · rename_i hw
      simp only [hw, if_true] at hh
      rcases hh with ⟨h1, v, E', h2, h3, h4⟩ | ⟨h1, v, h2, h3⟩
      · exact .inl ⟨h1, v, E', h2, h3, h _ _ h4⟩
      · exact .inr ⟨h1, v, h2, h _ _ h3⟩
    · rename_i hw; simp only [hw] at hh; exact h _ _ hh

/-- Whatever order is picked among the first n. -/
def wpPh (P : Program) (md : Region.Mode) (ops : Array Oper) (D : World → Prop) (effs : List Nat) (n : Nat) (L : Array Bool → (World → Prop) → Act → Prop) : Nat → Array Bool → (World → Prop) → Act → Prop
  | 0, listed, E, a => L listed E a
  | f + 1, listed, E, a => Region.ready md ops listed ≠ [] ∧ ∀ i ∈ Region.ready md ops listed, i < n ∧ phOp P ops D effs i (wpPh P md ops D effs n L f (listed.setIfInBounds i true)) E a

/-- What the walk shows of one operation. -/
def YieldsPh (P : Program) (ops : Array Oper) (D : World → Prop) (effs : List Nat) (i : Nat) (o : Oper) (v : Value) (E E' : World → Prop) (a : Act) : Prop :=
  (Region.wanted o (yielded ops a.tmps) = true ∧
    ((effs.contains i = true ∧ (∀ w, E w → effAt P o a E' w v) ∧ (∀ w, E' w → D w)) ∨
     (effs.contains i = false ∧ (∀ w, D w → o.quietAt P a (fun w' => w' = w) w v) ∧ E' = E))) ∨
  (Region.wanted o (yielded ops a.tmps) = false ∧ v = undef ∧ E' = E)

theorem YieldsPh.op {i : Nat} {o : Oper} {v : Value} {E E' : World → Prop} {a : Act} (hi : ops[i]? = some o) (hy : YieldsPh P ops D effs i o v E E' a) {K : (World → Prop) → Act → Prop} (h : K E' (a.put o.dst v)) : phOp P ops D effs i K E a := by
  unfold phOp
  simp only [hi]
  rcases hy with ⟨hw, ⟨h1, h2, h3⟩ | ⟨h1, h2, rfl⟩⟩ | ⟨hw, rfl, rfl⟩
  · simp only [hw, if_true]; exact .inl ⟨h1, v, E', h2, h3, h⟩
  · simp only [hw, if_true]; exact .inr ⟨h1, v, h2, h⟩
  · simp only [hw, Bool.false_eq_true, if_false]; exact h
theorem yieldsPh_of {i : Nat} {o : Oper} {E : World → Prop} {a : Act} {K : (World → Prop) → Act → Prop} (hi : ops[i]? = some o) (h : phOp P ops D effs i K E a) : ∃ v E', YieldsPh P ops D effs i o v E E' a ∧ K E' (a.put o.dst v) := by
  unfold phOp at h
  simp only [hi] at h
  by_cases hw : Region.wanted o (yielded ops a.tmps) = true
  · simp only [hw, if_true] at h
    rcases h with ⟨h1, v, E', h2, h3, h4⟩ | ⟨h1, v, h2, h3⟩
    · exact ⟨v, E', .inl ⟨hw, .inl ⟨h1, h2, h3⟩⟩, h4⟩
    · exact ⟨v, E, .inl ⟨hw, .inr ⟨h1, h2, rfl⟩⟩, h3⟩
  · simp only [hw] at h
    exact ⟨undef, E, .inr ⟨by simpa using hw, rfl, rfl⟩, h⟩
theorem quietAt_same {o : Oper} {a a' : Act} {C : World → Prop} {w : World} {v : Value} (he : execOp a'.eval o = execOp a.eval o) (h : o.quietAt P a C w v) : o.quietAt P a' C w v := by
  unfold Oper.quietAt at *; rwa [he]
theorem YieldsPh.of_same {i : Nat} {o : Oper} {v : Value} {E E' : World → Prop} {a a' : Act} (hy : YieldsPh P ops D effs i o v E E' a) (he : execOp a'.eval o = execOp a.eval o)
    (hw : Region.wanted o (yielded ops a'.tmps) = Region.wanted o (yielded ops a.tmps)) : YieldsPh P ops D effs i o v E E' a' := by
  unfold YieldsPh at *
  rw [hw]
  rcases hy with ⟨h0, ⟨h1, h2, h3⟩ | ⟨h1, h2, h3⟩⟩ | h
  · exact .inl ⟨h0, .inl ⟨h1, fun w hE => effAt_same he (h2 w hE), h3⟩⟩
  · exact .inl ⟨h0, .inr ⟨h1, fun w hD => quietAt_same he (h2 w hD), h3⟩⟩
  · exact .inr h

/-- One that comes up earlier than the one that the walk takes first: it is carried out all the same. -/
theorem phOp_put {i j : Nat} {oi oj : Oper} {v : Value} {E E' : World → Prop} (hj : ops[j]? = some oj) (hap : oi.apart ops oj = true) (hne : (effs.contains i && effs.contains j) = false)
    (hsi : ∀ cs b, oi.op ≠ .select cs b) (hsj : ∀ cs b, oj.op ≠ .select cs b) {K : (World → Prop) → Act → Prop} {a : Act}
    (hy : YieldsPh P ops D effs i oi v E E' a) (h : phOp P ops D effs j K E' (a.put oi.dst v)) :
    phOp P ops D effs j (fun F a' => ∃ F', YieldsPh P ops D effs i oi v F F' a' ∧ K F' (a'.put oi.dst v)) E a := by
  obtain ⟨h1, h2, h3⟩ := Oper.apart_spec hap
  have keep : ∀ (a : Act) (F F' : World → Prop), YieldsPh P ops D effs i oi v F F' a → ∀ u, YieldsPh P ops D effs i oi v F F' (a.put oj.dst u) := fun a F F' hy u =>
    hy.of_same (execOp_put oi hsi a oj.dst u h3) (wanted_put oi a oj.dst u h3)
  have hex : execOp (a.put oi.dst v).eval oj = execOp a.eval oj := execOp_put oj hsj a oi.dst v h1
  unfold phOp at *
  simp only [hj] at *
  rw [wanted_put oj a oi.dst v h1] at h
  split
  · rename_i hw
    simp only [hw, if_true] at h
    rcases h with ⟨g1, u, F, g2, g3, g4⟩ | ⟨g1, u, g2, g3⟩
    · -- the other one turns the class: then this one doesn't
      have hi0 : effs.contains i = false := by
        cases hc : effs.contains i
        · rfl
        · rw [hc, g1] at hne; cases hne
      have hEE : E' = E := by
        rcases hy with ⟨_, ⟨q1, _⟩ | ⟨_, _, q3⟩⟩ | ⟨_, _, q3⟩
        · rw [q1] at hi0; cases hi0
        · exact q3
        · exact q3
      subst hEE
      have hyF : YieldsPh P ops D effs i oi v F F a := by
        rcases hy with ⟨q0, ⟨q1, _⟩ | ⟨q1, q2, _⟩⟩ | ⟨q0, q1, _⟩
        · rw [q1] at hi0; cases hi0
        · exact .inl ⟨q0, .inr ⟨q1, q2, rfl⟩⟩
        · exact .inr ⟨q0, q1, rfl⟩
      exact .inl ⟨g1, u, F, fun w hw' => effAt_same hex.symm (g2 w hw'), g3, F, keep a F F hyF u, by rw [← Act.put_comm a v u h2]; exact g4⟩
    · exact .inr ⟨g1, u, fun w hD => quietAt_same hex.symm (g2 w hD), E', keep a E E' hy u, by rw [← Act.put_comm a v u h2]; exact g3⟩
  · rename_i hw
    simp only [hw] at h
    exact ⟨E', keep a E E' hy _, by rw [← Act.put_comm a v undef h2]; exact h⟩

/-- No other one of effs may come up while this one has not. -/
def clashB (md : Region.Mode) (ops : Array Oper) (effs : List Nat) (listed : Array Bool) (i : Nat) : Bool :=
  (List.range ops.size).all fun j => j == i || listed.getD j true || Region.waitsFor md ops j i || !(effs.contains i && effs.contains j)
theorem clashB_spec {i j : Nat} {oj : Oper} {listed : Array Bool} (h : clashB md ops effs listed i = true) (hj : ops[j]? = some oj) (hne : j ≠ i) (hun : listed.getD j true = false)
    (hno : ∀ e ∈ oj.after, Region.binds md e = true → e.on ≠ i) : (effs.contains i && effs.contains j) = false := by
  have h1 := List.all_eq_true.1 h j (List.mem_range.2 (Array.getElem?_eq_some_iff.1 hj).1)
  simp only [Bool.or_eq_true, beq_iff_eq, hne, false_or, hun, Bool.false_eq_true] at h1
  rcases h1 with h1 | h1
  · obtain ⟨o, ho, e, he, hb, hon⟩ := Region.waitsFor_spec h1
    have : o = oj := Option.some.inj (ho.symm.trans hj)
    subst this
    exact absurd hon (hno e he hb)
  · cases h2 : (effs.contains i && effs.contains j)
    · rfl
    · rw [h2] at h1; cases h1

theorem wpPh_first {n i : Nat} {oi : Oper} {v : Value} {L : Array Bool → (World → Prop) → Act → Prop} (hi : ops[i]? = some oi) (hsel : ∀ (j : Nat) (o : Oper) cs b, ops[j]? = some o → o.op ≠ .select cs b) (hin : i < n)
    (hlt : ∀ listed, HeadInv md ops n listed → listed.getD i true = false → ∀ j ∈ Region.ready md ops listed, j < n)
    (hdone : ∀ listed E a, L listed E a → ∀ j ∈ Region.ready md ops listed, n ≤ j) :
    ∀ (f : Nat) (listed : Array Bool) (E E' : World → Prop) (a : Act), HeadInv md ops n listed →
      (∀ j oj, ops[j]? = some oj → j ≠ i → listed.getD j true = false → (∀ e ∈ oj.after, Region.binds md e = true → e.on ≠ i) → oi.apart ops oj = true ∧ (effs.contains i && effs.contains j) = false) →
      i ∈ Region.ready md ops listed → YieldsPh P ops D effs i oi v E E' a →
      wpPh P md ops D effs n L f (listed.setIfInBounds i true) E' (a.put oi.dst v) → wpPh P md ops D effs n L (f + 1) listed E a := by
  intro f
  induction f with
  | zero =>
    intro listed E E' a inv _ hr hy H
    have hun := (mem_ready.1 hr).1
    refine ⟨fun h => (by rw [h] at hr; cases hr), fun j hj => ⟨hlt listed inv hun j hj, ?_⟩⟩
    by_cases hji : j = i
    · subst hji; exact hy.op hi H
    · have := hdone _ _ _ H j (ready_mono hj hji)
      have := hlt listed inv hun j hj
      omega
  | succ f ih =>
    intro listed E E' a inv hfree hr hy H
    have hun := (mem_ready.1 hr).1
    refine ⟨fun h => (by rw [h] at hr; cases hr), fun j hj => ⟨hlt listed inv hun j hj, ?_⟩⟩
    have hjn := hlt listed inv hun j hj
    by_cases hji : j = i
    · subst hji; exact hy.op hi H
    · have h1 := (H.2 j (ready_mono hj hji)).2
      obtain ⟨hjun, oj, hoj, hall⟩ := mem_ready.1 hj
      have hnot : ∀ e ∈ oj.after, Region.binds md e = true → e.on ≠ i := fun e he hb heq => by
        have h1 := hall e he hb
        rw [heq, getD_both hun] at h1
        cases h1
      obtain ⟨hap, hcl⟩ := hfree j oj hoj hji hjun hnot
      have h2 := phOp_put hoj hap hcl (fun cs b => hsel i oi cs b hi) (fun cs b => hsel j oj cs b hoj) hy h1
      have hfree' : ∀ k ok, ops[k]? = some ok → k ≠ i → (listed.setIfInBounds j true).getD k true = false →
          (∀ e ∈ ok.after, Region.binds md e = true → e.on ≠ i) → oi.apart ops ok = true ∧ (effs.contains i && effs.contains k) = false := fun k ok hk hki hu hno => by
        refine hfree k ok hk hki ?_ hno
        by_cases hjk : j = k
        · subst hjk; exact hjun
        · rw [getD_set_ne true hjk] at hu; exact hu
      refine phOp_mono (fun F a' ⟨F', h3, h4⟩ => ih (listed.setIfInBounds j true) F F' a' (inv.set hj hjn) hfree' (ready_mono hr (Ne.symm hji)) h3 ?_) h2
      rw [Array.setIfInBounds_comm _ _ hji]
      exact h4

/-- The walk of the text's order. -/
def wpHead (P : Program) (ops : Array Oper) (D : World → Prop) (effs : List Nat) (Q : (World → Prop) → Act → Prop) : Nat → List Oper → (World → Prop) → Act → Prop
  | _, [], E, a => Q E a
  | k, o :: rest, E, a => if Region.wanted o (yielded ops a.tmps) then
      (effs.contains k = true ∧ ∃ v E', (∀ w, E w → effAt P o a E' w v) ∧ (∀ w, E' w → D w) ∧ wpHead P ops D effs Q (k + 1) rest E' (a.put o.dst v)) ∨
      (effs.contains k = false ∧ ∃ v, (∀ w, D w → o.quietAt P a (fun w' => w' = w) w v) ∧ wpHead P ops D effs Q (k + 1) rest E (a.put o.dst v))
    else wpHead P ops D effs Q (k + 1) rest E (a.put o.dst undef)

def headB (md : Region.Mode) (ops : Array Oper) (effs : List Nat) (g : Nat) : Nat → Nat → Array Bool → Bool
  | 0, k, listed => Region.seqB md ops g k listed
  | f + 1, k, listed => (Region.ready md ops listed).contains k && Region.free md ops listed k && clashB md ops effs listed k && headB md ops effs g f (k + 1) (listed.setIfInBounds k true)

theorem wpPh_lex {n g : Nat} {Lq : (World → Prop) → Act → Prop} (hsel : Region.noSelect ops = true)
    (hlt : ∀ i, i < n → ∀ listed, HeadInv md ops n listed → listed.getD i true = false → ∀ j ∈ Region.ready md ops listed, j < n) :
    ∀ (l : List Oper) (k : Nat) (listed : Array Bool) (E : World → Prop) (a : Act), (∀ j, j < l.length → l[j]? = ops[k + j]?) → k + l.length = n → HeadInv md ops n listed →
    headB md ops effs g l.length k listed = true → wpHead P ops D effs Lq k l E a →
    wpPh P md ops D effs n (fun listed' E' a' => Region.seqB md ops g n listed' = true ∧ Lq E' a') l.length listed E a
  | [], k, listed, E, a, _, hk, _, hB, h => by
    have : k = n := by simpa using hk
    subst this
    exact ⟨by simpa [headB] using hB, h⟩
  | o :: l, k, listed, E, a, hl, hk, inv, hB, h => by
    have h0 : ops[k]? = some o := by simpa using (hl 0 (by simp)).symm
    simp only [List.length_cons, headB, Bool.and_eq_true] at hB
    obtain ⟨⟨⟨hr, hf⟩, hc⟩, hB'⟩ := hB
    have hkn : k < n := by simp only [List.length_cons] at hk; omega
    have hr' : k ∈ Region.ready md ops listed := by simpa using hr
    have hst : phOp P ops D effs k (wpHead P ops D effs Lq (k + 1) l) E a := by unfold phOp; simp only [h0]; exact h
    obtain ⟨v, E', hy, hK⟩ := yieldsPh_of h0 hst
    exact wpPh_first h0 (Region.noSelect_spec hsel) hkn (hlt k hkn) (fun listed' E' a' hL => seqB_ready hL.1) l.length listed E E' a inv
      (fun j oj hj hne hun hno => ⟨Region.free_spec h0 hf j oj hj hne hun hno, clashB_spec hc hj hne hun hno⟩) hr' hy
      (wpPh_lex hsel hlt l (k + 1) _ _ _ (fun j hj => by have := hl (j + 1) (by simp; omega); simpa [Nat.add_assoc, Nat.add_comm 1 j] using this) (by simp only [List.length_cons] at hk; omega) (inv.set hr' hkn) hB' hK)

theorem wpOp_of_phOp {i : Nat} {a : Act} {E : World → Prop} {K : (World → Prop) → Act → Prop} {K' : Act → World → Prop} {Q' : Exit → Act → World → Prop} {w : World} (hE : E w) (hED : ∀ w, E w → D w)
    (h : ∀ F a w', F w' → (∀ w, F w → D w) → K F a → K' a w') (hh : phOp P ops D effs i K E a) : wpOp P ops Q' i K' a w := by
  unfold phOp at hh
  unfold wpOp
  split
  · rename_i ho; simp only [ho] at hh; exact h _ _ _ hE hED hh
  · rename_i o ho
    simp only [ho] at hh
    split
    · rename_i hw
      simp only [hw, if_true] at hh
      refine .inl ?_
      rcases hh with ⟨_, v, E', g1, g2, g3⟩ | ⟨_, v, g1, g2⟩
      · exact effAt_wp (g1 w hE) (fun w' hw' => h _ _ _ hw' g2 g3)
      · exact Oper.wp_of_quiet (C := fun w' => w' = w) (K := fun a' => K E a') rfl (fun a' w' hw' hk => h E a' w' (by rw [hw']; exact hE) hED hk) ⟨v, fun w' hw' => by subst hw'; exact g1 _ (hED _ hE), g2⟩
    · rename_i hw; simp only [hw] at hh; exact h _ _ _ hE hED hh

theorem wpAny_of_ph {n g : Nat} {L : Array Bool → (World → Prop) → Act → Prop} {Q' : Exit → Act → World → Prop} (hL : ∀ listed E a w, E w → L listed E a → wpAny P md ops Q' g listed a w) :
    ∀ (f : Nat) (listed : Array Bool) (E : World → Prop) (a : Act) (w : World), E w → (∀ w, E w → D w) → wpPh P md ops D effs n L f listed E a → wpAny P md ops Q' (f + g) listed a w
  | 0, listed, E, a, w, hE, _, h => by rw [Nat.zero_add]; exact hL _ _ _ _ hE h
  | f + 1, listed, E, a, w, hE, hED, h => by
    rw [show f + 1 + g = (f + g) + 1 by omega]
    exact ⟨fun h0 => absurd h0 h.1, fun i hi => wpOp_of_phOp hE hED (fun F a' w' hF hFD h' => wpAny_of_ph hL f _ F a' w' hF hFD h') (h.2 i hi).2⟩

/-- The tail waits for all ahead of it; or there is none. -/
def tailB (md : Region.Mode) (ops : Array Oper) (n : Nat) : Bool := decide (n = ops.size) || (decide (n < ops.size) && Region.sinkB md ops n && Region.chainB md ops n)
def phB (md : Region.Mode) (ops : Array Oper) (effs : List Nat) (n : Nat) : Bool :=
  Region.noSelect ops && tailB md ops n && headB md ops effs (ops.size - n) n 0 (Array.replicate ops.size false)

theorem wp_region_ph {id : Nat} {Q : Exit → Act → World → Prop} {a : Act} {w : World} {l : List Oper} (n : Nat) (effs : List Nat) (hm : P.follows .mixedOrders = true) (hB : phB .any l.toArray effs n = true)
    (hD : D w.drew)
    (h : wpHead P l.toArray D effs (fun E a' => ∀ w', E w' → wpList P l.toArray Q (l.drop n) a' w') 0 (l.take n) (fun w' => w' = w.drew) a) : (Code.region id l.toArray true).wp P Q a w := by
  simp only [phB, Bool.and_eq_true] at hB
  obtain ⟨⟨hsel, ht⟩, hlex⟩ := hB
  have hn' : n ≤ l.length := by
    simp only [tailB, Bool.or_eq_true, Bool.and_eq_true, decide_eq_true_eq, List.size_toArray] at ht
    rcases ht with ht | ⟨⟨ht, _⟩, _⟩ <;> omega
  have htl : (l.take n).length = n := by simp; omega
  have hdl : (l.drop n).length = l.toArray.size - n := by simp
  have inv0 : HeadInv .any l.toArray n (Array.replicate l.toArray.size false) :=
    ⟨by simp, fun j oj _ hl => (by rw [getD_replicate_false] at hl; cases hl), fun t _ ht => getD_in (by simpa using ht) (getD_replicate_false _ _)⟩
  have hlt : ∀ i, i < n → ∀ listed, HeadInv .any l.toArray n listed → listed.getD i true = false → ∀ j ∈ Region.ready .any l.toArray listed, j < n := by
    intro i hi listed inv hun j hj
    simp only [tailB, Bool.or_eq_true, Bool.and_eq_true, decide_eq_true_eq] at ht
    rcases ht with ht | ⟨⟨ht, hs⟩, hc⟩
    · obtain ⟨_, o, ho, _⟩ := mem_ready.1 hj
      have := (Array.getElem?_eq_some_iff.1 ho).1
      omega
    · rcases Nat.lt_or_ge j n with h | h
      · exact h
      · exact absurd hj (tail_waits hs hc ht inv _ i rfl hi hun j h)
  have H := wpPh_lex (md := .any) (g := l.toArray.size - n) hsel hlt (l.take n) 0 _ _ a (fun j hj => by
    have hj' : j < n := by rw [htl] at hj; exact hj
    simp [hj']) (by simpa using htl) inv0 (by rw [htl]; exact hlex) h
  refine wp_region_any hm ?_
  have := wpAny_of_ph (Q' := Q) (g := l.toArray.size - n) (L := fun listed' E' a' => Region.seqB .any l.toArray (l.toArray.size - n) n listed' = true ∧ ∀ w', E' w' → wpList P l.toArray Q (l.drop n) a' w') (fun listed E a' w' hE hL => by
    have := wpAny_of_seq (md := .any) (Q' := Q) (l.drop n) n listed a' w' (fun j => by simp [List.getElem?_drop]) (by rw [hdl]; exact hL.1) (hL.2 w' hE)
    rwa [hdl] at this) _ _ (fun w' => w' = w.drew) _ w.drew rfl (fun w' hw' => by rw [hw']; exact hD) H
  rw [htl, show n + (l.toArray.size - n) = l.toArray.size by rw [List.size_toArray]; omega] at this
  exact this

/-! ### The steps of the walk -/
variable {Q : (World → Prop) → Act → Prop} {E : World → Prop} {a : Act} {o : Oper} {rest : List Oper} {k : Nat}
theorem head_nil (h : Q E a) : wpHead P ops D effs Q k [] E a := h
theorem eq_intro {p : World → Prop} {w1 : World} (h : p w1) : ∀ w', w' = w1 → p w' := fun _ e => e ▸ h
theorem head_quiet (hk : effs.contains k = false)
    (h : ∀ K : Act → Prop, (∀ a, wpHead P ops D effs Q (k + 1) rest E a → K a) → if Region.wanted o (yielded ops a.tmps) then ∃ v, (∀ w, D w → o.quietAt P a (fun w' => w' = w) w v) ∧ K (a.put o.dst v) else K (a.put o.dst undef)) :
    wpHead P ops D effs Q k (o :: rest) E a := by
  have := h _ (fun _ h => h)
  unfold wpHead
  split
  · rename_i hw; rw [if_pos hw] at this; exact .inr ⟨hk, this⟩
  · rename_i hw; rw [if_neg hw] at this; exact this
theorem head_alloc {w1 : World} (hk : effs.contains k = true) (T : TypeId) {dst : Option Nat} {type : TypeId} {pos : String} {after : Array Edge} {i : TypeInfo} {z : Value} (hi : P.info? T = some i) (hz : i.zero = some z) (hD : D (w1.alloc (.cells z.cells T)))
    (h : wpHead P ops D effs Q (k + 1) rest (fun w' => w' = w1.alloc (.cells z.cells T)) (a.put dst (.pointer (some ⟨w1.heap.size, 0, none⟩)))) :
    wpHead P ops D effs Q k (⟨dst, .alloc T, type, pos, after, none⟩ :: rest) (fun w' => w' = w1) a := by
  unfold wpHead
  rw [if_pos (by rfl)]
  refine .inl ⟨hk, .pointer (some ⟨w1.heap.size, 0, none⟩), (fun w' => w' = w1.alloc (.cells z.cells T)), fun w hw => ?_, fun w hw => by subst hw; exact hD, h⟩
  subst hw
  simp [effAt, effUpon, execOp, Instr.alloc, zeroValue, typeInfo, hi, hz, newVar, newRow]
end

/-! ### Effects among the reads -/
section
variable {P : Program} {ops : Array Oper} {D : World → Prop} {effs : List Nat} {Q : (World → Prop) → Act → Prop} {a : Act} {o : Oper} {rest : List Oper} {k : Nat}
theorem head_run {w1 : World} (hk : effs.contains k = true) (hg : o.guard = none) (v : Value) (w2 : World) (hrun : (execOp a.eval o).run P w1 = .ok (.value v) w2) (hD : D w2)
    (h : wpHead P ops D effs Q (k + 1) rest (fun w' => w' = w2) (a.put o.dst v)) : wpHead P ops D effs Q k (o :: rest) (fun w' => w' = w1) a := by
  unfold wpHead
  rw [if_pos (by unfold Region.wanted; rw [hg])]
  exact .inl ⟨hk, v, (fun w' => w' = w2), fun w hw => (by unfold effAt; rw [hw, hrun]; exact ⟨rfl, rfl⟩), fun w hw => by rw [hw]; exact hD, h⟩
/-- A store among them. -/
theorem head_store {w1 : World} (hk : effs.contains k = true) (hg : o.guard = none) (w2 : World) (hrun : (execOp a.eval o).run P w1 = .ok .skip w2) (hD : D w2)
    (h : wpHead P ops D effs Q (k + 1) rest (fun w' => w' = w2) (a.put o.dst undef)) : wpHead P ops D effs Q k (o :: rest) (fun w' => w' = w1) a := by
  unfold wpHead
  rw [if_pos (by unfold Region.wanted; rw [hg])]
  exact .inl ⟨hk, undef, (fun w' => w' = w2), fun w hw => (by unfold effAt; rw [hw, hrun]; exact ⟨rfl, rfl⟩), fun w hw => by rw [hw]; exact hD, h⟩
/-- A call among them: it comes back with v in the world w2. -/
theorem head_call {w1 : World} (hk : effs.contains k = true) (hg : o.guard = none) (v : Value) (w2 : World) (hc : effAt P o a (fun w' => w' = w2) w1 v) (hD : D w2)
    (h : wpHead P ops D effs Q (k + 1) rest (fun w' => w' = w2) (a.put o.dst v)) : wpHead P ops D effs Q k (o :: rest) (fun w' => w' = w1) a := by
  unfold wpHead
  rw [if_pos (by unfold Region.wanted; rw [hg])]
  exact .inl ⟨hk, v, (fun w' => w' = w2), fun w hw => (by rw [hw]; exact hc), fun w hw => by rw [hw]; exact hD, h⟩
/-- An append onto a row of the call's own. -/
theorem head_append {w1 : World} (hk : effs.contains k = true) (hg : o.guard = none) (s x : Operand) (t : TypeId) (ho : o.op = .call { callee := .builtin .append, args := #[s, x], argTypes := #[t, t] })
    (base : Nat) (e : TypeId) (i : TypeInfo) (z : Value) (size bytes : Nat) (ht : P.underlying t = some (.slice e)) (hi : P.info? e = some i) (hz : i.zero = some z) (hsize : i.size = size) (hby : i.bytes = bytes) (hzs : z.cells.size = size) (hsz : 0 < size)
    (v : Value) (n : Nat) (xs : List Value) (hs : a.eval s = v) (hown : w1.ownsRow base e size v n xs)
    (ad : Addr) (m c : Nat) (news : List Value) (hx : a.eval x = .slice (some ad) m c) (hl : news.length = m * size) (hnews : ∀ j u, news[j]? = some u → w1.cell? (ad.add j) = some u) (h1 : ∀ u ∈ news, u.oneCell' = true)
    (hm : 0 < m) (h63 : n + m ≤ maxLen) (hbytes : (n + m) * bytes ≤ 140737488355328) (hbase : base ≤ w1.heap.size) (hD : ∀ w2, w1.grownBy w2 v.ownBlock → D w2)
    (h : ∀ g cap w2, w2.ownsRow base e size (.slice (some ⟨g, 0, none⟩) (n + m) cap) (n + m) (xs ++ news) → w1.grownBy w2 v.ownBlock → (v.ownBlock = some g ∨ g = w1.heap.size) → g < w2.heap.size →
      wpHead P ops D effs Q (k + 1) rest (fun w' => w' = w2) (a.put o.dst (.slice (some ⟨g, 0, none⟩) (n + m) cap))) : wpHead P ops D effs Q k (o :: rest) (fun w' => w' = w1) a := by
  obtain ⟨g, cap, w2, hr, q1, q2, q3, q4⟩ := run_append_lies (P := P) w1 t o.type base e i z size bytes ht hi hz hsize hby hzs hsz v n xs hown ad m c news hl hnews h1 hm h63 hbytes hbase _ rfl
  refine head_run hk hg _ w2 ?_ (hD w2 q2) (h g cap w2 q1 q2 q3 q4)
  unfold execOp
  simp only [ho, resolve, invoke, builtin, Sem.run_bind, Sem.run_pure, Result.andThen_ok, List.map_toArray, List.map_cons, List.map_nil, hs, hx, hr]
end

/-- A world in which nothing of w's has changed but one block. -/
structure GrOf (w : World) (row : Option Nat) where
  v : World
  h : w.grownBy v row
theorem grown_same (w : World) (row : Option Nat) : w.grownBy w row := ⟨rfl, rfl, rfl, Nat.le_refl _, fun _ _ _ => rfl⟩
instance (w : World) (row : Option Nat) : Nonempty (GrOf w row) := ⟨⟨w, grown_same w row⟩⟩
instance (w : World) (row : Option Nat) : Inhabited (GrOf w row) := ⟨⟨w, grown_same w row⟩⟩
theorem grown_trans {w v u : World} {row : Option Nat} (h : w.grownBy v row) (g : v.grownBy u row) : w.grownBy u row :=
  ⟨g.os.trans h.os, g.tape.trans h.tape, g.output.trans h.output, Nat.le_trans h.size g.size, fun k hk hr => (g.block k (Nat.lt_of_lt_of_le hk h.size) hr).trans (h.block k hk hr)⟩
theorem grown_al {w v : World} {row : Option Nat} (h : w.grownBy v row) (o : Obj) : w.grownBy (v.alloc o) row := grown_below h (Base.al (Below.refl _ _) o)
theorem grown_dr {w v : World} {row : Option Nat} (h : w.grownBy v row) : w.grownBy v.drew row := grown_below h (Base.dr (Below.refl _ _))
theorem grown_cell {w v : World} {row : Option Nat} (h : w.grownBy v row) {b o : Nat} (hb : b < w.heap.size) (hne : some b ≠ row) : v.cell? ⟨b, o, none⟩ = w.cell? ⟨b, o, none⟩ := by
  unfold World.cell?
  rw [h.block b hb hne]
theorem gr_rd0 {w : World} {row : Option Nat} (p : GrOf w row) {b o : Nat} (hb : b < w.heap.size) (hne : some b ≠ row) : p.v.cell? ⟨b, o, none⟩ = w.cell? ⟨b, o, none⟩ := grown_cell p.h hb hne

/-! ### Reading in the worlds of the class: what was there -/
theorem on_rd0 {w : World} (p : OnOf w) {b o : Nat} (h : b < w.heap.size) : p.v.cell? ⟨b, o, none⟩ = w.cell? ⟨b, o, none⟩ := p.h.cell (p := ⟨b, o, none⟩) h
theorem on_rd1 {w : World} {x : Obj} (p : OnOf (w.alloc x)) {b o : Nat} (h : b < w.heap.size) : p.v.cell? ⟨b, o, none⟩ = w.cell? ⟨b, o, none⟩ := by
  rw [on_rd0 p (by simp; omega)]
  exact World.cell?_alloc_lt w x ⟨b, o, none⟩ h
theorem on_rd2 {w : World} {x y : Obj} (p : OnOf ((w.alloc x).alloc y)) {b o : Nat} (h : b < w.heap.size) : p.v.cell? ⟨b, o, none⟩ = w.cell? ⟨b, o, none⟩ := by
  rw [on_rd0 p (by simp; omega), World.cell?_alloc_lt _ y ⟨b, o, none⟩ (by simp; omega)]
  exact World.cell?_alloc_lt w x ⟨b, o, none⟩ h
theorem on_new1 {w : World} {cs : Array Value} {t : TypeId} (p : OnOf (w.alloc (.cells cs t))) {j : Nat} : p.v.cell? ⟨w.heap.size, j, none⟩ = cs[j]? := by
  rw [on_rd0 p (by simp)]
  exact cell_of_row _ w.heap.size j cs t (0, 0) (heap_alloc_new w _)
theorem on_new2 {w : World} {cs : Array Value} {t : TypeId} {y : Obj} (p : OnOf ((w.alloc (.cells cs t)).alloc y)) {j : Nat} : p.v.cell? ⟨w.heap.size, j, none⟩ = cs[j]? := by
  rw [on_rd0 p (by simp; omega), World.cell?_alloc_lt _ y ⟨w.heap.size, j, none⟩ (by simp)]
  exact cell_of_row _ w.heap.size j cs t (0, 0) (heap_alloc_new w _)

theorem rd {W w1 : World} (hb : Below W.heap.size W w1) : (∀ b o, b < W.heap.size → w1.cell? ⟨b, o, none⟩ = W.cell? ⟨b, o, none⟩) ∧ (∀ b o, b < W.heap.size → w1.frozen? ⟨b, o, none⟩ = W.frozen? ⟨b, o, none⟩) :=
  ⟨fun b o h => hb.cell (p := ⟨b, o, none⟩) h, fun b o h => hb.frozen (p := ⟨b, o, none⟩) h⟩
/-! ### Blocks known whole -/
theorem blk_old {w : World} {x o : Obj} {g : Nat} (h : w.heap[g]? = some o) : (w.alloc x).heap[g]? = some o := by
  have hlt := (Array.getElem?_eq_some_iff.1 h).1
  rw [← h]
  show (w.heap.push x)[g]? = w.heap[g]?
  rw [Array.getElem?_push, if_neg (Nat.ne_of_lt hlt)]
theorem blk_new (w : World) (x : Obj) : (w.alloc x).heap[w.heap.size]? = some x := heap_alloc_new w x
theorem blk_new1 (w : World) (x y : Obj) : ((w.alloc x).alloc y).heap[w.heap.size + 1]? = some y := by
  have h := blk_new (w.alloc x) y
  rwa [show (w.alloc x).heap.size = w.heap.size + 1 from by simp] at h
theorem blk_new2 (w : World) (x y z : Obj) : (((w.alloc x).alloc y).alloc z).heap[w.heap.size + 1 + 1]? = some z := by
  have h := blk_new1 (w.alloc x) y z
  rwa [show (w.alloc x).heap.size = w.heap.size + 1 from by simp] at h
theorem blk_below {w w1 : World} {o : Obj} {g : Nat} (h : w.heap[g]? = some o) (hb : Below w.heap.size w w1) : w1.heap[g]? = some o := by
  rw [hb.block g (Array.getElem?_eq_some_iff.1 h).1]; exact h
theorem flatten_get {rows : List (List Value)} {k : Nat} (hk : ∀ x ∈ rows, x.length = k) : ∀ (i : Nat) (x : List Value), rows[i]? = some x → ∀ (j : Nat) (u : Value), x[j]? = some u → rows.flatten[i * k + j]? = some u := by
  induction rows with
  | nil => intro i x h; simp at h
  | cons r rows ih =>
    intro i x h j u hj
    have hr : r.length = k := hk r (by simp)
    cases i with
    | zero =>
      simp at h
      subst h
      rw [List.flatten_cons, Nat.zero_mul, Nat.zero_add, List.getElem?_append_left (List.getElem?_eq_some_iff.1 hj).1]
      exact hj
    | succ i =>
      rw [List.flatten_cons, List.getElem?_append_right (by rw [hr, Nat.add_mul]; omega), hr, show (i + 1) * k + j - k = i * k + j from by rw [Nat.add_mul]; omega]
      exact ih (fun x hx => hk x (by simp [hx])) i x (by simpa using h) j u hj
/-- A slice literal: the block just made. -/
theorem Sl.lit {w : World} {g k n : Nat} {t : TypeId} {cs : Array Value} (rows : List (List Value)) (h : w.heap[g]? = some (.cells cs t (0, 0))) (hcs : cs = rows.flatten.toArray) (hn : n = rows.length) (hk : ∀ x ∈ rows, x.length = k) (hm : rows.length ≤ 4294967296) :
    Sl w k (.slice (some ⟨g, 0, none⟩) n n) rows := by
  subst hn; subst hcs
  refine ⟨some ⟨g, 0, none⟩, rows.length, rfl, Nat.le_refl _, by unfold maxLen; omega, (fun h => by cases h), fun _ => ⟨g, 0, rfl, (Array.getElem?_eq_some_iff.1 h).1, fun i x hi => ⟨hk x (List.mem_of_getElem? hi), fun j u hj => ?_⟩⟩⟩
  rw [Nat.zero_add, cell_blk h]
  simpa using flatten_get hk i x hi j u hj
/-- A row of the call's own that isn't empty. -/
theorem own_pos {w : World} {base : Nat} {e : TypeId} {size : Nat} {v : Value} {n : Nat} {xs : List Value} (h : w.ownsRow base e size v n xs) (hn : 0 < n) (_hs : 0 < size) :
    ∃ g cap, v = .slice (some ⟨g, 0, none⟩) n cap ∧ base ≤ g ∧ g < w.heap.size ∧ n ≤ cap ∧ ∀ j u, xs[j]? = some u → w.cell? ⟨g, j, none⟩ = some u := by
  rcases h.2 with ⟨_, h0⟩ | ⟨g, cap, cur, rfl, hbg, hgg, hnc, _⟩
  · omega
  · refine ⟨g, cap, rfl, hbg, (Array.getElem?_eq_some_iff.1 hgg).1, hnc, fun j u hj => ?_⟩
    have := h.cells (g := g) rfl j u hj
    simpa [Addr.add_lit] using this
theorem retB {a b : Bool} (h : a = b) : Ending.returned (.bool a) = Ending.returned (.bool b) := by rw [h]
theorem retI {k : IntKind} {a b : Int} (h : a = b) : Ending.returned (.int k a) = Ending.returned (.int k b) := by rw [h]
theorem news_at {w : World} {H : Nat} (h : w.heap.size = H) (cs : List Value) (t : TypeId) : ∀ j u, cs[j]? = some u → (w.alloc (.cells cs.toArray t)).cell? ((⟨H, 0, none⟩ : Addr).add j) = some u := by
  subst h
  exact news_of w cs t
theorem run_store_complex {P : Program} {w : World} (a : Addr) (m : Mode) (k : FloatKind) (x y : Nat) : (store a (.complex k x y) m).run P w = stored P w a (.complex k x y) m := run_store P w a _ m rfl
end Go.Proofs.YthiimpleljaimaaGreatDoor
