/- ring.Count: which items count. -/
import Derived.Test.YteieaelinkdahaaDoorRingW
import Derived.Deep.DeepMust
namespace Go.Proofs.YteieaelinkdahaaDoor
open Go.RowKit Flo
attribute [local go_sem] run_store_complex

/-- The ring of a number. -/
def ringOf (l : List Found) (s : Int) : List Found := l.filter fun g => decide (g.item.seq = s)
noncomputable def countB (l : List Found) : List Bool := l.map fun f => f.settled || wholeB (ringOf l f.item.seq)

theorem zero_int (w : World) : (zeroValue 3).run Tryd.prog w = .ok (i64 0) w := by kernel_rfl
theorem info_boolE : (Tryd.prog.info? 4).map (fun i => (i.zero, i.size, i.bytes)) = some (some (.bool false), 1, 1) := by kernel_rfl
theorem zero_slice (w : World) : (zeroValue 27).run Tryd.prog w = .ok (.slice none 0 0) w := by kernel_rfl
theorem info_Found : (Tryd.prog.info? 50).map (fun i => (i.zero, i.size, i.bytes)) = some (some (.agg (Found.row default).toArray), 11, 120) := by kernel_rfl

theorem Sl.own {w : World} {base : Nat} {e : TypeId} {k : Nat} {v : Value} (rows : List (List Value)) (hk : ∀ x ∈ rows, x.length = k) (h : w.ownsRow base e k v rows.length rows.flatten) : Sl w k v rows := by
  rcases h.2 with ⟨rfl, hn⟩ | ⟨g, cap, cur, rfl, hbg, hgg, hnc, hcm, hcs, htake⟩
  · have : rows = [] := List.eq_nil_of_length_eq_zero hn
    subst this
    exact Sl.nil w k
  · refine ⟨some ⟨g, 0, none⟩, cap, rfl, hnc, hcm, (fun h => by cases h), fun _ => ⟨g, 0, rfl, (Array.getElem?_eq_some_iff.1 hgg).1, fun i x hi => ⟨hk x (List.mem_of_getElem? hi), fun j u hj => ?_⟩⟩⟩
    have := h.cells (g := g) rfl _ u (flatten_get hk i x hi j u hj)
    simpa [Addr.add_lit] using this

/-- The groups of the first items. -/
def Grp (wr : World) (mb base : Nat) (l : List Found) : Prop :=
  ∃ gl : List (Int × Value), MapR (Value.int .u64) wr mb gl ∧ mb < base ∧ (∀ s v, (s, v) ∈ gl → wr.ownsRow base 50 11 v (ringOf l s).length ((ringOf l s).flatMap Found.row) ∧ ringOf l s ≠ []) ∧
    (∀ f ∈ l, f.item.seq ∈ gl.map Prod.fst) ∧ (∀ s v s' v', (s, v) ∈ gl → (s', v') ∈ gl → s ≠ s' → v.ownBlock ≠ v'.ownBlock)

theorem ringOf_snoc (l : List Found) (f : Found) (s : Int) : ringOf (l ++ [f]) s = if f.item.seq = s then ringOf l s ++ [f] else ringOf l s := by
  unfold ringOf
  rw [List.filter_append]
  by_cases h : f.item.seq = s
  · simp [h]
  · simp [h]
theorem own_block_some {w : World} {base : Nat} {e : TypeId} {size : Nat} {v : Value} {n : Nat} {xs : List Value} (h : w.ownsRow base e size v n xs) (hn : 0 < n) : ∃ g, v.ownBlock = some g ∧ base ≤ g ∧ g < w.heap.size := by
  rcases h.2 with ⟨_, h0⟩ | ⟨g, cap, cur, rfl, hbg, hgg, _⟩
  · omega
  · exact ⟨g, rfl, hbg, (Array.getElem?_eq_some_iff.1 hgg).1⟩

/-- What is known of the group of one number ahead of an append, and the way back behind it. -/
theorem Grp.open {wr : World} {mb base : Nat} {l : List Found} (h : Grp wr mb base l) (f : Found) :
    ∃ (gl : List (Int × Value)) (v : Value), MapR (Value.int .u64) wr mb gl ∧ v = (mget gl f.item.seq).getD (.slice none 0 0) ∧ mb < base ∧
      wr.ownsRow base 50 11 v (ringOf l f.item.seq).length ((ringOf l f.item.seq).flatMap Found.row) ∧ v.ownBlock ≠ some mb ∧ (∀ g, v.ownBlock = some g → base ≤ g ∧ g < wr.heap.size) ∧
      ∀ (wq wz : World) (v' : Value), wr.grownBy wq v.ownBlock → wq.ownsRow base 50 11 v' ((ringOf l f.item.seq).length + 1) ((ringOf l f.item.seq).flatMap Found.row ++ f.row) →
        (v'.ownBlock = v.ownBlock ∨ ∃ g, v'.ownBlock = some g ∧ wr.heap.size ≤ g) → wq.grownBy wz (some mb) → MapR (Value.int .u64) wz mb (mput gl f.item.seq v') → Grp wz mb base (l ++ [f]) := by
  obtain ⟨gl, hm, hmb, hown, hkeys, hdis⟩ := h
  have hn := hm.nodup
  have hemp : mget gl f.item.seq = none → ringOf l f.item.seq = [] := fun h0 => by
    unfold ringOf
    rw [List.filter_eq_nil_iff]
    intro g hg
    have h1 := hkeys g hg
    simp only [decide_eq_true_eq]
    intro he
    rw [he, ← mget_isSome, h0] at h1
    cases h1
  obtain ⟨v, hv⟩ : ∃ v, v = (mget gl f.item.seq).getD (.slice none 0 0) := ⟨_, rfl⟩
  have hvown : wr.ownsRow base 50 11 v (ringOf l f.item.seq).length ((ringOf l f.item.seq).flatMap Found.row) := by
    cases hg : mget gl f.item.seq with
    | none =>
      rw [hg] at hv
      rw [hv, hemp hg]
      exact World.ownsRow_nil _ _ _ _
    | some u =>
      rw [hg] at hv
      rw [hv]
      exact (hown _ _ ((mget_some hn).1 hg)).1
  have hblk : ∀ g, v.ownBlock = some g → base ≤ g ∧ g < wr.heap.size := fun g hg => by
    rcases hvown.2 with ⟨he, _⟩ | ⟨g', cap, cur, he, hbg, hgg, _⟩
    · rw [he] at hg; cases hg
    · rw [he] at hg
      have : g' = g := by simpa [Value.ownBlock] using hg
      subst this
      exact ⟨hbg, (Array.getElem?_eq_some_iff.1 hgg).1⟩
  refine ⟨gl, v, hm, hv, hmb, hvown, fun he => by have := (hblk mb he).1; omega, hblk, fun wq wz v' hgrow hown' hloc hgz hmz => ?_⟩
  refine ⟨mput gl f.item.seq v', hmz, hmb, ?_, ?_, ?_⟩
  · intro s u hsu
    have hget := (mget_some (mput_nodup hn _ _)).2 hsu
    rw [mget_mput hn] at hget
    by_cases hs : s = f.item.seq
    · subst hs
      rw [if_pos rfl] at hget
      injection hget with hget
      subst hget
      rw [ringOf_snoc, if_pos rfl]
      refine ⟨?_, by simp⟩
      have hne : v'.ownBlock = none ∨ v'.ownBlock ≠ some mb := .inr fun he => by
        rcases hloc with h | ⟨g, h, hg⟩
        · have := (hblk mb (h ▸ he)).1; omega
        · rw [he] at h; injection h with h; have := hm.lt; omega
      have := hown'.kept hgz hne
      simpa [List.flatMap_append] using this
    · rw [if_neg hs] at hget
      have hmem := (mget_some hn).1 hget
      obtain ⟨h1, h2⟩ := hown s u hmem
      rw [ringOf_snoc, if_neg (fun e => hs e.symm)]
      obtain ⟨g, hg, hbg, hgl⟩ := own_block_some h1 (by cases hr : ringOf l s with | nil => exact absurd hr h2 | cons => simp)
      refine ⟨(h1.kept hgrow ?_).kept hgz ?_, h2⟩
      · right
        intro he
        cases hgv : mget gl f.item.seq with
        | none =>
          rw [hgv] at hv
          rw [hv] at he
          rw [hg] at he
          cases he
        | some u0 =>
          rw [hgv] at hv
          rw [hv] at he
          exact hdis s u _ _ hmem ((mget_some hn).1 hgv) hs he
      · right
        rw [hg]
        intro he
        injection he with he
        omega
  · intro g hg
    rw [mput_keys]
    rcases List.mem_append.1 hg with hg | hg
    · split
      · exact hkeys g hg
      · exact List.mem_append_left _ (hkeys g hg)
    · simp at hg
      subst hg
      split
      · rename_i h; exact mget_isSome.1 h
      · simp
  · intro s u s' u' h1 h2 hne
    have g1 := (mget_some (mput_nodup hn _ _)).2 h1
    have g2 := (mget_some (mput_nodup hn _ _)).2 h2
    rw [mget_mput hn] at g1 g2
    have key : ∀ t x, mget gl t = some x → t ≠ f.item.seq → x.ownBlock ≠ v'.ownBlock := fun t x hx ht he => by
      have hmem := (mget_some hn).1 hx
      obtain ⟨q1, q2⟩ := hown t x hmem
      obtain ⟨g, hg, hbg, hgl⟩ := own_block_some q1 (by cases hr : ringOf l t with | nil => exact absurd hr q2 | cons => simp)
      rcases hloc with h | ⟨g', h, hg'⟩
      · rw [h] at he
        cases hgv : mget gl f.item.seq with
        | none =>
          rw [hgv] at hv
          rw [hv, hg] at he
          cases he
        | some u0 =>
          rw [hgv] at hv
          rw [hv] at he
          exact hdis t x _ _ hmem ((mget_some hn).1 hgv) ht he
      · rw [hg, h] at he
        injection he with he
        omega
    by_cases e1 : s = f.item.seq
    · have e2 : s' ≠ f.item.seq := fun e => hne (e1.trans e.symm)
      rw [if_pos e1] at g1
      rw [if_neg e2] at g2
      injection g1 with g1
      subst g1
      exact fun e => key s' u' g2 e2 e.symm
    · rw [if_neg e1] at g1
      by_cases e2 : s' = f.item.seq
      · rw [if_pos e2] at g2
        injection g2 with g2
        subst g2
        exact key s u g1 e1
      · rw [if_neg e2] at g2
        exact hdis s u s' u' ((mget_some hn).1 g1) ((mget_some hn).1 g2) hne

end Go.Proofs.YteieaelinkdahaaDoor
