/- A sector's scan, as it stands in memory. -/
import Derived.Test.YteieaelinkdahaaDoorScanP
import Derived.Test.YteieaelinkdahaaDoorRingC
import Derived.Test.YteieaelinkdahaaDoorSets
import Derived.ScopeJumps
namespace Go.Proofs.YteieaelinkdahaaDoor
open Go Go.RowKit Flo

section
variable {P : Program} {a : Act} {w : World} {Q : Exit → Act → World → Prop}
/-- A scope that is gone through again and again, by a goto to its label: a round is told once. -/
theorem wp_scope_loop {c r : Code} (l : Nat) (J : Act → World → Prop) (μ : Act → World → Nat) (hf : findLabel c l = some (Code.skip.seq r))
    (pass : ∀ a w, J a w → r.wp P (Exit.jump l (fun a' w' => J a' w' ∧ μ a' w' < μ a w) Q) a w)
    (first : (∀ a w, J a w → r.wp P (Exit.jump l J Q) a w) → c.wp P (Exit.jump l J Q) a w) : (Code.scope c).wp P Q a w := by
  refine wp_scope_jumps l J μ hf (first fun a w h => wp_mono (pass a w h) ?_) (fun a w h => wp_seq (wp_skip (pass a w h)))
  intro e a' w' hq
  cases e with
  | goto l' => exact ⟨hq.1, hq.2.1⟩
  | _ => exact hq
end

/-- A scan's memory: the block of the result, that of what is found, what was found so far. -/
structure ScanSt (T : TypeId) (w : World) (pr po : Nat) (wr : World) (v : Value) (fs : List Found) : Prop where
  below : Below w.heap.size w wr
  res : wr.heap[pr]? = some (.cells #[i64 0, i64 0, .bool false, .slice none 0 0] T (0, 0))
  out : wr.heap[po]? = some (.cells #[i64 1, i64 0, .bool false, v] T (0, 0))
  own : wr.ownsRow (po + 1) 50 11 v fs.length (fs.flatMap Found.row)
  l1 : w.heap.size ≤ pr
  l2 : pr < po
theorem ScanSt.below' {T : TypeId} {w : World} {pr po : Nat} {wr W : World} {v : Value} {fs : List Found} (h : ScanSt T w pr po wr v fs) (hb : Below wr.heap.size wr W) : ScanSt T w pr po W v fs :=
  ⟨Base.tr h.below hb, blk_below h.res hb, blk_below h.out hb, own_below h.own hb, h.l1, h.l2⟩
theorem ScanSt.slice {T : TypeId} {w : World} {pr po : Nat} {wr : World} {v : Value} {fs : List Found} (h : ScanSt T w pr po wr v fs) : ∃ A n c, v = .slice A n c := by
  rcases h.own.2 with ⟨h1, _⟩ | ⟨g', c', _, h1, _⟩
  · exact ⟨_, _, _, h1⟩
  · exact ⟨_, _, _, h1⟩
/-- .. behind an append whose row is stored. -/
theorem ScanSt.step {T : TypeId} {w : World} {pr po : Nat} {wr W : World} {v v' : Value} {fs : List Found} {f : Found} (h : ScanSt T w pr po wr v fs) (hg : wr.grownBy W v.ownBlock)
    (ho : W.ownsRow (po + 1) 50 11 v' (fs.length + 1) (fs.flatMap Found.row ++ f.row)) : ScanSt T w pr po (W.setCell ⟨po, 3, none⟩ v') v' (fs ++ [f]) := by
  have hpo := (Array.getElem?_eq_some_iff.1 h.out).1
  have hpr := (Array.getElem?_eq_some_iff.1 h.res).1
  have n1 : some po ≠ v.ownBlock := fun e => by have := (h.own.lt po e.symm).1; omega
  have n2 : some pr ≠ v.ownBlock := fun e => by have := (h.own.lt pr e.symm).1; have := h.l2; omega
  have l2 := h.l2
  have hb : Below w.heap.size w W := Base.gr h.below hg (fun g hg => by have := (h.own.lt g hg).1; have := h.l1; omega)
  refine ⟨Base.st hb (by have := h.l1; omega) _ _, blk_set ((hg.block pr hpr n2).trans h.res) _ _ (by omega), heap_setCell ((hg.block po hpo n1).trans h.out) 3 v', ?_, h.l1, l2⟩
  have hl : (fs ++ [f]).length = fs.length + 1 := by simp
  have hm : (fs ++ [f]).flatMap Found.row = fs.flatMap Found.row ++ f.row := by simp
  rw [hl, hm]
  refine ⟨ho.1, ?_⟩
  rcases ho.2 with hn | ⟨g, cap, cur, rfl, hbg, hgg, rest⟩
  · exact .inl hn
  · exact .inr ⟨g, cap, cur, rfl, hbg, blk_set hgg _ _ (by omega), rest⟩
theorem own_keepAll {W W' : World} {base : Nat} {e : TypeId} {size : Nat} {v : Value} {n : Nat} {xs : List Value} (h : W.ownsRow base e size v n xs) (hk : ∀ (g : Nat) (x : Obj), base ≤ g → W.heap[g]? = some x → W'.heap[g]? = some x) : W'.ownsRow base e size v n xs := by
  refine ⟨h.1, ?_⟩
  rcases h.2 with hn | ⟨g, cap, cur, rfl, hbg, hgg, rest⟩
  · exact .inl hn
  · exact .inr ⟨g, cap, cur, rfl, hbg, hk _ _ hbg hgg, rest⟩
/-- .. where the scan ends: the end and whether it is full are stored, the result too. -/
theorem ScanSt.fin {T : TypeId} {w : World} {pr po : Nat} {W : World} {v : Value} {fs : List Found} (h : ScanSt T w pr po W v fs) (x y : Value) (vs : List Value) (hl : vs.length = 4) :
    (sets ((W.setCell ⟨po, 1, none⟩ x).setCell ⟨po, 2, none⟩ y) pr 0 vs).heap[pr]? = some (.cells vs.toArray T (0, 0)) ∧
    (sets ((W.setCell ⟨po, 1, none⟩ x).setCell ⟨po, 2, none⟩ y) pr 0 vs).ownsRow w.heap.size 50 11 v fs.length (fs.flatMap Found.row) ∧ Below w.heap.size w (sets ((W.setCell ⟨po, 1, none⟩ x).setCell ⟨po, 2, none⟩ y) pr 0 vs) := by
  have l1 := h.l1
  have l2 := h.l2
  refine ⟨sets_at (blk_set (blk_set h.res _ _ (by omega)) _ _ (by omega)) vs (by rw [hl]; rfl), own_base (own_keepAll h.own fun g c hg hc => sets_old (by omega) vs _ 0 (blk_set (blk_set hc _ _ (by omega)) _ _ (by omega))) (by omega), ?_⟩
  exact sets_below (a := w) l1 vs _ 0 (Base.st (Base.st h.below (by omega) _ _) (by omega) _ _)
end Go.Proofs.YteieaelinkdahaaDoor
