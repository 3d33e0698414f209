/- A copy by append onto an empty literal: the new row is told outright. -/
import Derived.Test.YteieaelinkdahaaDoorPackR
import Derived.Laws.OwnMore
namespace Go.Proofs.YteieaelinkdahaaDoor
open Go Go.RowKit

/-- 'append([]T{}, src...)', T of one cell, src not empty. -/
theorem wpList_append_fresh {P : Program} (w : World) {ops : Array Oper} {rest : List Oper} {o : Oper} {a : Act} {Q : Exit → Act → World → Prop} (hgd : o.guard = none) (s x : Operand) (t : TypeId)
    (ho : o.op = .call { callee := .builtin .append, args := #[s, x], argTypes := #[t, t] })
    (e : TypeId) (i : TypeInfo) (z : Value) (ht : P.underlying t = some (.slice e)) (hi : P.info? e = some i) (hz : i.zero = some z) (hsize : i.size = 1) (hby : i.bytes ≤ 1000)
    (b : Addr) (hs : a.eval s = .slice (some b) 0 0) (ad : Addr) (n c : Nat) (news : List Value) (hx : a.eval x = .slice (some ad) n c) (hl : news.length = n) (hn : 0 < n) (hm : n ≤ 100000) (hnews : ∀ j u, news[j]? = some u → w.cell? (ad.add j) = some u)
    (h : ∀ (cp : Nat) (junk : List Value), n ≤ cp → cp ≤ maxLen → wpList P ops Q rest (a.put o.dst (.slice (some ⟨w.heap.size, 0, none⟩) n cp)) (w.alloc (.cells (news ++ junk).toArray e)).drew) : wpList P ops Q (o :: rest) a w := by
  have hfit : Builtin.nextslicecap (0 + n) 0 * i.bytes ≤ 281474976710656 := growslice_fits (by omega) (by
    have : (0 + n) * i.bytes ≤ 100000 * 1000 := Nat.mul_le_mul (by omega) hby
    omega)
  have hr := run_append_grow (P := P) w t o.type e i z ht hi hz b 0 0 [] (by simp) (by intro j v hj; cases hj) ad n c news (by rw [hl, hsize, Nat.mul_one]) hnews (by omega) (by omega) hfit
  have hge := grownCap_ge w (0 + n) 0 e
  have hle := grownCap_le_maxLen w (0 + n) 0 e (by unfold maxLen; omega)
  have := h (grownCap w (0 + n) 0 e) (Builtin.zeroCells z.cells (grownCap w (0 + n) 0 e - (0 + n))).toList (by omega) hle
  rw [Nat.zero_add] at this
  rw [Nat.zero_add] at hr
  have hc : (([] : List Value).toArray ++ news.toArray ++ Builtin.zeroCells z.cells (grownCap w n 0 e - n)) = (news ++ (Builtin.zeroCells z.cells (grownCap w n 0 e - n)).toList).toArray := by
    apply Array.ext'
    simp
  rw [hc] at hr
  refine wpList_plain hgd fun K hK => ?_
  unfold Oper.wp execOp
  simp only [ho, resolve, invoke, builtin, Sem.run_bind, Sem.run_pure, Result.andThen_ok, List.map_toArray, List.map_cons, List.map_nil, hs, hx, hr]
  exact hK _ _ this
/-- A block's first cells, as a slice. -/
theorem Sl.of_blk {w : World} {g n cap : Nat} {D xs : List Value} {t : TypeId} (h : w.heap[g]? = some (.cells D.toArray t (0, 0))) (hD : D.take n = xs) (hn : xs.length = n) (hc : n ≤ cap) (hm : cap ≤ maxLen) : Sl w 1 (.slice (some ⟨g, 0, none⟩) n cap) (xs.map fun x => [x]) := by
  subst hn
  refine ⟨some ⟨g, 0, none⟩, cap, by rw [List.length_map], by rw [List.length_map]; exact hc, hm, (fun h => by cases h), fun _ => ⟨g, 0, rfl, (Array.getElem?_eq_some_iff.1 h).1, ?_⟩⟩
  intro i x hi
  rw [List.getElem?_map] at hi
  obtain ⟨y, hy, rfl⟩ := Option.map_eq_some_iff.1 hi
  refine ⟨rfl, fun j u hj => ?_⟩
  cases j with
  | succ j => cases hj
  | zero =>
    have hu : u = y := by simpa using hj.symm
    subst hu
    have hil := (List.getElem?_eq_some_iff.1 hy).1
    rw [← hD, List.getElem?_take_of_lt hil] at hy
    rw [cell_blk h, show 0 + i * 1 + 0 = i by omega]
    simpa using hy
theorem blk_new3 (w : World) (x y z u : Obj) : ((((w.alloc x).alloc y).alloc z).alloc u).heap[w.heap.size + 1 + 1 + 1]? = some u := by
  have h := blk_new2 (w.alloc x) y z u
  rwa [show (w.alloc x).heap.size = w.heap.size + 1 from by simp] at h
end Go.Proofs.YteieaelinkdahaaDoor
