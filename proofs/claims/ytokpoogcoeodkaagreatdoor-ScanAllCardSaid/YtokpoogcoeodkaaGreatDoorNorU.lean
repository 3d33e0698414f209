/- The document's device made. -/
import Derived.Test.YtokpoogcoeodkaaGreatDoorNorX
namespace Go.Proofs.YtokpoogcoeodkaaGreatDoor
open Go.RowKit Flo

/-! ### Blocks told apart by their elements' type -/
theorem keepT {W W' : World} {e : TypeId} {base n : Nat} {v : Value} {xs : List Value} (own : W.ownsRow base e 1 v n xs) (hg : W.grownBy W' v.ownBlock) {g : Nat} {c : Array Value} {t : TypeId} {f : Nat × Nat} (hx : W.heap[g]? = some (.cells c t f)) (hne : t ≠ e) : W'.heap[g]? = some (.cells c t f) := by
  rw [hg.block g (Array.getElem?_eq_some_iff.1 hx).1 ?_]
  · exact hx
  · intro he
    rcases own.2 with ⟨h1, _⟩ | ⟨g', cap, cur, h1, _, hgg, _⟩
    · rw [h1] at he; cases he
    · rw [h1] at he
      injection he with he
      subst he
      rw [hx] at hgg
      injection hgg with hgg
      injection hgg with _ h2
      exact hne h2
theorem keepS {W : World} {d g : Nat} {c c' : Array Value} {t T : TypeId} {f f' : Nat × Nat} (hd : W.heap[d]? = some (.cells c' T f')) (hx : W.heap[g]? = some (.cells c t f)) (hne : t ≠ T) (o : Nat) (v : Value) : (W.setCell ⟨d, o, none⟩ v).heap[g]? = some (.cells c t f) := by
  refine blk_set hx o v (fun e => ?_)
  subst e
  rw [hx] at hd
  injection hd with hd
  injection hd with _ h2
  exact hne h2
theorem own_keep {W W' : World} {base n : Nat} {e2 : TypeId} {v : Value} {xs : List Value} (h : W.ownsRow base e2 1 v n xs) (hk : ∀ (g : Nat) (c : Array Value), W.heap[g]? = some (Obj.cells c e2 (0, 0)) → W'.heap[g]? = some (Obj.cells c e2 (0, 0))) : W'.ownsRow base e2 1 v n xs := by
  refine ⟨h.1, ?_⟩
  rcases h.2 with hn | ⟨g, cap, cur, rfl, hbg, hgg, rest⟩
  · exact .inl hn
  · exact .inr ⟨g, cap, cur, rfl, hbg, hk g cur hgg, rest⟩

structure RNew (w : World) (s z : Nat) (Zc : Array Value) (W : World) (j1 j2 j3 : Nat) (vd vw vb : Value) (rows : List Value) : Prop where
  hd : W.heap[w.heap.size + 1 + 1]? = some (Obj.cells #[i64 s, i64 z, vd, vw, vb, .bool false, i64 0, i64 0, .bool false, i64 0, i64 0, .int .u8 0] 33 (0, 0))
  hg : W.heap[w.heap.size]? = some (Obj.cells #[i64 s, i64 z] 28 (0, 0))
  hz : W.heap[w.heap.size + 1]? = some (Obj.cells Zc 33 (0, 0))
  o1 : W.ownsRow (w.heap.size + 1 + 1 + 1) 38 1 vd j1 rows
  o2 : W.ownsRow (w.heap.size + 1 + 1 + 1) 3 1 vw j2 (List.replicate j2 (i64 0))
  o3 : W.ownsRow (w.heap.size + 1 + 1 + 1) 4 1 vb j3 (List.replicate j3 (.bool false))
  len : rows.length = j1
  row : ∀ r ∈ rows, ∃ (g cap : Nat) (junk : List Value), r = .slice (some ⟨g, 0, none⟩) z cap ∧ w.heap.size ≤ g ∧ W.heap[g]? = some (Obj.cells ((List.replicate z 255).map bv ++ junk).toArray 5 (0, 0)) ∧ z ≤ cap ∧ cap ≤ maxLen
  below : Below w.heap.size w W
theorem RNew.on {w : World} {s z : Nat} {Zc : Array Value} {W W' : World} {j1 j2 j3 : Nat} {vd vw vb : Value} {rows : List Value} (h : RNew w s z Zc W j1 j2 j3 vd vw vb rows) (hb : Below W.heap.size W W') : RNew w s z Zc W' j1 j2 j3 vd vw vb rows where
  hd := blk_below h.hd hb
  hg := blk_below h.hg hb
  hz := blk_below h.hz hb
  o1 := own_below h.o1 hb
  o2 := own_below h.o2 hb
  o3 := own_below h.o3 hb
  len := h.len
  row r hr := by obtain ⟨g, cap, junk, h1, h2, h3, h4⟩ := h.row r hr; exact ⟨g, cap, junk, h1, h2, blk_below h3 hb, h4⟩
  below := Base.tr h.below hb
theorem RNew.start (w : World) (s z : Nat) : RNew w s z #[.int .i64 0, .int .i64 0, .slice none 0 0, .slice none 0 0, .slice none 0 0, .bool false, .int .i64 0, .int .i64 0, .bool false, .int .i64 0, .int .i64 0, .int .u8 0] (((w.alloc (.cells #[i64 s, i64 z] 28)).alloc (.cells #[.int .i64 0, .int .i64 0, .slice none 0 0, .slice none 0 0, .slice none 0 0, .bool false, .int .i64 0, .int .i64 0, .bool false, .int .i64 0, .int .i64 0, .int .u8 0] 33)).alloc (.cells #[i64 s, i64 z, .slice none 0 0, .slice none 0 0, .slice none 0 0, .bool false, .int .i64 0, .int .i64 0, .bool false, .int .i64 0, .int .i64 0, .int .u8 0] 33)) 0 0 0 (.slice none 0 0) (.slice none 0 0) (.slice none 0 0) [] where
  hd := blk_new2 _ _ _ _
  hg := blk_old (blk_old (blk_new _ _))
  hz := blk_old (blk_new1 _ _ _)
  o1 := ⟨rfl, .inl ⟨rfl, rfl⟩⟩
  o2 := ⟨rfl, .inl ⟨rfl, rfl⟩⟩
  o3 := ⟨rfl, .inl ⟨rfl, rfl⟩⟩
  len := rfl
  row r hr := by cases hr
  below := Base.al (Base.al (Base.al (Below.refl _ _) _) _) _
theorem below_grown {w W W' : World} {e : TypeId} {base n : Nat} {v : Value} {xs : List Value} (h : Below w.heap.size w W) (own : W.ownsRow base e 1 v n xs) (hg : W.grownBy W' v.ownBlock) (hB : w.heap.size ≤ base) : Below w.heap.size w W' :=
  Base.gr h hg (fun k hk => by have := (own.lt k hk).1; omega)
theorem RNew.setD {w : World} {s z : Nat} {Zc : Array Value} {W W' : World} {j1 j2 j3 : Nat} {vd vw vb v' r : Value} {rows : List Value} (h : RNew w s z Zc W j1 j2 j3 vd vw vb rows) (hg : W.grownBy W' vd.ownBlock) (own' : W'.ownsRow (w.heap.size + 1 + 1 + 1) 38 1 v' (j1 + 1) (rows ++ [r]))
    (hr : ∃ (g cap : Nat) (junk : List Value), r = .slice (some ⟨g, 0, none⟩) z cap ∧ w.heap.size ≤ g ∧ W.heap[g]? = some (Obj.cells ((List.replicate z 255).map bv ++ junk).toArray 5 (0, 0)) ∧ z ≤ cap ∧ cap ≤ maxLen) :
    RNew w s z Zc (W'.setCell ⟨w.heap.size + 1 + 1, 2, none⟩ v') (j1 + 1) j2 j3 v' vw vb (rows ++ [r]) := by
  have hd' := keepT h.o1 hg h.hd (by decide)
  have kp : ∀ {g : Nat} {c : Array Value} {t : TypeId}, W.heap[g]? = some (Obj.cells c t (0, 0)) → t ≠ 38 → t ≠ 33 → (W'.setCell ⟨w.heap.size + 1 + 1, 2, none⟩ v').heap[g]? = some (Obj.cells c t (0, 0)) :=
    fun hx n1 n2 => keepS hd' (keepT h.o1 hg hx n1) n2 _ _
  refine { hd := ?_, hg := kp h.hg (by decide) (by decide), hz := ?_, o1 := own_keep own' (fun g c hx => keepS hd' hx (by decide) _ _), o2 := own_keep h.o2 (fun g c hx => kp hx (by decide) (by decide)), o3 := own_keep h.o3 (fun g c hx => kp hx (by decide) (by decide)), len := by rw [List.length_append, h.len]; rfl, row := ?_, below := Base.st (below_grown h.below h.o1 hg (by omega)) (by omega) _ _ }
  · have := heap_setCell hd' 2 v'
    simpa using this
  · exact blk_set (keepT h.o1 hg h.hz (by decide)) _ _ (by show w.heap.size + 1 ≠ w.heap.size + 1 + 1; omega)
  · intro x hx
    rcases List.mem_append.1 hx with hx | hx
    · obtain ⟨g, cap, junk, h1, h2, h3, h4⟩ := h.row x hx
      exact ⟨g, cap, junk, h1, h2, kp h3 (by decide) (by decide), h4⟩
    · rw [List.mem_singleton] at hx
      subst hx
      obtain ⟨g, cap, junk, h1, h2, h3, h4⟩ := hr
      exact ⟨g, cap, junk, h1, h2, kp h3 (by decide) (by decide), h4⟩
theorem RNew.setW {w : World} {s z : Nat} {Zc : Array Value} {W W' : World} {j1 j2 j3 : Nat} {vd vw vb v' : Value} {rows : List Value} (h : RNew w s z Zc W j1 j2 j3 vd vw vb rows) (hg : W.grownBy W' vw.ownBlock) (own' : W'.ownsRow (w.heap.size + 1 + 1 + 1) 3 1 v' (j2 + 1) (List.replicate j2 (i64 0) ++ [i64 0])) :
    RNew w s z Zc (W'.setCell ⟨w.heap.size + 1 + 1, 3, none⟩ v') j1 (j2 + 1) j3 vd v' vb rows := by
  have hd' := keepT h.o2 hg h.hd (by decide)
  have kp : ∀ {g : Nat} {c : Array Value} {t : TypeId}, W.heap[g]? = some (Obj.cells c t (0, 0)) → t ≠ 3 → t ≠ 33 → (W'.setCell ⟨w.heap.size + 1 + 1, 3, none⟩ v').heap[g]? = some (Obj.cells c t (0, 0)) :=
    fun hx n1 n2 => keepS hd' (keepT h.o2 hg hx n1) n2 _ _
  rw [← List.replicate_succ'] at own'
  refine { hd := ?_, hg := kp h.hg (by decide) (by decide), hz := ?_, o1 := own_keep h.o1 (fun g c hx => kp hx (by decide) (by decide)), o2 := own_keep own' (fun g c hx => keepS hd' hx (by decide) _ _), o3 := own_keep h.o3 (fun g c hx => kp hx (by decide) (by decide)), len := h.len, row := ?_, below := Base.st (below_grown h.below h.o2 hg (by omega)) (by omega) _ _ }
  · have := heap_setCell hd' 3 v'
    simpa using this
  · exact blk_set (keepT h.o2 hg h.hz (by decide)) _ _ (by show w.heap.size + 1 ≠ w.heap.size + 1 + 1; omega)
  · intro x hx
    obtain ⟨g, cap, junk, h1, h2, h3, h4⟩ := h.row x hx
    exact ⟨g, cap, junk, h1, h2, kp h3 (by decide) (by decide), h4⟩
theorem RNew.setB {w : World} {s z : Nat} {Zc : Array Value} {W W' : World} {j1 j2 j3 : Nat} {vd vw vb v' : Value} {rows : List Value} (h : RNew w s z Zc W j1 j2 j3 vd vw vb rows) (hg : W.grownBy W' vb.ownBlock) (own' : W'.ownsRow (w.heap.size + 1 + 1 + 1) 4 1 v' (j3 + 1) (List.replicate j3 (.bool false) ++ [.bool false])) :
    RNew w s z Zc (W'.setCell ⟨w.heap.size + 1 + 1, 4, none⟩ v') j1 j2 (j3 + 1) vd vw v' rows := by
  have hd' := keepT h.o3 hg h.hd (by decide)
  have kp : ∀ {g : Nat} {c : Array Value} {t : TypeId}, W.heap[g]? = some (Obj.cells c t (0, 0)) → t ≠ 4 → t ≠ 33 → (W'.setCell ⟨w.heap.size + 1 + 1, 4, none⟩ v').heap[g]? = some (Obj.cells c t (0, 0)) :=
    fun hx n1 n2 => keepS hd' (keepT h.o3 hg hx n1) n2 _ _
  rw [← List.replicate_succ'] at own'
  refine { hd := ?_, hg := kp h.hg (by decide) (by decide), hz := ?_, o1 := own_keep h.o1 (fun g c hx => kp hx (by decide) (by decide)), o2 := own_keep h.o2 (fun g c hx => kp hx (by decide) (by decide)), o3 := own_keep own' (fun g c hx => keepS hd' hx (by decide) _ _), len := h.len, row := ?_, below := Base.st (below_grown h.below h.o3 hg (by omega)) (by omega) _ _ }
  · have := heap_setCell hd' 4 v'
    simpa using this
  · exact blk_set (keepT h.o3 hg h.hz (by decide)) _ _ (by show w.heap.size + 1 ≠ w.heap.size + 1 + 1; omega)
  · intro x hx
    obtain ⟨g, cap, junk, h1, h2, h3, h4⟩ := h.row x hx
    exact ⟨g, cap, junk, h1, h2, kp h3 (by decide) (by decide), h4⟩

theorem own_val {W : World} {base : Nat} {e : TypeId} {v : Value} {n : Nat} {xs : List Value} (h : W.ownsRow base e 1 v n xs) : ∃ A cap, v = .slice A n cap := by
  rcases h.2 with ⟨h1, h2⟩ | ⟨g, cap, cur, h1, _⟩
  · exact ⟨none, 0, by rw [h1, h2]⟩
  · exact ⟨_, _, h1⟩
/-- A new device of the document. -/
theorem RNew.ref {w : World} {s z : Nat} {Zc : Array Value} {W : World} {vd vw vb : Value} {rows : List Value} (h : RNew w s z Zc W s s s vd vw vb rows) (hg : geoB s z = true) {O : Nat → Prop} (lim : ∀ k, O k → k < w.heap.size) {N : Nor} (hf : Fresh N s z) :
    ∃ R : RV, (.agg #[i64 s, i64 z, vd, vw, vb, .bool false, i64 0, i64 0, .bool false, i64 0, i64 0, .int .u8 0] : Value) = R.val N ∧ RefR O W R N ∧ R.mask = 0 ∧ R.left = 0 := by
  obtain ⟨A1, c1, rfl⟩ := own_val h.o1
  obtain ⟨A2, c2, rfl⟩ := own_val h.o2
  obtain ⟨A3, c3, rfl⟩ := own_val h.o3
  have fr : ∀ {e : TypeId} {A : Option Addr} {n c : Nat} {xs : List Value}, W.ownsRow (w.heap.size + 1 + 1 + 1) e 1 (.slice A n c) n xs → Far O (.slice A n c) := by
    intro e A n c xs ho b off n' c' he hO
    rcases ho.2 with ⟨h1, _⟩ | ⟨g, cap, cur, h1, hbg, _⟩
    · rw [he] at h1; cases h1
    · rw [he] at h1
      injection h1 with h1
      injection h1 with h1
      injection h1 with h1
      subst h1
      have := lim _ hO
      omega
  refine ⟨⟨A1, A2, A3, c1, c2, c3, 0, 0, 0, rows⟩, ?_, ?_, rfl, rfl⟩
  · simp only [RV.val, RV.cells]
    rw [hf.S, hf.Z, hf.off, hf.offs, hf.acts, hf.cut]
    rfl
  · refine { cut := fun c hc => by { rw [hf.cut] at hc; cases hc }, data := ?_, dfar := ?_, len := by rw [hf.S]; exact h.len, row := ?_, wear := ?_, wfar := ?_, bad := ?_, bfar := ?_, dl := by rw [hf.data, hf.S]; simp, wl := by rw [hf.wear, hf.S]; simp, all := ?_, geo := by rw [hf.S, hf.Z]; exact hg, badn := by rw [hf.bad]; simp }
    · have h1 := h.o1
      have hl := h.len
      subst hl
      rw [hf.S]
      exact own_Sl h1
    · rw [hf.S]; exact fr h.o1
    · intro i r l hr hl
      rw [hf.data] at hl
      obtain ⟨_, rfl⟩ := List.mem_replicate.1 (List.mem_of_getElem? hl)
      obtain ⟨g, cap, junk, rfl, h2, h3, h4, h5⟩ := h.row r (List.mem_of_getElem? hr)
      have hb := byt_blk (cap := cap) h3 (by simp; omega) h5
      rw [List.length_replicate] at hb
      exact ⟨hb, far_new lim h2 _ _ _, _, _, _, rfl⟩
    · rw [hf.S, hf.wear]
      have h2 := h.o2
      have e : ((List.replicate s (0 : Nat)).map fun n : Nat => (n : Int)).map (fun n => [Value.int .i64 n]) = (List.replicate s (i64 0)).map fun x => [x] := by simp
      show Sl _ _ _ _
      rw [e]
      exact own_Sl (xs := List.replicate s (i64 0)) (by simpa using h2)
    · rw [hf.S]; exact fr h.o2
    · rw [hf.S]
      have h3 := own_Sl (xs := List.replicate s (Value.bool false)) (by simpa using h.o3)
      have hb : ∀ i, N.isBad i = false := by intro i; unfold Nor.isBad; rw [hf.bad]; rfl
      simp only [hb]
      have e : (List.range s).map (fun _ => [Value.bool false]) = (List.replicate s (Value.bool false)).map fun x => [x] := by
        apply List.ext_getElem <;> simp
      rw [e]
      exact h3
    · rw [hf.S]; exact fr h.o3
    · intro l hl
      rw [hf.data] at hl
      obtain ⟨_, rfl⟩ := List.mem_replicate.1 hl
      refine ⟨by rw [hf.Z]; simp, fun b hb => ?_⟩
      rw [(List.mem_replicate.1 hb).2]
      decide
theorem RNew.setZ {w : World} {s z : Nat} {Zc : Array Value} {W : World} {j1 j2 j3 : Nat} {vd vw vb : Value} {rows : List Value} (h : RNew w s z Zc W j1 j2 j3 vd vw vb rows) (vs : List Value) (hl : Zc.size = vs.length) :
    RNew w s z vs.toArray (sets W (w.heap.size + 1) 0 vs) j1 j2 j3 vd vw vb rows := by
  have kp : ∀ {g : Nat} {c : Array Value} {t : TypeId}, W.heap[g]? = some (Obj.cells c t (0, 0)) → t ≠ 33 → (sets W (w.heap.size + 1) 0 vs).heap[g]? = some (Obj.cells c t (0, 0)) := by
    intro g c t hx hne
    refine sets_old (fun e => ?_) vs W 0 hx
    subst e
    have := h.hz
    rw [hx] at this
    injection this with this
    injection this with _ h2
    exact hne h2
  exact { hd := sets_old (by omega) vs W 0 h.hd, hg := kp h.hg (by decide), hz := sets_at h.hz vs hl, o1 := own_keep h.o1 (fun g c hx => kp hx (by decide)), o2 := own_keep h.o2 (fun g c hx => kp hx (by decide)), o3 := own_keep h.o3 (fun g c hx => kp hx (by decide)), len := h.len, row := fun r hr => by { obtain ⟨g, cap, junk, h1, h2, h3, h4⟩ := h.row r hr; exact ⟨g, cap, junk, h1, h2, kp h3 (by decide), h4⟩ }, below := sets_below (Nat.le_succ _) vs W 0 h.below }
theorem news_set (w : World) (p : Addr) (v : Value) (cs : List Value) (t : TypeId) : ∀ j u, cs[j]? = some u → ((w.setCell p v).alloc (.cells cs.toArray t)).cell? ((⟨w.heap.size, 0, none⟩ : Addr).add j) = some u := by
  have := news_of (w.setCell p v) cs t
  rwa [show (w.setCell p v).heap.size = w.heap.size by simp [World.setCell]] at this
theorem own_lit (wo : World) (e : TypeId) : (wo.alloc (.cells #[] e)).ownsRow wo.heap.size e 1 (.slice (some ⟨wo.heap.size, 0, none⟩) 0 0) 0 [] :=
  ⟨rfl, .inr ⟨wo.heap.size, 0, #[], rfl, Nat.le_refl _, blk_new _ _, Nat.le_refl _, Nat.zero_le _, rfl, rfl⟩⟩

set_option maxHeartbeats 4000000 in
set_option maxRecDepth 100000 in
theorem rnew_any (s z : Nat) (w : World) (hg : geoB s z = true) : Calls Tryz.prog 5 #[geo s z] w fun e w' => ∃ (vd vw vb : Value) (rows : List Value) (Zc : Array Value),
    e = .returned (.agg #[i64 s, i64 z, vd, vw, vb, .bool false, i64 0, i64 0, .bool false, i64 0, i64 0, .int .u8 0]) ∧ RNew w s z Zc w' s s s vd vw vb rows := by
  obtain ⟨q1, q2, q3, q4⟩ := geoB_yes hg
  obtain ⟨i1, a0, a1, a2, a3⟩ := info_parts info_bytesE
  obtain ⟨i2, b0, b1, b2, b3⟩ := info_parts info_intE
  obtain ⟨i3, c0, c1, c2, c3⟩ := info_parts info_boolV
  obtain ⟨i4, d0, d1, d2, d3⟩ := info_parts info_u8E
  have st0 := Lib.hid (RNew.start w s z)
  go_enter Tryz.func5, Tryz.ntmps5
  go_wp2_with fail
  generalize ((w.alloc _).alloc _).alloc _ = w0 at *
  go_loopw [4] (fun i wr => ∃ (j : Nat) (vd vw vb : Value) (rows : List Value), j ≤ s ∧ i = .int .i64 j ∧ Hid (RNew w s z #[.int .i64 0, .int .i64 0, .slice none 0 0, .slice none 0 0, .slice none 0 0, .bool false, .int .i64 0, .int .i64 0, .bool false, .int .i64 0, .int .i64 0, .int .u8 0] wr j j j vd vw vb rows)) (fun i _ => s - (intOf i).toNat)
  case atStart => exact ⟨0, _, _, _, _, Nat.zero_le _, rfl, st0⟩
  case round =>
    clear st0
    obtain ⟨j, vd, vw, vb, rows, hj, rfl, st⟩ := hrel
    have e0 : wr.cell? ⟨w.heap.size, 0, none⟩ = some (i64 s) := cell_blk st.out.hg 0
    by_cases hlt : j < s
    · go_wp2_with fail
      clear e0
      obtain ⟨wo, rfl⟩ : ∃ wo : World, wo = wr := ⟨_, rfl⟩
      go_loopw [5, 6] (fun v i wr => ∃ k : Nat, k ≤ z ∧ i = .int .i64 k ∧ wr.ownsRow wo.heap.size 5 1 v k (List.replicate k (bv 255)) ∧ Below wo.heap.size wo wr) (fun _ i _ => z - (intOf i).toNat)
      case atStart => exact ⟨0, Nat.zero_le _, rfl, own_lit wo _, Base.al (Below.refl _ _) _⟩
      case round =>
        obtain ⟨k, hk, rfl, hown, hb⟩ := hrel
        have e1 : wr.cell? ⟨w.heap.size, 1, none⟩ = some (i64 z) := cell_blk (blk_below st.out.hg hb) 1
        by_cases hltk : k < z
        · skip
          go_wp2_with (at_builtin; refine wpList_append_own _ rfl _ _ 38 rfl wo.heap.size 5 i4 _ 1 1 Tryz.underlying38 d0 d1 d2 d3 rfl (by decide) _ _ _ rfl (hown.alloc _) ⟨wr.heap.size, 0, none⟩ 1 1 [.int .u8 255] rfl rfl ?c1 ?c2 ?c3 ?c4 ?c5 ?_)
          case c1 => exact news_of _ _ _
          case c2 => simp [Value.oneCell']
          case c3 => unfold maxLen; omega
          case c4 => omega
          case c5 => have := hb.size; (try simp at this); (try simp); omega
          intro v' w2 hown2 hgrow _
          have hb2 := Base.gr (Base.al hb _) hgrow (fun g hg => (hown.lt g hg).1)
          go_wp2_with fail
          exact ⟨⟨k + 1, by omega, by go_num, by rw [List.replicate_succ']; exact hown2, hb2⟩, by simp [intOf]; omega⟩
        · obtain rfl : k = z := by omega
          have stw := st.out.on hb
          rcases hown.2 with ⟨_, h0⟩ | ⟨g, cap, cur, hv, hbg, hgg, hnc, hcm, hcs, htake⟩
          · omega
          subst hv
          obtain ⟨junk, hj2⟩ : ∃ junk : List Value, cur = ((List.replicate k 255).map bv ++ junk).toArray := by
            refine ⟨cur.toList.drop (k * 1), ?_⟩
            rw [List.map_replicate, ← htake]
            apply Array.ext'
            simp
          rw [hj2] at hgg
          clear hj2 hcs htake hown
          have hgw : w.heap.size ≤ g := Nat.le_trans st.out.below.size hbg
          have st1 := Lib.hid (stw.on (Base.al (Below.refl _ _) (.cells #[.slice (some ⟨g, 0, none⟩) k cap] 38)))
          have hgg1 := blk_old (x := .cells #[.slice (some ⟨g, 0, none⟩) k cap] 38) hgg
          have fd := cell_blk stw.hd
          have f2 : wr.cell? ⟨w.heap.size + 1 + 1, 2, none⟩ = some vd := fd 2
          have f3 : wr.cell? ⟨w.heap.size + 1 + 1, 3, none⟩ = some vw := fd 3
          have f4 : wr.cell? ⟨w.heap.size + 1 + 1, 4, none⟩ = some vb := fd 4
          have zd : w.heap.size + 1 + 1 < wr.heap.size := (Array.getElem?_eq_some_iff.1 stw.hd).1
          clear fd stw st hgg
          go_wp2_with (at_builtin; refine wpList_append_own _ rfl _ _ 29 rfl (w.heap.size + 1 + 1 + 1) 38 i1 _ 1 24 Tryz.underlying29 a0 a1 a2 a3 rfl (by decide) _ _ _ rfl st1.out.o1 ⟨wr.heap.size, 0, none⟩ 1 1 [.slice (some ⟨g, 0, none⟩) k cap] rfl rfl ?c1 ?c2 ?c3 ?c4 ?c5 ?_)
          case c1 => exact news_of _ _ _
          case c2 => simp [Value.oneCell']
          case c3 => unfold maxLen; omega
          case c4 => omega
          case c5 => (try simp); omega
          intro v1 w2 own2 gr2 _
          obtain ⟨A1, k1, rfl⟩ := own_val own2
          have sz2 := gr2.size
          simp at sz2
          have hd2 := keepT st1.out.o1 gr2 st1.out.hd (by decide)
          have stA := Lib.hid (st1.out.setD gr2 own2 ⟨g, cap, junk, rfl, hgw, hgg1, hnc, hcm⟩)
          have g3 : w2.cell? ⟨w.heap.size + 1 + 1, 3, none⟩ = some vw := cell_blk hd2 3
          have g2 : w2.cell? ⟨w.heap.size + 1 + 1, 2, none⟩ = some vd := cell_blk hd2 2
          have g4 : w2.cell? ⟨w.heap.size + 1 + 1, 4, none⟩ = some vb := cell_blk hd2 4
          have zf2 := frozen_blk hd2 2
          have st2 := Lib.hid (stA.out.on (Base.al (Below.refl _ _) (.cells #[i64 0] 3)))
          clear st1 own2 gr2 f2 f3 f4 hd2 hgg1 stA
          go_wp2_with (at_builtin; refine wpList_append_own _ rfl _ _ 30 rfl (w.heap.size + 1 + 1 + 1) 3 i2 _ 1 8 Tryz.underlying30 b0 b1 b2 b3 rfl (by decide) _ _ _ rfl st2.out.o2 ⟨w2.heap.size, 0, none⟩ 1 1 [i64 0] rfl rfl ?c1 ?c2 ?c3 ?c4 ?c5 ?_)
          case c1 => exact news_set _ _ _ _ _
          case c2 => simp [Value.oneCell']
          case c3 => unfold maxLen; omega
          case c4 => omega
          case c5 => (try simp); omega
          intro v3 w3 own3 gr3 _
          obtain ⟨A2, k2, rfl⟩ := own_val own3
          have sz3 := gr3.size
          simp at sz3
          have hd3 := keepT st2.out.o2 gr3 st2.out.hd (by decide)
          have stB := Lib.hid (st2.out.setW gr3 own3)
          have m3 : w3.cell? ⟨w.heap.size + 1 + 1, 3, none⟩ = some vw := cell_blk hd3 3
          have m4 : w3.cell? ⟨w.heap.size + 1 + 1, 4, none⟩ = some vb := cell_blk hd3 4
          have zf3 := frozen_blk hd3 3
          have st3 := Lib.hid (stB.out.on (Base.al (Below.refl _ _) (.cells #[.bool false] 4)))
          clear st2 own3 gr3 g2 g3 g4 hd3 stB zf2
          go_wp2_with (at_builtin; refine wpList_append_own _ rfl _ _ 31 rfl (w.heap.size + 1 + 1 + 1) 4 i3 _ 1 1 Tryz.underlying31 c0 c1 c2 c3 rfl (by decide) _ _ _ rfl st3.out.o3 ⟨w3.heap.size, 0, none⟩ 1 1 [.bool false] rfl rfl ?c1 ?c2 ?c3 ?c4 ?c5 ?_)
          case c1 => exact news_set _ _ _ _ _
          case c2 => simp [Value.oneCell']
          case c3 => unfold maxLen; omega
          case c4 => omega
          case c5 => (try simp); omega
          intro v4 w4 own4 gr4 _
          obtain ⟨A3, k3, rfl⟩ := own_val own4
          have hd4 := keepT st3.out.o3 gr4 st3.out.hd (by decide)
          have stC := Lib.hid (st3.out.setB gr4 own4)
          have p4 : w4.cell? ⟨w.heap.size + 1 + 1, 4, none⟩ = some vb := cell_blk hd4 4
          have zf4 := frozen_blk hd4 4
          clear st3 own4 gr4 m3 m4 hd4 zf3
          go_wp2_with fail
          exact ⟨⟨j + 1, _, _, _, _, by omega, by go_num, stC⟩, by simp [intOf]; omega⟩
    · obtain rfl : j = s := by omega
      have hd := st.out.hd
      have hz := st.out.hz
      obtain ⟨A1, k1, rfl⟩ := own_val st.out.o1
      obtain ⟨A2, k2, rfl⟩ := own_val st.out.o2
      obtain ⟨A3, k3, rfl⟩ := own_val st.out.o3
      have fd := cell_blk hd
      have f0 : wr.cell? ⟨w.heap.size + 1 + 1, 0, none⟩ = some (i64 j) := fd 0
      have f1 : wr.cell? ⟨w.heap.size + 1 + 1, 1, none⟩ = some (i64 z) := fd 1
      have f2 : wr.cell? ⟨w.heap.size + 1 + 1, 2, none⟩ = some (.slice A1 j k1) := fd 2
      have f3 : wr.cell? ⟨w.heap.size + 1 + 1, 3, none⟩ = some (.slice A2 j k2) := fd 3
      have f4 : wr.cell? ⟨w.heap.size + 1 + 1, 4, none⟩ = some (.slice A3 j k3) := fd 4
      have f5 : wr.cell? ⟨w.heap.size + 1 + 1, 5, none⟩ = some (.bool false) := fd 5
      have f6 : wr.cell? ⟨w.heap.size + 1 + 1, 6, none⟩ = some (i64 0) := fd 6
      have f7 : wr.cell? ⟨w.heap.size + 1 + 1, 7, none⟩ = some (i64 0) := fd 7
      have f8 : wr.cell? ⟨w.heap.size + 1 + 1, 8, none⟩ = some (.bool false) := fd 8
      have f9 : wr.cell? ⟨w.heap.size + 1 + 1, 9, none⟩ = some (i64 0) := fd 9
      have f10 : wr.cell? ⟨w.heap.size + 1 + 1, 10, none⟩ = some (i64 0) := fd 10
      have f11 : wr.cell? ⟨w.heap.size + 1 + 1, 11, none⟩ = some (.int .u8 0) := fd 11
      have zd : w.heap.size + 1 + 1 < wr.heap.size := (Array.getElem?_eq_some_iff.1 hd).1
      have fy := cell_blk hz
      have y0 : wr.cell? ⟨w.heap.size + 1, 0, none⟩ = some (.int .i64 0) := fy 0
      have y1 : wr.cell? ⟨w.heap.size + 1, 1, none⟩ = some (.int .i64 0) := fy 1
      have y2 : wr.cell? ⟨w.heap.size + 1, 2, none⟩ = some (.slice none 0 0) := fy 2
      have y3 : wr.cell? ⟨w.heap.size + 1, 3, none⟩ = some (.slice none 0 0) := fy 3
      have y4 : wr.cell? ⟨w.heap.size + 1, 4, none⟩ = some (.slice none 0 0) := fy 4
      have y5 : wr.cell? ⟨w.heap.size + 1, 5, none⟩ = some (.bool false) := fy 5
      have y6 : wr.cell? ⟨w.heap.size + 1, 6, none⟩ = some (.int .i64 0) := fy 6
      have y7 : wr.cell? ⟨w.heap.size + 1, 7, none⟩ = some (.int .i64 0) := fy 7
      have y8 : wr.cell? ⟨w.heap.size + 1, 8, none⟩ = some (.bool false) := fy 8
      have y9 : wr.cell? ⟨w.heap.size + 1, 9, none⟩ = some (.int .i64 0) := fy 9
      have y10 : wr.cell? ⟨w.heap.size + 1, 10, none⟩ = some (.int .i64 0) := fy 10
      have y11 : wr.cell? ⟨w.heap.size + 1, 11, none⟩ = some (.int .u8 0) := fy 11
      have zy := fun i => frozen_blk hz i
      have zz : w.heap.size + 1 < wr.heap.size := (Array.getElem?_eq_some_iff.1 hz).1
      clear fd fy hd hz
      go_wp2_with fail
      have hs12 : ((((((((((((wr.setCell ⟨w.heap.size + 1, 0, none⟩ (i64 j)).setCell ⟨w.heap.size + 1, 1, none⟩ (i64 z)).setCell ⟨w.heap.size + 1, 2, none⟩ (.slice A1 j k1)).setCell ⟨w.heap.size + 1, 3, none⟩ (.slice A2 j k2)).setCell ⟨w.heap.size + 1, 4, none⟩ (.slice A3 j k3)).setCell ⟨w.heap.size + 1, 5, none⟩ (.bool false)).setCell ⟨w.heap.size + 1, 6, none⟩ (i64 0)).setCell ⟨w.heap.size + 1, 7, none⟩ (i64 0)).setCell ⟨w.heap.size + 1, 8, none⟩ (.bool false)).setCell ⟨w.heap.size + 1, 9, none⟩ (i64 0)).setCell ⟨w.heap.size + 1, 10, none⟩ (i64 0)).setCell ⟨w.heap.size + 1, 11, none⟩ (.int .u8 0)) = sets wr (w.heap.size + 1) 0 [i64 j, i64 z, .slice A1 j k1, .slice A2 j k2, .slice A3 j k3, .bool false, i64 0, i64 0, .bool false, i64 0, i64 0, .int .u8 0] := rfl
      rw [hs12]
      have stZ := st.out.setZ [i64 j, i64 z, .slice A1 j k1, .slice A2 j k2, .slice A3 j k3, .bool false, i64 0, i64 0, .bool false, i64 0, i64 0, .int .u8 0] rfl
      clear hs12 st f0 f1 f2 f3 f4 f5 f6 f7 f8 f9 f10 f11 y0 y1 y2 y3 y4 y5 y6 y7 y8 y9 y10 y11 zy zz zd
      generalize sets wr (w.heap.size + 1) 0 [i64 j, i64 z, .slice A1 j k1, .slice A2 j k2, .slice A3 j k3, .bool false, i64 0, i64 0, .bool false, i64 0, i64 0, .int .u8 0] = w6 at *
      have e := cell_blk stZ.hz
      have e0 : w6.cell? ⟨w.heap.size + 1, 0, none⟩ = some (i64 j) := e 0
      have e1 : w6.cell? ⟨w.heap.size + 1, 1, none⟩ = some (i64 z) := e 1
      have e2 : w6.cell? ⟨w.heap.size + 1, 2, none⟩ = some (.slice A1 j k1) := e 2
      have e3 : w6.cell? ⟨w.heap.size + 1, 3, none⟩ = some (.slice A2 j k2) := e 3
      have e4 : w6.cell? ⟨w.heap.size + 1, 4, none⟩ = some (.slice A3 j k3) := e 4
      have e5 : w6.cell? ⟨w.heap.size + 1, 5, none⟩ = some (.bool false) := e 5
      have e6 : w6.cell? ⟨w.heap.size + 1, 6, none⟩ = some (i64 0) := e 6
      have e7 : w6.cell? ⟨w.heap.size + 1, 7, none⟩ = some (i64 0) := e 7
      have e8 : w6.cell? ⟨w.heap.size + 1, 8, none⟩ = some (.bool false) := e 8
      have e9 : w6.cell? ⟨w.heap.size + 1, 9, none⟩ = some (i64 0) := e 9
      have e10 : w6.cell? ⟨w.heap.size + 1, 10, none⟩ = some (i64 0) := e 10
      have e11 : w6.cell? ⟨w.heap.size + 1, 11, none⟩ = some (.int .u8 0) := e 11
      exact bodyPost_ret (v := .agg #[i64 j, i64 z, .slice A1 j k1, .slice A2 j k2, .slice A3 j k3, .bool false, i64 0, i64 0, .bool false, i64 0, i64 0, .int .u8 0]) (by simp [results, Tryz.results5, go_sem, e0, e1, e2, e3, e4, e5, e6, e7, e8, e9, e10, e11]) rfl ⟨_, _, _, _, _, rfl, stZ⟩
end Go.Proofs.YtokpoogcoeodkaaGreatDoor
