/- A range over a ring's nodes, for whatever callers. -/
import Derived.Test.YtphhafaoccfdpaaDoorRing2
namespace Go.Proofs.YtphhafaoccfdpaaDoor
open Go.RowKit Go.Shelf
open Go.Proofs
set_option maxHeartbeats 800000
set_option maxRecDepth 100000
open Rg (Pt)

/-- blocks that a round of a caller's may not write: what is no row, the iterator's own array, the boxes of what it captured -/
def keepObj : Obj → Bool
  | .cells _ t _ => t == 85 || t == 26 || t == 9
  | _ => true
structure KT (W W' : World) : Prop where
  keep : ∀ (k : Nat) (o : Obj), W.heap[k]? = some o → keepObj o = true → W'.heap[k]? = some o
theorem KT.refl (W : World) : KT W W := ⟨fun _ _ h _ => h⟩
theorem KT.trans {A B C : World} (h : KT A B) (h' : KT B C) : KT A C := ⟨fun k o ho hk => h'.keep k o (h.keep k o ho hk) hk⟩
theorem KT.alloc (W : World) (o : Obj) : KT W (W.alloc o) := ⟨fun k o' h _ => (Below.heap_alloc W o k (block_lt_of_heap h)).trans h⟩
theorem KT.drew (W : World) : KT W W.drew := ⟨fun _ _ h _ => h⟩
theorem KT.below {W W' : World} (h : Below W.heap.size W W') : KT W W' := ⟨fun k o ho _ => (h.block k (block_lt_of_heap ho)).trans ho⟩
theorem KT.setCell {W : World} {b i : Nat} {v : Value} {c : Array Value} {t : TypeId} {fr : Nat × Nat} (h : W.heap[b]? = some (.cells c t fr)) (ht : keepObj (.cells c t fr) = false) : KT W (W.setCell ⟨b, i, none⟩ v) := by
  refine ⟨fun k o ho hk => ?_⟩
  by_cases e : k = b
  · subst e; rw [h] at ho; cases ho; rw [ht] at hk; cases hk
  · exact (heap_setCell_other _ _ _ _ e).trans ho
theorem KT.grown {W W' : World} {row : Option Nat} (hg : W.grownBy W' row) (hr : ∀ r, row = some r → ∃ c t fr, W.heap[r]? = some (.cells c t fr) ∧ keepObj (.cells c t fr) = false) : KT W W' := by
  refine ⟨fun k o ho hk => ?_⟩
  have hne : some k ≠ row := by
    intro e
    obtain ⟨c, t, fr, h1, h2⟩ := hr k e.symm
    rw [h1] at ho; cases ho; rw [h2] at hk; cases hk
  exact (hg.block k (block_lt_of_heap ho) hne).trans ho

/-- W' parts from W in new blocks, and in such blocks from lo on, alone -/
structure Only (lo : Nat) (W W' : World) : Prop where
  os : W'.os = W.os
  tape : W'.tape = W.tape
  output : W'.output = W.output
  size : W.heap.size ≤ W'.heap.size
  keep : ∀ (k : Nat) (o : Obj), W.heap[k]? = some o → (keepObj o = false ∨ k < lo) → W'.heap[k]? = some o
theorem Only.below {lo : Nat} {W W' : World} (h : Only lo W W') (hlo : lo ≤ W.heap.size) : Below lo W W' :=
  ⟨h.os, h.tape, h.output, h.size, fun k hk => by
    have hlt : k < W.heap.size := by omega
    have := h.keep k W.heap[k] (Array.getElem?_eq_getElem hlt) (.inr hk)
    rw [this, Array.getElem?_eq_getElem hlt]⟩
theorem Only.of_below {lo : Nat} {W W' : World} (h : Below W.heap.size W W') : Only lo W W' :=
  ⟨h.os, h.tape, h.output, h.size, fun k o ho _ => (h.block k (block_lt_of_heap ho)).trans ho⟩
theorem Only.putObj {lo l : Nat} {W : World} {o o' : Obj} (h : W.heap[l]? = some o) (hk : keepObj o = true) (hl : lo ≤ l) : Only lo W (W.putObj l o') :=
  ⟨rfl, rfl, rfl, by simp, fun k p hp hh => by
    have : k ≠ l := by
      rintro rfl
      rcases hh with hh | hh
      · rw [h] at hp; cases hp; rw [hk] at hh; cases hh
      · omega
    exact (World.putObj_heap_other this).trans hp⟩
theorem Only.setCell {lo b i : Nat} {W : World} {v : Value} {c : Array Value} {t : TypeId} (h : W.heap[b]? = some (.cells c t (0, 0))) (hk : keepObj (.cells c t (0, 0)) = true) (hl : lo ≤ b) : Only lo W (W.setCell ⟨b, i, none⟩ v) :=
  ⟨rfl, rfl, rfl, by simp, fun k p hp hh => by
    have : k ≠ b := by
      rintro rfl
      rcases hh with hh | hh
      · rw [h] at hp; cases hp; rw [hk] at hh; cases hh
      · omega
    exact (heap_setCell_other _ _ _ _ this).trans hp⟩

theorem ownsRow_only {lo : Nat} {W W' : World} {base : Nat} {e : TypeId} {size : Nat} {v : Value} {n : Nat} {xs : List Value} (h : W.ownsRow base e size v n xs) (hO : Only lo W W') (he : keepObj (.cells #[] e (0, 0)) = false) : W'.ownsRow base e size v n xs := by
  obtain ⟨hl, h⟩ := h
  refine ⟨hl, ?_⟩
  rcases h with h | ⟨g, cap, cur, hv, hb, hc, rest⟩
  · exact .inl h
  · exact .inr ⟨g, cap, cur, hv, hb, hO.keep _ _ hc (.inl he), rest⟩
/-- how a round of the caller's ends -/
def rgPost (n0 : Nat) (I : List Nat → World → Prop) (Ix : Code → List Nat → World → Prop) (pre : List Nat) (W : World) : Exit → Act → World → Prop
  | .normal, _, W' => KT W W' ∧ Below n0 W W' ∧ I pre W'
  | .ret, _, W' => KT W W' ∧ Below n0 W W' ∧ Ix .ret pre W'
  | .exit id, _, W' => KT W W' ∧ Below n0 W W' ∧ Ix (.exit id) pre W'
  | _, _, _ => False

theorem rel1 {l : Nat} {fn : FuncId} {tmps : Array Value} {ps : Array Tmp} {assign body : Code} {D : Nat} {st : LoopState} {pe : Option Code} : keepObj (.loop (recOf fn tmps ps assign body D st pe)) = true := rfl

theorem wp_ring_range {n : Nat} {g : Operand} {ps : Array Tmp} {assign body : Code} {Q : Exit → Act → World → Prop} {a : Act} {w : World} {br bk rb gp c n0 : Nat} (P : List Pt) (key : ByteArray)
    (hg : a.eval g = .func (.func 48) #[] #[.pointer (some ⟨br, 0, none⟩), .pointer (some ⟨bk, 0, none⟩)])
    (hP0 : P ≠ []) (hP : P.length ≤ 1000000) (hn : ∀ i, i < P.length → (P.getD i Rg.d0).node < 64) (hr : Rg.Rising P) (hk : key.size ≤ 281474976710656)
    (hbr : w.heap[br]? = some (.cells #[.pointer (some ⟨rb, 0, none⟩)] 26 (0, 0))) (hbk : w.heap[bk]? = some (.cells #[.string key] 9 (0, 0)))
    (hp : w.cell? ⟨rb, 1, none⟩ = some (.slice (some ⟨gp, 0, none⟩) P.length c)) (hpts : PtsAt w gp P) (ht : TableOk w)
    (hrb : rb < n0) (hgp : gp < n0) (h00 : 0 < n0) (hn0 : n0 ≤ w.heap.size) (hps : ps.size = 1)
    (I : List Nat → World → Prop) (Ix : Code → List Nat → World → Prop) (hI : ∀ pre W W', I pre W → Only w.heap.size W W' → I pre W') (hIx : ∀ c pre W W', Ix c pre W → Only w.heap.size W W' → Ix c pre W')
    (h0 : I [] w) (a₁ : Nat → Act)
    (hassign : ∀ (l : Nat) (x : Nat) (W : World) (K : Act → World → Prop), K (a₁ x) W →
      assign.wpIn (Fence.wide.inRound l) 4 Tryd.prog (Exit.then K (fun _ _ _ => False)) { tmps := (ps.zip #[.int .i64 (x : Nat)]).foldl (fun t (p, v) => t.setIfInBounds p v) a.tmps, defers := [] } W)
    (hbody : ∀ (l : Nat) (pre : List Nat) (x : Nat) (W : World), I pre W → pre ++ [x] <+: Rg.met P (ptS key) → Below n0 w W →
      body.wpIn (Fence.wide.inRound l) 4 Tryd.prog (rgPost n0 I Ix (pre ++ [x]) W) (a₁ x) W)
    (hdone : ∀ W : World, I (Rg.met P (ptS key)) W → Below n0 w W → W.heap[w.heap.size]? = some (.deferred (some [])) → Q .normal { a with defers := { target := .collected w.heap.size, args := #[] } :: a.defers } W)
    (hstop : ∀ (cd : Code) (pre : List Nat) (x : Nat) (W : World), pre ++ [x] <+: Rg.met P (ptS key) → Ix cd (pre ++ [x]) W → Below n0 w W → W.heap[w.heap.size]? = some (.deferred (some [])) →
      cd.wpIn Fence.wide n Tryd.prog Q { a with defers := { target := .collected w.heap.size, args := #[] } :: a.defers } W) :
    (Code.rangeFunc g ps assign body).wpIn Fence.wide n Tryd.prog Q a w := by
  refine rangeFunc_wide hg (enters_of Tryd.func48 (by kernel_rfl) rfl) ?_
  intro fn
  obtain ⟨W1, hW1⟩ : ∃ W1, (w.alloc (.deferred (some []))).alloc (.loop (recOf fn a.tmps ps assign body w.heap.size .ready none)) = W1 := ⟨_, rfl⟩
  rw [hW1]
  have hB1 : Below w.heap.size w W1 := by rw [← hW1]; exact ((Below.refl _ _).alloc (Nat.le_refl _) _).alloc (by simp) _
  have hz1 : W1.heap.size = w.heap.size + 2 := by rw [← hW1]; simp
  have hD1 : W1.heap[w.heap.size]? = some (.deferred (some [])) := by rw [← hW1, Below.heap_alloc _ _ _ (by simp)]; exact heap_alloc_new _ _
  have hL1 : W1.heap[w.heap.size + 1]? = some (.loop (recOf fn a.tmps ps assign body w.heap.size .ready none)) := by
    rw [← hW1]; have := heap_alloc_new (w.alloc (.deferred (some []))) (.loop (recOf fn a.tmps ps assign body w.heap.size .ready none)); rwa [World.size_alloc] at this
  -- what stays
  have lt_of : ∀ {W : World} {k : Nat} {o : Obj}, W.heap[k]? = some o → k < W.heap.size := fun h => block_lt_of_heap h
  refine (from1_any P key (w.heap.size + 1) br bk rb gp c hP0 hP hn hr hk
    (fun pre W => I pre W ∧ Below n0 w W ∧ W.heap[w.heap.size + 1]? = some (.loop (recOf fn a.tmps ps assign body w.heap.size .ready none)) ∧ W.heap[w.heap.size]? = some (.deferred (some [])) ∧
      W.heap[br]? = some (.cells #[.pointer (some ⟨rb, 0, none⟩)] 26 (0, 0)) ∧ W.heap[bk]? = some (.cells #[.string key] 9 (0, 0)))
    (fun pre W => ∃ cd, Ix cd pre W ∧ Below n0 w W ∧ W.heap[w.heap.size + 1]? = some (.loop (recOf fn a.tmps ps assign body w.heap.size .done (some cd))) ∧ W.heap[w.heap.size]? = some (.deferred (some [])))
    W1 ?_ ?_ ?_ ?_ ?_).mono ?_
  · rintro pre W ⟨_, hB, _, _, hbr', hbk'⟩
    exact ⟨by rw [cellAt hbr']; rfl, by rw [cellAt hbk']; rfl, (hB.cell (p := ⟨rb, 1, none⟩) hrb).trans hp, hpts.below hB hgp, by have := hB.size; omega,
      ⟨Nat.lt_of_lt_of_le ht.1 hB.size, fun j hj => (hB.cell (p := ⟨_, j, none⟩) h00).trans (ht.2 j hj)⟩⟩
  · rintro pre W W' ⟨hi, hB, hl, hd, hbr', hbk'⟩ hb
    exact ⟨hI _ _ _ hi (Only.of_below hb), hB.trans (hb.mono (by have := hB.size; omega)), (hb.block _ (lt_of hl)).trans hl, (hb.block _ (lt_of hd)).trans hd, (hb.block _ (lt_of hbr')).trans hbr', (hb.block _ (lt_of hbk')).trans hbk'⟩
  · rintro pre W b i v cs ⟨hi, hB, hl, hd, hbr', hbk'⟩ hb hcs
    have hne : ∀ {k : Nat} {o : Obj}, W.heap[k]? = some o → (∀ cs', o ≠ .cells cs' 85 (0, 0)) → k ≠ b := by
      rintro k o ho hn rfl
      rw [hcs] at ho; cases ho; exact hn _ rfl
    have hk85 : keepObj (.cells cs 85 (0, 0)) = true := rfl
    exact ⟨hI _ _ _ hi (Only.setCell hcs hk85 (by omega)), hB.setCell (show n0 ≤ b by omega) _, (heap_setCell_other _ _ _ _ (hne hl (fun _ h => by cases h))).trans hl, (heap_setCell_other _ _ _ _ (hne hd (fun _ h => by cases h))).trans hd,
      (heap_setCell_other _ _ _ _ (hne hbr' (fun _ h => by cases h))).trans hbr', (heap_setCell_other _ _ _ _ (hne hbk' (fun _ h => by cases h))).trans hbk'⟩
  · rintro pre x W ⟨hi, hB, hl, hd, hbr', hbk'⟩ hpx
    refine yieldAt_wide hl (by rw [hps]; rfl) (hassign _ x W _ ⟨hl, ?_⟩)
    have hO2 : Only w.heap.size W (W.putObj (w.heap.size + 1) (.loop (recOf fn a.tmps ps assign body w.heap.size .busy none))) := Only.putObj hl rfl (by omega)
    have hl2 : (W.putObj (w.heap.size + 1) (.loop (recOf fn a.tmps ps assign body w.heap.size .busy none))).heap[w.heap.size + 1]? = some (.loop (recOf fn a.tmps ps assign body w.heap.size .busy none)) := World.putObj_heap_same (lt_of hl)
    have hother : ∀ {k : Nat} {o : Obj}, k ≠ w.heap.size + 1 → W.heap[k]? = some o → (W.putObj (w.heap.size + 1) (.loop (recOf fn a.tmps ps assign body w.heap.size .busy none))).heap[k]? = some o := fun h ho => (World.putObj_heap_other h).trans ho
    have hbr1 : br < w.heap.size := lt_of hbr
    have hbk1 : bk < w.heap.size := lt_of hbk
    have hd2 := hother (by omega) hd
    have hbr2 := hother (by omega) hbr'
    have hbk2 := hother (by omega) hbk'
    have hB2 : Below n0 w (W.putObj (w.heap.size + 1) (.loop (recOf fn a.tmps ps assign body w.heap.size .busy none))) := hB.trans ((hO2.below (by have := hB.size; omega)).mono hn0)
    have hk2 : ∀ (cs : Array Value) (b : Nat), W.heap[b]? = some (Obj.cells cs 85 (0, 0)) → (W.putObj (w.heap.size + 1) (.loop (recOf fn a.tmps ps assign body w.heap.size .busy none))).heap[b]? = some (Obj.cells cs 85 (0, 0)) := by
      intro cs b h
      refine hother ?_ h
      rintro rfl; rw [hl] at h; cases h
    refine wpIn_mono (hbody _ pre x _ (hI _ _ _ hi hO2) hpx hB2) ?_
    generalize W.putObj (w.heap.size + 1) (.loop (recOf fn a.tmps ps assign body w.heap.size .busy none)) = W2 at *
    -- behind the body
    have fin : ∀ (jump : LoopState) (pe : Option Code) (W3 : World), KT W2 W3 → Below n0 W2 W3 →
        W3.heap[w.heap.size + 1]? = some (.loop (recOf fn a.tmps ps assign body w.heap.size .busy none)) ∧
        Only w.heap.size W3 (W3.putObj (w.heap.size + 1) (.loop (recOf fn a.tmps ps assign body w.heap.size jump pe))) ∧
        Below n0 w (W3.putObj (w.heap.size + 1) (.loop (recOf fn a.tmps ps assign body w.heap.size jump pe))) ∧
        (W3.putObj (w.heap.size + 1) (.loop (recOf fn a.tmps ps assign body w.heap.size jump pe))).heap[w.heap.size + 1]? = some (.loop (recOf fn a.tmps ps assign body w.heap.size jump pe)) ∧
        (W3.putObj (w.heap.size + 1) (.loop (recOf fn a.tmps ps assign body w.heap.size jump pe))).heap[w.heap.size]? = some (.deferred (some [])) ∧
        (W3.putObj (w.heap.size + 1) (.loop (recOf fn a.tmps ps assign body w.heap.size jump pe))).heap[br]? = some (.cells #[.pointer (some ⟨rb, 0, none⟩)] 26 (0, 0)) ∧
        (W3.putObj (w.heap.size + 1) (.loop (recOf fn a.tmps ps assign body w.heap.size jump pe))).heap[bk]? = some (.cells #[.string key] 9 (0, 0)) ∧
        (∀ (b : Nat) (cs : Array Value), W.heap[b]? = some (Obj.cells cs 85 (0, 0)) → (W3.putObj (w.heap.size + 1) (.loop (recOf fn a.tmps ps assign body w.heap.size jump pe))).heap[b]? = W.heap[b]?) := by
      intro jump pe W3 hK hB3
      have h3 := hK.keep _ _ hl2 rfl
      have hO3 : Only w.heap.size W3 (W3.putObj (w.heap.size + 1) (.loop (recOf fn a.tmps ps assign body w.heap.size jump pe))) := Only.putObj h3 rfl (by omega)
      have hsz : w.heap.size ≤ W3.heap.size := by have := lt_of h3; omega
      refine ⟨h3, hO3, (hB2.trans hB3).trans ((hO3.below hsz).mono hn0), World.putObj_heap_same (lt_of h3), (World.putObj_heap_other (by omega)).trans (hK.keep _ _ hd2 rfl),
        (World.putObj_heap_other (by omega)).trans (hK.keep _ _ hbr2 rfl), (World.putObj_heap_other (by omega)).trans (hK.keep _ _ hbk2 rfl), ?_⟩
      intro b cs hb
      refine ((World.putObj_heap_other ?_).trans (hK.keep _ _ (hk2 cs b hb) rfl)).trans hb.symm
      rintro rfl; rw [hl] at hb; cases hb
    rintro e a3 W3 hq
    cases e with
    | normal =>
      obtain ⟨hK, hB3, hi3⟩ := hq
      obtain ⟨h3, hO, hb, h4, h5, h6, h7, h8⟩ := fin .ready none W3 hK hB3
      exact ⟨h3, .inl ⟨rfl, hI _ _ _ hi3 hO, hb, h4, h5, h6, h7⟩, h8⟩
    | ret =>
      obtain ⟨hK, hB3, hi3⟩ := hq
      obtain ⟨h3, hO, hb, h4, h5, h6, h7, h8⟩ := fin .done (some .ret) W3 hK hB3
      exact ⟨h3, .inr ⟨rfl, .ret, hIx _ _ _ _ hi3 hO, hb, h4, h5⟩, h8⟩
    | exit id =>
      obtain ⟨hK, hB3, hi3⟩ := hq
      obtain ⟨h3, hO, hb, h4, h5, h6, h7, h8⟩ := fin .done (some (.exit id)) W3 hK hB3
      exact ⟨h3, .inr ⟨rfl, .exit id, hIx _ _ _ _ hi3 hO, hb, h4, h5⟩, h8⟩
    | goto t => exact hq.elim
    | panic ch => exact hq.elim
    | outgrown => exact hq.elim
  · exact ⟨hI _ _ _ h0 (Only.of_below hB1), hB1.mono hn0, hL1, hD1, (hB1.block _ (lt_of hbr)).trans hbr, (hB1.block _ (lt_of hbk)).trans hbk⟩
  · rintro e W2 ⟨⟨v, rfl⟩, (⟨hi, hB, hl, hd, _, _⟩ | ⟨pre, x, hpx, cd, hi, hB, hl, hd⟩)⟩
    · have hO : Only w.heap.size W2 (W2.putObj (w.heap.size + 1) (.loop (recOf fn a.tmps ps assign body w.heap.size .exhausted none))) := Only.putObj hl rfl (by omega)
      exact ⟨⟨v, rfl⟩, .inl ⟨hl, hdone _ (hI _ _ _ hi hO) (hB.trans ((hO.below (by have := lt_of hl; omega)).mono hn0)) ((World.putObj_heap_other (by omega)).trans hd)⟩⟩
    · have hO : Only w.heap.size W2 (W2.putObj (w.heap.size + 1) (.loop (recOf fn a.tmps ps assign body w.heap.size .exhausted (some cd)))) := Only.putObj hl rfl (by omega)
      exact ⟨⟨v, rfl⟩, .inr ⟨cd, hl, hstop cd pre x _ hpx (hIx _ _ _ _ hi hO) (hB.trans ((hO.below (by have := lt_of hl; omega)).mono hn0)) ((World.putObj_heap_other (by omega)).trans hd)⟩⟩
end Go.Proofs.YtphhafaoccfdpaaDoor
