/- Walks: AppendSeq, Collect, Sorted. -/
import Derived.Test.YtphhafaoccfdpaaDoorNew1
import Derived.Deep.DeepMust
namespace Go.Proofs.YtphhafaoccfdpaaDoor
open Go.RowKit Go.Shelf
open Go.Proofs
set_option maxHeartbeats 800000
set_option maxRecDepth 100000
attribute [local go_sem] Oper.semAt_some

def SeqR (fn : FuncId) (tmps : Array Value) (ps : Array Tmp) (assign body : Code) (D : Nat) (w : World) (l : List Int) (e : Ending) (W' : World) : Prop :=
  (e = .returned (.bool true) ∧ (Below w.heap.size w W' ∧ W'.heap[D + 1]? = some (.loop (recOf fn tmps ps assign body D .ready none)) ∧ W'.heap[D]? = some (.deferred (some [])) ∧ ∃ r, W'.heap[w.heap.size]? = some (.cells #[r] 22 (0, 0)) ∧ W'.ownsRow (w.heap.size + 1) 3 1 r l.length (ivI l))) ∨ (e = .returned (.bool false) ∧ False)
theorem seqFin {fn : FuncId} {tmps : Array Value} {ps : Array Tmp} {assign body : Code} {D : Nat} {w W2 : World} {r : Value} {pre : List Int} {x : Int} (hD : w.heap.size + 1 ≤ D) (hB2 : Below w.heap.size w W2)
    (hl2 : W2.heap[D + 1]? = some (.loop (recOf fn tmps ps assign body D .busy none))) (hd2 : W2.heap[D]? = some (.deferred (some []))) (hr2 : W2.heap[w.heap.size]? = some (.cells #[r] 22 (0, 0)))
    (hrow2 : W2.ownsRow (w.heap.size + 1) 3 1 r pre.length (ivI pre)) (hsz2' : w.heap.size + 1 ≤ W2.heap.size) (a : Act) (w1 : World) (g' cap' : Nat)
    (ho : w1.ownsRow (w.heap.size + 1) 3 1 (.slice (some ⟨g', 0, none⟩) (pre.length + 1) cap') (pre.length + 1) (ivI pre ++ [.int .i64 x])) (hg : (W2.alloc (.cells #[.int .i64 x] 3)).grownBy w1 r.ownBlock) :
    rPost (D + 1) (recOf fn tmps ps assign body D) (SeqR fn tmps ps assign body D w (pre ++ [x]))
      .normal a (w1.setCell ⟨w.heap.size, 0, none⟩ (.slice (some ⟨g', 0, none⟩) (pre.length + 1) cap')) := by
  have e1 := grownOther hrow2 hg
  have e2 := e1 _ _ hr2 (fun c h => by cases h)
  have e3 := e1 _ _ hl2 (fun c h => by cases h)
  have e4 := e1 _ _ hd2 (fun c h => by cases h)
  have hgb := grownBelow hrow2 hg hsz2'
  have m2 := heap_setCell_same w1 w.heap.size 0 _ _ (.slice (some ⟨g', 0, none⟩) (pre.length + 1) cap') e2
  have m3 := (heap_setCell_other w1 ⟨w.heap.size, 0, none⟩ (D + 1) (.slice (some ⟨g', 0, none⟩) (pre.length + 1) cap') (by simp; omega)).trans e3
  have m4 := (heap_setCell_other w1 ⟨w.heap.size, 0, none⟩ D (.slice (some ⟨g', 0, none⟩) (pre.length + 1) cap') (by simp; omega)).trans e4
  have mo : (w1.setCell ⟨w.heap.size, 0, none⟩ (.slice (some ⟨g', 0, none⟩) (pre.length + 1) cap')).ownsRow (w.heap.size + 1) 3 1 (.slice (some ⟨g', 0, none⟩) (pre.length + 1) cap') (pre ++ [x]).length (ivI (pre ++ [x])) := by
    simp only [List.length_append, List.length_cons, List.length_nil, ivI, List.map_append, List.map_cons, List.map_nil]
    exact ownsRow_setCell_below ho (by simp) _
  have mB : Below w.heap.size w (w1.setCell ⟨w.heap.size, 0, none⟩ (.slice (some ⟨g', 0, none⟩) (pre.length + 1) cap')) := (hB2.trans (hgb.mono (by omega))).setCell (p := ⟨w.heap.size, 0, none⟩) (Nat.le_refl _) _
  generalize w1.setCell ⟨w.heap.size, 0, none⟩ (.slice (some ⟨g', 0, none⟩) (pre.length + 1) cap') = W5 at *
  have hO : Only 0 W5 (W5.putObj (D + 1) (.loop (recOf fn tmps ps assign body D .ready none))) := Only.putObj m3 rfl (by omega)
  exact ⟨m3, .inl ⟨rfl, belowPutObj mB (by omega) _, World.putObj_heap_same (block_lt_of_heap m3), (World.putObj_heap_other (by omega)).trans m4, _, (World.putObj_heap_other (by omega)).trans m2, ownsRow_only mo hO rfl⟩⟩

theorem AppendSeq_any (v : Value) (zs : List Int) (bx : Nat) (hz : zs.length ≤ 1000000) (w : World) (hc : w.cell? ⟨bx, 0, none⟩ = some v) (hv : SlInts w v zs) :
    Calls Tryd.prog 53 #[.slice none 0 0, .func (.func 41) #[] #[.pointer (some ⟨bx, 0, none⟩)]] w fun e w' =>
      ∃ r, e = .returned r ∧ w'.ownsRow w.heap.size 3 1 r zs.length (ivI zs) ∧ Below w.heap.size w w' := by
  have hbx := block_lt_of_cell hc
  replace hc := Lib.hid hc
  replace hv := Lib.hid hv
  obtain ⟨i0, hi, hy0, hy1, hy2⟩ := info_parts info_int
  refine callsIn_wide.1 (callsIn_of_wp_marks (n := 6) Tryd.func53 rfl trivial ?_ rfl)
  simp only [Tryd.ntmps53, List.size_toArray, List.length_cons, List.length_nil, Nat.reduceAdd, Nat.reduceSub, Array.replicate_succ, Array.replicate_zero, List.push_toArray, List.append_toArray, List.nil_append, List.cons_append]
  refine wpIn_wide.2 ?_
  go_wp2
  generalize hW4 : World.alloc _ _ = W4
  have g0 : W4.heap[w.heap.size]? = some (.cells #[.slice none 0 0] 22 (0, 0)) := by rw [← hW4]; exact heap_alloc_new _ _
  have hB4 : Below w.heap.size w W4 := by rw [← hW4]; exact (Below.refl _ _).alloc (Nat.le_refl _) _
  have z4 : w.heap.size + 1 ≤ W4.heap.size := by rw [← hW4]; simp
  clear hW4
  refine wpIn_wide.1 (rangeFunc_wide (n := 6) (gf := 41) (lb := #[.pointer (some ⟨bx, 0, none⟩)]) rfl (enters_of Tryd.func41 (by kernel_rfl) rfl) ?_)
  intro fn
  generalize hrec : recOf fn _ _ _ _ W4.heap.size = rec
  obtain ⟨W1, hW1⟩ : ∃ W1, (W4.alloc (.deferred (some []))).alloc (.loop (rec .ready none)) = W1 := ⟨_, rfl⟩
  rw [hW1]
  have hB1 : Below W4.heap.size W4 W1 := by rw [← hW1]; exact ((Below.refl _ _).alloc (Nat.le_refl _) _).alloc (by simp) _
  have hz1 : W1.heap.size = W4.heap.size + 2 := by rw [← hW1]; simp
  have hD1 : W1.heap[W4.heap.size]? = some (.deferred (some [])) := by rw [← hW1, Below.heap_alloc _ _ _ (by simp)]; exact heap_alloc_new _ _
  have hL1 : W1.heap[W4.heap.size + 1]? = some (.loop (rec .ready none)) := by
    rw [← hW1]; have := heap_alloc_new (W4.alloc (.deferred (some []))) (.loop (rec .ready none)); rwa [World.size_alloc] at this
  have hBw1 : Below w.heap.size w W1 := hB4.trans (hB1.mono (by omega))
  clear hW1
  refine (values1_any v zs (W4.heap.size + 1) bx hz
    (fun pre W => Below w.heap.size w W ∧ W.heap[W4.heap.size + 1]? = some (.loop (rec .ready none)) ∧ W.heap[W4.heap.size]? = some (.deferred (some [])) ∧ ∃ r, W.heap[w.heap.size]? = some (.cells #[r] 22 (0, 0)) ∧ W.ownsRow (w.heap.size + 1) 3 1 r pre.length (ivI pre))
    (fun _ _ => False) W1 ((hBw1.cell (p := ⟨bx, 0, none⟩) hbx).trans hc.out) (hv.out.below hBw1 (Nat.le_refl _)) (fun pre W h => hv.out.below h.1 (Nat.le_refl _)) ?_
    ⟨hBw1, hL1, hD1, _, (hB1.block _ (by omega)).trans g0, World.ownsRow_nil _ _ _ _⟩).mono ?_
  · rintro pre x W ⟨hB, hl, hd, r, hr, hrow⟩ hpx
    subst hrec
    refine YieldAt.mono (R := SeqR fn _ _ _ _ W4.heap.size w (pre ++ [x])) (yieldRound { tmps := #[.slice none 0 0, .func (.func 41) #[] #[.pointer (some ⟨bx, 0, none⟩)], .pointer (some ⟨w.heap.size, 0, none⟩), undef, .slice none 0 0, .int .i64 x, .func (.func 41) #[] #[.pointer (some ⟨bx, 0, none⟩)], .int .i64 x, undef, undef, undef, undef, undef], defers := [] } hl rfl ?_ ?_) (fun _ _ h => h)
    · intro K hK
      gi_wp2
      exact hK
    · intro W2 hl2 hot hsz2 hBl
      have hr2 := (hot w.heap.size (by omega)).trans hr
      have hd2 := (hot W4.heap.size (by omega)).trans hd
      have hB2 : Below w.heap.size w W2 := hB.trans (hBl _ (by omega))
      have hrow2 : W2.ownsRow (w.heap.size + 1) 3 1 r pre.length (ivI pre) := by
        obtain ⟨h1, (h2 | ⟨g, cap, cur, hv, hg, hcc, rest⟩)⟩ := hrow
        · exact ⟨h1, .inl h2⟩
        · refine ⟨h1, .inr ⟨g, cap, cur, hv, hg, (hot g ?_).trans hcc, rest⟩⟩
          rintro rfl; rw [hl] at hcc; cases hcc
      have hl2' := Lib.hid hl2
      have hsz2' : w.heap.size + 1 ≤ W2.heap.size := by have := hB2.size; have := block_lt_of_heap hr2; omega
      have hpl : Hid (pre.length < 1000000) := by
        show _ < _
        have h1 := hpx.length_le
        simp at h1; omega
      clear hot hBl hrow hr hd hl hB hsz2 hl2
      have c2 := cellAt hr2 0
      have f2 := freeAt hr2 0
      simp at c2
      obtain ⟨hlen, (⟨rfl, h0⟩ | ⟨g, cap, cur, rfl, rest⟩)⟩ := id hrow2
      · replace h0 := Lib.hid h0
        replace hlen := Lib.hid hlen
        gi_wp2_with (gi_at_builtin; go_must (refine wpListIn_append_own _ rfl _ _ 22 rfl (w.heap.size + 1) 3 i0 (.int .i64 0) 1 8 (by kernel_rfl) hi hy0 hy1 hy2 rfl (by decide) (.slice none 0 0) pre.length (ivI pre) rfl (hrow2.alloc _) ⟨W2.heap.size, 0, none⟩ 1 1 [.int .i64 x] rfl rfl (cell_one_new _ _ _) (by simp [Value.oneCell']) (by have := hpl.out; unfold maxLen; omega) (by have := hpl.out; omega) (by simp; omega) ?_; intro v' w1 hown' hgrow _; obtain ⟨g', cap', rfl⟩ := ownsRow_succ hown'; have c3 : w1.cell? ⟨w.heap.size, 0, none⟩ = some (.slice none 0 0) := (by rw [cellAt (grownOther hrow2 hgrow _ _ hr2 (fun c h => by cases h))]; rfl); have f3 := freeAt (grownOther hrow2 hgrow _ _ hr2 (fun c h => by cases h)) 0; have hown' := Lib.hid hown'; have hgrow := Lib.hid hgrow; clear c2 f2))
        exact seqFin z4 hB2 hl2'.out hd2 hr2 hrow2 hsz2' ⟨#[], []⟩ w1 g' cap' hown'.out hgrow.out
      · replace hlen := Lib.hid hlen
        replace rest := Lib.hid rest
        gi_wp2_with (gi_at_builtin; go_must (refine wpListIn_append_own _ rfl _ _ 22 rfl (w.heap.size + 1) 3 i0 (.int .i64 0) 1 8 (by kernel_rfl) hi hy0 hy1 hy2 rfl (by decide) (.slice (some ⟨g, 0, none⟩) pre.length cap) pre.length (ivI pre) rfl (hrow2.alloc _) ⟨W2.heap.size, 0, none⟩ 1 1 [.int .i64 x] rfl rfl (cell_one_new _ _ _) (by simp [Value.oneCell']) (by have := hpl.out; unfold maxLen; omega) (by have := hpl.out; omega) (by simp; omega) ?_; intro v' w1 hown' hgrow _; obtain ⟨g', cap', rfl⟩ := ownsRow_succ hown'; have c3 : w1.cell? ⟨w.heap.size, 0, none⟩ = some (.slice (some ⟨g, 0, none⟩) pre.length cap) := (by rw [cellAt (grownOther hrow2 hgrow _ _ hr2 (fun c h => by cases h))]; rfl); have f3 := freeAt (grownOther hrow2 hgrow _ _ hr2 (fun c h => by cases h)) 0; have hown' := Lib.hid hown'; have hgrow := Lib.hid hgrow; clear c2 f2))
        exact seqFin z4 hB2 hl2'.out hd2 hr2 hrow2 hsz2' ⟨#[], []⟩ w1 g' cap' hown'.out hgrow.out
  · rintro e W2 ⟨⟨v0, rfl⟩, (⟨hB, hl, hd, r, hr, hrow⟩ | ⟨pre, x, _, h⟩)⟩
    · refine ⟨⟨v0, rfl⟩, .inl ⟨hl, ?_⟩⟩
      have hO : Only 0 W2 (W2.putObj (W4.heap.size + 1) (.loop (rec .exhausted none))) := Only.putObj hl (by rw [← hrec]; rfl) (by omega)
      have hr3 := (World.putObj_heap_other (o := .loop (rec .exhausted none)) (show w.heap.size ≠ W4.heap.size + 1 by omega)).trans hr
      have hd3 := (World.putObj_heap_other (o := .loop (rec .exhausted none)) (show W4.heap.size ≠ W4.heap.size + 1 by omega)).trans hd
      have hrow3 := Lib.hid (ownsRow_only hrow hO rfl)
      have hB3 : Below w.heap.size w (W2.putObj (W4.heap.size + 1) (.loop (rec .exhausted none))) := belowPutObj hB (by omega) _
      generalize W2.putObj (W4.heap.size + 1) (.loop (rec .exhausted none)) = W3 at *
      clear hrow hO hr hd hl
      have c2 := cellAt hr3 0
      simp at c2
      have hBe : Below w.heap.size w (W3.putObj W4.heap.size (.deferred none)) := belowPutObj hB3 (by omega) _
      have hrow4 : Hid ((W3.putObj W4.heap.size (.deferred none)).ownsRow (w.heap.size + 1) 3 1 r zs.length (ivI zs)) := ownsRow_only hrow3.out (Only.putObj (lo := 0) hd3 rfl (by omega)) rfl
      go_wp2
      refine mark_leave (v := r) hd3 ?_ ?_
      · simp [results, Tryd.results53, go_sem]
      · exact ⟨r, rfl, hrow4.out.mono_base (by omega), hBe⟩
    · exact h.elim
theorem Collect_any (v : Value) (zs : List Int) (bx : Nat) (hz : zs.length ≤ 1000000) (w : World) (hc : w.cell? ⟨bx, 0, none⟩ = some v) (hv : SlInts w v zs) :
    Calls Tryd.prog 39 #[.func (.func 41) #[] #[.pointer (some ⟨bx, 0, none⟩)]] w fun e w' =>
      ∃ r, e = .returned r ∧ w'.ownsRow w.heap.size 3 1 r zs.length (ivI zs) ∧ Below w.heap.size w w' := by
  replace hc := Lib.hid hc
  replace hv := Lib.hid hv
  go_enter Tryd.func39, Tryd.ntmps39
  go_wp2_with (go_at_call 53; refine (AppendSeq_any v zs bx hz _ hc.out hv.out).mono ?_; rintro e w' ⟨r, rfl, h1, h2⟩; have h1' := Lib.hid h1; have h2' := Lib.hid h2; clear h1 h2)
  go_ret
  exact ⟨_, rfl, h1'.out, h2'.out⟩

end Go.Proofs.YtphhafaoccfdpaaDoor
