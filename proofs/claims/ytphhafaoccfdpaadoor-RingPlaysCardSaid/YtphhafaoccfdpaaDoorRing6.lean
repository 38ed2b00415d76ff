/- Walks: rings without points, no ring. -/
import Derived.Test.YtphhafaoccfdpaaDoorRing5
namespace Go.Proofs.YtphhafaoccfdpaaDoor
open Go.RowKit Go.Shelf
open Go.Proofs
set_option maxHeartbeats 800000
set_option maxRecDepth 100000
open Rg (Pt)
attribute [local go_sem] Oper.semAt_some

theorem from1_nilptr (l br bk : Nat) (w : World) (h : w.cell? ⟨br, 0, none⟩ = some (.pointer none)) :
    Calls Tryd.prog 48 #[.func (.yield l) #[] #[], .pointer (some ⟨br, 0, none⟩), .pointer (some ⟨bk, 0, none⟩)] w fun e W' => (∃ v, e = .returned v) ∧ Below w.heap.size w W' := by
  go_enter Tryd.func48, Tryd.ntmps48
  go_wp2
  refine bodyPost_ret (results_none rfl _ _ _) rfl ?_
  exact ⟨⟨_, rfl⟩, Below.refl _ _⟩

abbrev RS0 (w : World) (br bk rb : Nat) (key : ByteArray) (W' : World) : Prop :=
  Hid (Below w.heap.size w W') ∧ W'.cell? ⟨br, 0, none⟩ = some (.pointer (some ⟨rb, 0, none⟩)) ∧ W'.cell? ⟨bk, 0, none⟩ = some (.string key) ∧ W'.cell? ⟨rb, 1, none⟩ = some (.slice none 0 0)
theorem RS0.ext {w : World} {br bk rb : Nat} {key : ByteArray} {W W' : World} (h : RS0 w br bk rb key W) (hB : Below W.heap.size W W') : RS0 w br bk rb key W' :=
  ⟨h.1.out.trans (hB.mono h.1.out.size), (hB.cell (p := ⟨br, 0, none⟩) (block_lt_of_cell h.2.1)).trans h.2.1, (hB.cell (p := ⟨bk, 0, none⟩) (block_lt_of_cell h.2.2.1)).trans h.2.2.1, (hB.cell (p := ⟨rb, 1, none⟩) (block_lt_of_cell h.2.2.2)).trans h.2.2.2⟩
theorem RS0.tab {w : World} {br bk rb : Nat} {key : ByteArray} {W : World} (h : RS0 w br bk rb key W) (ht : TableOk w) : TableOk W := ht.below h.1.out (Nat.le_refl _)

theorem from1_empty (key : ByteArray) (l br bk rb : Nat) (hk : key.size ≤ 281474976710656) (w : World) (c1 : w.cell? ⟨br, 0, none⟩ = some (.pointer (some ⟨rb, 0, none⟩))) (c2 : w.cell? ⟨bk, 0, none⟩ = some (.string key)) (c3 : w.cell? ⟨rb, 1, none⟩ = some (.slice none 0 0)) (ht : TableOk w) :
    Calls Tryd.prog 48 #[.func (.yield l) #[] #[], .pointer (some ⟨br, 0, none⟩), .pointer (some ⟨bk, 0, none⟩)] w fun e W' => (∃ v, e = .returned v) ∧ Below w.heap.size w W' := by
  replace ht := Lib.hid ht
  go_enter Tryd.func48, Tryd.ntmps48
  go_wp2
  go_region_held3 (fun W' => Hid (Below w.heap.size w W') ∧ W'.cell? ⟨br, 0, none⟩ = some (.pointer (some ⟨rb, 0, none⟩)) ∧ W'.cell? ⟨bk, 0, none⟩ = some (.string key) ∧ W'.cell? ⟨rb, 1, none⟩ = some (.slice none 0 0))
    (first
      | assumption
      | exact ⟨((Below.refl _ _).drew : Below w.heap.size w w.drew), c1, c2, c3⟩
      | exact RS0.ext (by assumption) (Below.alloc (Below.refl _ _) (Nat.le_refl _) _))
    (first
      | (go_at_call 27; refine (Point_any key _ _ _ hk (by simp) (RS0.tab (by assumption) ht.out)).mono ?_; rintro e W1 ⟨rfl, h0⟩; have hS1 := RS0.ext (by assumption) h0; clear h0)
      | (go_at_call 49; refine (search_nil (ptS key) _).mono ?_; rintro e W2 ⟨⟨b, rfl⟩, rfl⟩))
  rename_i hS
  obtain ⟨hB, d1, d2, d3⟩ := hS
  go_wp2_with (refine wpListAllocAbs 6 rfl rfl 85 rfl (.agg (bls (Rg.bools []))) zero_bls ?_; intro W3 h0; have hS3 : RS0 w br bk rb key W3 := (by rw [← h0]; exact RS0.ext ⟨hB, d1, d2, d3⟩ (Below.alloc (Below.refl _ _) (Nat.le_refl _) _)); obtain ⟨hB3, e1, e2, e3⟩ := hS3; clear h0)
  go_loop [7, 8, 27] (fun _ _ i => i = .int .i64 0) (fun _ _ _ => 0)
  case atStart => exact rfl
  case round =>
    obtain rfl := hrel
    go_wp2
    go_end0
    exact ⟨⟨_, rfl⟩, hB3.out⟩

/-- a range over no nodes -/
theorem wp_ring_none {n : Nat} {g : Operand} {ps : Array Tmp} {assign body : Code} {Q : Exit → Act → World → Prop} {a : Act} {w : World} {br bk : Nat}
    (hg : a.eval g = .func (.func 48) #[] #[.pointer (some ⟨br, 0, none⟩), .pointer (some ⟨bk, 0, none⟩)])
    (hc : ∀ W, Below w.heap.size w W → ∀ l, Calls Tryd.prog 48 #[.func (.yield l) #[] #[], .pointer (some ⟨br, 0, none⟩), .pointer (some ⟨bk, 0, none⟩)] W fun e W' => (∃ v, e = .returned v) ∧ Below W.heap.size W W')
    (hdone : ∀ W : World, Below w.heap.size w W → W.heap[w.heap.size]? = some (.deferred (some [])) → Q .normal { a with defers := { target := .collected w.heap.size, args := #[] } :: a.defers } W) :
    (Code.rangeFunc g ps assign body).wpIn Fence.wide n Tryd.prog Q a w := by
  refine rangeFunc_wide hg (enters_of Tryd.func48 (by kernel_rfl) rfl) ?_
  intro fn
  obtain ⟨W1, hW1⟩ : ∃ W1, (w.alloc (.deferred (some []))).alloc (.loop (recOf fn a.tmps ps assign body w.heap.size .ready none)) = W1 := ⟨_, rfl⟩
  rw [hW1]
  have hB1 : Below w.heap.size w W1 := by rw [← hW1]; exact ((Below.refl _ _).alloc (Nat.le_refl _) _).alloc (by simp) _
  have hz1 : W1.heap.size = w.heap.size + 2 := by rw [← hW1]; simp
  have hD1 : W1.heap[w.heap.size]? = some (.deferred (some [])) := by rw [← hW1, Below.heap_alloc _ _ _ (by simp)]; exact heap_alloc_new _ _
  have hL1 : W1.heap[w.heap.size + 1]? = some (.loop (recOf fn a.tmps ps assign body w.heap.size .ready none)) := by
    rw [← hW1]; have := heap_alloc_new (w.alloc (.deferred (some []))) (.loop (recOf fn a.tmps ps assign body w.heap.size .ready none)); rwa [World.size_alloc] at this
  refine (hc W1 hB1 _).mono ?_
  rintro e W2 ⟨⟨v, rfl⟩, hB2⟩
  refine ⟨⟨v, rfl⟩, .inl ⟨(hB2.block _ (by omega)).trans hL1, hdone _ (belowPutObj (hB1.trans (hB2.mono (by omega))) (by omega) _) ((World.putObj_heap_other (by omega)).trans ((hB2.block _ (by omega)).trans hD1))⟩⟩
/-- no ring, or one without points -/
def NoRing (w : World) (pr : Option Addr) : Prop := pr = none ∨ ∃ rb vn, pr = some ⟨rb, 0, none⟩ ∧ w.heap[rb]? = some (.cells #[vn, .slice none 0 0] 34 (0, 0))
theorem from1_no (pr : Option Addr) (key : ByteArray) (l br bk : Nat) (hk : key.size ≤ 281474976710656) (w0 w W : World) (h : NoRing w0 pr) (hB0 : Below w0.heap.size w0 w) (ht : TableOk w0)
    (hbr : w.heap[br]? = some (.cells #[.pointer pr] 26 (0, 0))) (hbk : w.heap[bk]? = some (.cells #[.string key] 9 (0, 0))) (hB : Below w.heap.size w W) :
    Calls Tryd.prog 48 #[.func (.yield l) #[] #[], .pointer (some ⟨br, 0, none⟩), .pointer (some ⟨bk, 0, none⟩)] W fun e W' => (∃ v, e = .returned v) ∧ Below W.heap.size W W' := by
  have hbr' := (hB.block _ (block_lt_of_heap hbr)).trans hbr
  have hbk' := (hB.block _ (block_lt_of_heap hbk)).trans hbk
  have hBW := hB0.trans (hB.mono hB0.size)
  rcases h with rfl | ⟨rb, vn, rfl, hr⟩
  · exact from1_nilptr l br bk W (by rw [cellAt hbr']; rfl)
  · exact from1_empty key l br bk rb hk W (by rw [cellAt hbr']; rfl) (by rw [cellAt hbk']; rfl) (by rw [cellAt ((hBW.block _ (block_lt_of_heap hr)).trans hr)]; rfl) (ht.below hBW (Nat.le_refl _))

theorem Owner_no (pr : Option Addr) (key : ByteArray) (w : World) (h : NoRing w pr) (hk : key.size ≤ 281474976710656) (ht : TableOk w) :
    Calls Tryd.prog 12 #[.pointer pr, .string key] w fun e w' => e = .returned (firstV none) ∧ Below w.heap.size w w' := by
  replace h := Lib.hid h
  replace ht := Lib.hid ht
  refine callsIn_wide.1 (callsIn_of_wp_marks (n := 6) Tryd.func12 rfl trivial ?_ rfl)
  simp only [Tryd.ntmps12, List.size_toArray, List.length_cons, List.length_nil, Nat.reduceAdd, Nat.reduceSub, Array.replicate_succ, Array.replicate_zero, List.push_toArray, List.append_toArray, List.nil_append, List.cons_append]
  refine wpIn_wide.2 ?_
  go_wp2
  generalize hW4 : World.alloc _ (Obj.cells #[Value.string key] _) = W4
  obtain ⟨g0, g1, g2, g3, hB4, z4⟩ := heap4 w (.cells #[.int .i64 0] 3) (.cells #[.bool false] 4) (.cells #[.pointer pr] 26) (.cells #[.string key] 9)
  rw [hW4] at g0 g1 g2 g3 hB4 z4
  clear hW4
  have hz5 : w.heap.size + 4 ≤ W4.heap.size := by omega
  clear z4
  refine wpIn_wide.1 (wp_ring_none (n := 6) (br := w.heap.size + 2) (bk := w.heap.size + 3) rfl (fun W hB l => from1_no pr key l _ _ hk w W4 W h.out hB4 ht.out g2 g3 hB) ?_)
  intro W hB hK
  have h1 := (hB.block _ (by omega)).trans g0
  have h2 := (hB.block _ (by omega)).trans g1
  have c1 := cellAt h1 0
  have c2 := cellAt h2 0
  have f1 := freeAt h1 0
  have f2 := freeAt h2 0
  simp at c1 c2
  go_wp2
  have e1 := heap_setCell_same W w.heap.size 0 _ _ (.int .i64 (-1)) h1
  have e2 : (W.setCell ⟨w.heap.size, 0, none⟩ (.int .i64 (-1))).heap[w.heap.size + 1]? = _ := (heap_setCell_other _ _ _ _ (by simp)).trans h2
  have e1' := (heap_setCell_other ((W.setCell ⟨w.heap.size, 0, none⟩ (.int .i64 (-1)))) ⟨w.heap.size + 1, 0, none⟩ w.heap.size (.bool false) (by simp)).trans e1
  have e2' := heap_setCell_same _ (w.heap.size + 1) 0 _ _ (.bool false) e2
  have hK' : ((W.setCell ⟨w.heap.size, 0, none⟩ (.int .i64 (-1))).setCell ⟨w.heap.size + 1, 0, none⟩ (.bool false)).heap[W4.heap.size]? = some (.deferred (some [])) :=
    ((heap_setCell_other _ _ _ _ (by simp; omega)).trans (heap_setCell_other _ _ _ _ (by simp; omega))).trans hK
  have hBe : Below w.heap.size w (((W.setCell ⟨w.heap.size, 0, none⟩ (.int .i64 (-1))).setCell ⟨w.heap.size + 1, 0, none⟩ (.bool false)).putObj W4.heap.size (.deferred none)) :=
    belowPutObj (((hB4.trans (hB.mono (by omega))).setCell (p := ⟨w.heap.size, 0, none⟩) (Nat.le_refl _) _).setCell (p := ⟨w.heap.size + 1, 0, none⟩) (Nat.le_succ _) _) (by omega) _
  generalize hW5 : (W.setCell ⟨w.heap.size, 0, none⟩ (.int .i64 (-1))).setCell ⟨w.heap.size + 1, 0, none⟩ (.bool false) = W5 at *
  have p1 : (W5.putObj W4.heap.size (.deferred none)).heap[w.heap.size]? = _ := (World.putObj_heap_other (by omega)).trans e1'
  have p2 : (W5.putObj W4.heap.size (.deferred none)).heap[w.heap.size + 1]? = _ := (World.putObj_heap_other (by omega)).trans e2'
  have q1 := cellAt p1 0
  have q2 := cellAt p2 0
  simp at q1 q2
  refine mark_leave (v := .tuple #[.int .i64 (-1), .bool false]) hK' ?_ ⟨rfl, hBe⟩
  simp [results, Tryd.results12, go_sem, q1, q2]

theorem First_no (pr : Option Addr) (key : ByteArray) (pa : Option Addr) (n c : Nat) (w : World) (h : NoRing w pr) (hk : key.size ≤ 281474976710656) (ht : TableOk w) :
    Calls Tryd.prog 11 #[.pointer pr, .string key, .slice pa n c] w fun e w' => e = .returned (firstV none) ∧ Below w.heap.size w w' := by
  replace h := Lib.hid h
  replace ht := Lib.hid ht
  refine callsIn_wide.1 (callsIn_of_wp_marks (n := 6) Tryd.func11 rfl trivial ?_ rfl)
  simp only [Tryd.ntmps11, List.size_toArray, List.length_cons, List.length_nil, Nat.reduceAdd, Nat.reduceSub, Array.replicate_succ, Array.replicate_zero, List.push_toArray, List.append_toArray, List.nil_append, List.cons_append]
  refine wpIn_wide.2 ?_
  go_wp2
  generalize hW4 : World.alloc _ (Obj.cells #[Value.string key] _) = W4
  obtain ⟨gv, g0, g1, g2, g3, hB4, z4⟩ := heap5 w (.cells #[.slice pa n c] 22) (.cells #[.int .i64 0] 3) (.cells #[.bool false] 4) (.cells #[.pointer pr] 26) (.cells #[.string key] 9)
  rw [hW4] at gv g0 g1 g2 g3 hB4 z4
  clear hW4
  have hz5 : w.heap.size + 5 ≤ W4.heap.size := by omega
  clear z4
  refine wpIn_wide.1 (wp_ring_none (n := 6) (br := w.heap.size + 3) (bk := w.heap.size + 4) rfl (fun W hB l => from1_no pr key l _ _ hk w W4 W h.out hB4 ht.out g2 g3 hB) ?_)
  intro W hB hK
  have h1 := (hB.block _ (by omega)).trans g0
  have h2 := (hB.block _ (by omega)).trans g1
  have c1 := cellAt h1 0
  have c2 := cellAt h2 0
  have f1 := freeAt h1 0
  have f2 := freeAt h2 0
  simp at c1 c2
  go_wp2
  have e1 := heap_setCell_same W (w.heap.size + 1) 0 _ _ (.int .i64 (-1)) h1
  have e2 : (W.setCell ⟨w.heap.size + 1, 0, none⟩ (.int .i64 (-1))).heap[w.heap.size + 1 + 1]? = _ := (heap_setCell_other _ _ _ _ (by simp)).trans h2
  have e1' := (heap_setCell_other ((W.setCell ⟨w.heap.size + 1, 0, none⟩ (.int .i64 (-1)))) ⟨w.heap.size + 1 + 1, 0, none⟩ (w.heap.size + 1) (.bool false) (by simp)).trans e1
  have e2' := heap_setCell_same _ (w.heap.size + 1 + 1) 0 _ _ (.bool false) e2
  have hK' : ((W.setCell ⟨w.heap.size + 1, 0, none⟩ (.int .i64 (-1))).setCell ⟨w.heap.size + 1 + 1, 0, none⟩ (.bool false)).heap[W4.heap.size]? = some (.deferred (some [])) :=
    ((heap_setCell_other _ _ _ _ (by simp; omega)).trans (heap_setCell_other _ _ _ _ (by simp; omega))).trans hK
  have hBe : Below w.heap.size w (((W.setCell ⟨w.heap.size + 1, 0, none⟩ (.int .i64 (-1))).setCell ⟨w.heap.size + 1 + 1, 0, none⟩ (.bool false)).putObj W4.heap.size (.deferred none)) :=
    belowPutObj (((hB4.trans (hB.mono (by omega))).setCell (p := ⟨w.heap.size + 1, 0, none⟩) (Nat.le_succ _) _).setCell (p := ⟨w.heap.size + 1 + 1, 0, none⟩) (by simp; omega) _) (by omega) _
  generalize hW5 : (W.setCell ⟨w.heap.size + 1, 0, none⟩ (.int .i64 (-1))).setCell ⟨w.heap.size + 1 + 1, 0, none⟩ (.bool false) = W5 at *
  have p1 : (W5.putObj W4.heap.size (.deferred none)).heap[w.heap.size + 1]? = _ := (World.putObj_heap_other (by omega)).trans e1'
  have p2 : (W5.putObj W4.heap.size (.deferred none)).heap[w.heap.size + 1 + 1]? = _ := (World.putObj_heap_other (by omega)).trans e2'
  have q1 := cellAt p1 0
  have q2 := cellAt p2 0
  simp at q1 q2
  refine mark_leave (v := .tuple #[.int .i64 (-1), .bool false]) hK' ?_ ⟨rfl, hBe⟩
  simp [results, Tryd.results11, go_sem, q1, q2]

theorem Next_no (pr : Option Addr) (key : ByteArray) (most : Int) (w : World) (h : NoRing w pr) (hk : key.size ≤ 281474976710656) (ht : TableOk w) :
    Calls Tryd.prog 10 #[.pointer pr, .string key, .int .i64 most] w fun e w' => e = .returned (.slice none 0 0) ∧ Below w.heap.size w w' := by
  replace h := Lib.hid h
  replace ht := Lib.hid ht
  refine callsIn_wide.1 (callsIn_of_wp_marks (n := 6) Tryd.func10 rfl trivial ?_ rfl)
  simp only [Tryd.ntmps10, List.size_toArray, List.length_cons, List.length_nil, Nat.reduceAdd, Nat.reduceSub, Array.replicate_succ, Array.replicate_zero, List.push_toArray, List.append_toArray, List.nil_append, List.cons_append]
  refine wpIn_wide.2 ?_
  go_wp2
  generalize hW4 : World.alloc _ (Obj.cells #[Value.string key] _) = W4
  obtain ⟨g0, g1, g2, g3, hB4, z4⟩ := heap4 w (.cells #[.int .i64 most] 3) (.cells #[.slice none 0 0] 22) (.cells #[.pointer pr] 26) (.cells #[.string key] 9)
  rw [hW4] at g0 g1 g2 g3 hB4 z4
  clear hW4
  have hz5 : w.heap.size + 4 ≤ W4.heap.size := by omega
  clear z4
  refine wpIn_wide.1 (wp_ring_none (n := 6) (br := w.heap.size + 2) (bk := w.heap.size + 3) rfl (fun W hB l => from1_no pr key l _ _ hk w W4 W h.out hB4 ht.out g2 g3 hB) ?_)
  intro W hB hK
  have h2 := (hB.block _ (by omega)).trans g1
  have c2 := cellAt h2 0
  simp at c2
  have hBe : Below w.heap.size w (W.putObj W4.heap.size (.deferred none)) := (hB4.trans (hB.mono (by omega))).trans (belowPutObj (Below.refl _ _) (by omega) _)
  go_wp2
  refine mark_leave (v := .slice none 0 0) hK ?_ ⟨rfl, hBe⟩
  simp [results, Tryd.results10, go_sem]
end Go.Proofs.YtphhafaoccfdpaaDoor
