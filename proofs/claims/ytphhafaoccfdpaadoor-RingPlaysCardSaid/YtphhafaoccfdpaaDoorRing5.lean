/- Walks: Next. -/
import Derived.Test.YtphhafaoccfdpaaDoorRing4
import Derived.Maps.AppendAt
import Derived.RangeFuncBox
namespace Go.Proofs.YtphhafaoccfdpaaDoor
open Go.RowKit Go.Shelf
open Go.Proofs
set_option maxHeartbeats 800000
set_option maxRecDepth 100000
open Rg (Pt)
attribute [local go_sem] Oper.semAt_some

def iv (l : List Nat) : List Value := l.map fun (x : Nat) => Value.int .i64 (x : Int)
theorem info_int : (Tryd.prog.info? 3).map (fun i => (i.zero, i.size, i.bytes)) = some (some (.int .i64 0), 1, 8) := by kernel_rfl

theorem _root_.Go.World.ownsRow.mono_base {W : World} {b b' : Nat} {e : TypeId} {size : Nat} {v : Value} {n : Nat} {xs : List Value} (h : W.ownsRow b e size v n xs) (hb : b' ≤ b) : W.ownsRow b' e size v n xs := by
  obtain ⟨hl, h⟩ := h
  refine ⟨hl, ?_⟩
  rcases h with h | ⟨g, cap, cur, hv, hg, hc⟩
  · exact .inl h
  · exact .inr ⟨g, cap, cur, hv, by omega, hc⟩
theorem Next_any (P : List Pt) (rb gp c : Nat) (vn : Value) (key : ByteArray) (most : Int) (w : World) (h : IsRing w rb vn P gp c) (hk : key.size ≤ 281474976710656) (ht : TableOk w) :
    Calls Tryd.prog 10 #[.pointer (some ⟨rb, 0, none⟩), .string key, .int .i64 most] w fun e w' =>
      ∃ v, e = .returned v ∧ w'.ownsRow w.heap.size 3 1 v (Rg.nextOf (Rg.met P (ptS key)) most).length (iv (Rg.nextOf (Rg.met P (ptS key)) most)) ∧ Below w.heap.size w w' := by
  replace h := Lib.hid h
  replace ht := Lib.hid ht
  obtain ⟨i0, hi, hz0, hz1, hz2⟩ := info_parts info_int
  refine callsIn_wide.1 (callsIn_of_wp_marks (n := 6) Tryd.func10 rfl trivial ?_ rfl)
  simp only [Tryd.ntmps10, List.size_toArray, List.length_cons, List.length_nil, Nat.reduceAdd, Nat.reduceSub, Array.replicate_succ, Array.replicate_zero, List.push_toArray, List.append_toArray, List.nil_append, List.cons_append]
  refine wpIn_wide.2 ?_
  go_wp2
  generalize hW4 : World.alloc _ (Obj.cells #[Value.string key] _) = W4
  obtain ⟨g0, g1, g2, g3, hB4, z4⟩ := heap4 w (.cells #[.int .i64 most] 3) (.cells #[.slice none 0 0] 22) (.cells #[.pointer (some ⟨rb, 0, none⟩)] 26) (.cells #[.string key] 9)
  rw [hW4] at g0 g1 g2 g3 hB4 z4
  clear hW4
  have hz5 : w.heap.size + 4 ≤ W4.heap.size := by omega
  clear z4
  have R4 := h.out.below hB4 (Nat.le_refl _)
  refine wpIn_wide.1 (wp_ring_range (n := 6) (n0 := w.heap.size) (br := w.heap.size + 2) (bk := w.heap.size + 3) P key rfl R4.ne R4.le R4.node R4.rising hk g2 g3 (by rw [cellAt R4.blk]; rfl) R4.pts (ht.out.below hB4 (Nat.le_refl _))
    (block_lt_of_heap h.out.blk) h.out.lt ht.out.1 (by omega) rfl
    (fun pre W => (pre = [] ∨ (pre.length : Int) ≤ most) ∧ W.heap[w.heap.size]? = some (.cells #[.int .i64 most] 3 (0, 0)) ∧ ∃ v, W.heap[w.heap.size + 1]? = some (.cells #[v] 22 (0, 0)) ∧ W.ownsRow (w.heap.size + 4) 3 1 v pre.length (iv pre))
    (fun cd pre W => cd = .exit 0 ∧ ∃ (pre' : List Nat) (x : Nat), pre = pre' ++ [x] ∧ (pre' = [] ∨ (pre'.length : Int) ≤ most) ∧ most ≤ pre'.length ∧ ∃ v, W.heap[w.heap.size + 1]? = some (.cells #[v] 22 (0, 0)) ∧ W.ownsRow (w.heap.size + 4) 3 1 v pre'.length (iv pre'))
    ?_ ?_ ⟨.inl rfl, g0, _, g1, World.ownsRow_nil _ _ _ _⟩
    (fun x => { tmps := #[.pointer (some ⟨rb, 0, none⟩), .string key, .int .i64 most, undef, undef, .pointer (some ⟨w.heap.size, 0, none⟩), .slice none 0 0, .pointer (some ⟨w.heap.size + 1, 0, none⟩), .int .i64 (x : Nat), .pointer (some ⟨rb, 0, none⟩), .string key,
      .func (.func 48) #[] #[.pointer (some ⟨w.heap.size + 2, 0, none⟩), .pointer (some ⟨w.heap.size + 3, 0, none⟩)], .int .i64 (x : Nat), undef, undef, undef, undef, undef, undef, undef, undef, undef], defers := [] })
    ?_ ?_ ?_ ?_)
  · rintro pre W W' ⟨h0, h1, v, h2, h3⟩ hO
    exact ⟨h0, hO.keep _ _ h1 (.inl rfl), v, hO.keep _ _ h2 (.inl rfl), ownsRow_only h3 hO rfl⟩
  · rintro cd pre W W' ⟨rfl, pre', x, rfl, h0, h1, v, h2, h3⟩ hO
    exact ⟨rfl, pre', x, rfl, h0, h1, v, hO.keep _ _ h2 (.inl rfl), ownsRow_only h3 hO rfl⟩
  · intro l x W K hK
    gi_wp2
    exact hK
  · rintro l pre x W ⟨hn, h1, v, h2, hrow⟩ hpx hB
    have c1 := cellAt h1 0
    have c2 := cellAt h2 0
    have f2 := freeAt h2 0
    simp at c1 c2
    by_cases hlt : most ≤ pre.length
    · obtain ⟨hlen, (⟨rfl, h0⟩ | ⟨g, cap, cur, rfl, rest⟩)⟩ := id hrow
      · have hlt0 : most ≤ 0 := by omega
        replace h0 := Lib.hid h0
        replace hlen := Lib.hid hlen
        gi_wp2
        exact ⟨KT.refl _, Below.refl _ _, rfl, pre, x, rfl, hn, hlt, _, h2, hrow⟩
      · replace hlen := Lib.hid hlen
        replace rest := Lib.hid rest
        gi_wp2
        exact ⟨KT.refl _, Below.refl _ _, rfl, pre, x, rfl, hn, hlt, _, h2, hrow⟩
    · have hpl : Hid (pre.length < 1000000) := by
        show _ < _
        have h1 := hpx.length_le
        have h2 := Rg.met_length P (ptS key)
        have h3 := R4.le
        simp at h1; omega
      have hni : ¬ (pre.length : Int) ≥ most := by omega
      have hszW : w.heap.size + 4 ≤ W.heap.size := by have := hB.size; omega
      have fin : Hid (∀ (a : Act) (w1 : World) (g' cap' : Nat), w1.ownsRow (w.heap.size + 4) 3 1 (.slice (some ⟨g', 0, none⟩) (pre.length + 1) cap') (pre.length + 1) (iv pre ++ [.int .i64 (x : Nat)]) → (W.alloc (.cells #[.int .i64 (x : Nat)] 3)).grownBy w1 v.ownBlock →
          rgPost w.heap.size (fun pre W => (pre = [] ∨ (pre.length : Int) ≤ most) ∧ W.heap[w.heap.size]? = some (.cells #[.int .i64 most] 3 (0, 0)) ∧ ∃ v, W.heap[w.heap.size + 1]? = some (.cells #[v] 22 (0, 0)) ∧ W.ownsRow (w.heap.size + 4) 3 1 v pre.length (iv pre))
            (fun cd pre W => cd = .exit 0 ∧ ∃ (pre' : List Nat) (x : Nat), pre = pre' ++ [x] ∧ (pre' = [] ∨ (pre'.length : Int) ≤ most) ∧ most ≤ pre'.length ∧ ∃ v, W.heap[w.heap.size + 1]? = some (.cells #[v] 22 (0, 0)) ∧ W.ownsRow (w.heap.size + 4) 3 1 v pre'.length (iv pre'))
            (pre ++ [x]) W .normal a (w1.setCell ⟨w.heap.size + 1, 0, none⟩ (.slice (some ⟨g', 0, none⟩) (pre.length + 1) cap'))) := by
        intro a w1 g' cap' ho hg
        have e1 := grownOther hrow hg
        have e2 := e1 _ _ h2 (fun c h => by cases h)
        have m2 := heap_setCell_same w1 (w.heap.size + 1) 0 _ _ (.slice (some ⟨g', 0, none⟩) (pre.length + 1) cap') e2
        have hO : KT W w1 := ⟨fun k o hk hko => e1 k o hk (fun c h => by subst h; cases hko)⟩
        have hgb := grownBelow hrow hg hszW
        refine ⟨hO.trans (KT.setCell e2 rfl), (hgb.mono (by omega)).setCell (p := ⟨w.heap.size + 1, 0, none⟩) (Nat.le_succ _) _, .inr (by simp; omega), ?_, _, m2, ?_⟩
        · exact (heap_setCell_other _ _ _ _ (by simp)).trans ((hgb.block _ (by omega)).trans h1)
        · simp only [List.length_append, List.length_cons, List.length_nil, iv, List.map_append, List.map_cons, List.map_nil]
          exact ownsRow_setCell_below ho (by simp) _
      obtain ⟨hlen, (⟨rfl, h0⟩ | ⟨g, cap, cur, rfl, rest⟩)⟩ := id hrow
      · have hlt0 : ¬ most ≤ 0 := by omega
        replace h0 := Lib.hid h0
        replace hlen := Lib.hid hlen
        gi_wp2_with (gi_at_builtin; refine wpListIn_append_own _ rfl _ _ 22 rfl (w.heap.size + 4) 3 i0 (.int .i64 0) 1 8 (by kernel_rfl) hi hz0 hz1 hz2 rfl (by decide) (.slice none 0 0) pre.length (iv pre) rfl (hrow.alloc _) ⟨W.heap.size, 0, none⟩ 1 1 [.int .i64 (x : Nat)] rfl rfl (cell_one_new _ _ _) (by simp [Value.oneCell']) (by have := hpl.out; unfold maxLen; omega) (by have := hpl.out; omega) (by simp; omega) ?_; intro v' w1 hown' hgrow _; obtain ⟨g', cap', rfl⟩ := ownsRow_succ hown'; have c3 : w1.cell? ⟨w.heap.size + 1, 0, none⟩ = some (.slice none 0 0) := (by rw [cellAt (grownOther hrow hgrow _ _ h2 (fun c h => by cases h))]; rfl); have f3 := freeAt (grownOther hrow hgrow _ _ h2 (fun c h => by cases h)) 0; have hown' := Lib.hid hown'; have hgrow := Lib.hid hgrow; clear c1 c2 f2)
        exact fin.out ⟨#[], []⟩ w1 g' cap' hown'.out hgrow.out
      · replace hlen := Lib.hid hlen
        replace rest := Lib.hid rest
        gi_wp2_with (gi_at_builtin; refine wpListIn_append_own _ rfl _ _ 22 rfl (w.heap.size + 4) 3 i0 (.int .i64 0) 1 8 (by kernel_rfl) hi hz0 hz1 hz2 rfl (by decide) (.slice (some ⟨g, 0, none⟩) pre.length cap) pre.length (iv pre) rfl (hrow.alloc _) ⟨W.heap.size, 0, none⟩ 1 1 [.int .i64 (x : Nat)] rfl rfl (cell_one_new _ _ _) (by simp [Value.oneCell']) (by have := hpl.out; unfold maxLen; omega) (by have := hpl.out; omega) (by simp; omega) ?_; intro v' w1 hown' hgrow _; obtain ⟨g', cap', rfl⟩ := ownsRow_succ hown'; have c3 : w1.cell? ⟨w.heap.size + 1, 0, none⟩ = some (.slice (some ⟨g, 0, none⟩) pre.length cap) := (by rw [cellAt (grownOther hrow hgrow _ _ h2 (fun c h => by cases h))]; rfl); have f3 := freeAt (grownOther hrow hgrow _ _ h2 (fun c h => by cases h)) 0; have hown' := Lib.hid hown'; have hgrow := Lib.hid hgrow; clear c1 c2 f2)
        exact fin.out ⟨#[], []⟩ w1 g' cap' hown'.out hgrow.out
  · rintro W ⟨hn, h1, v, h2, hrow⟩ hB hK
    have c2 := cellAt h2 0
    simp at c2
    have hr : Hid (Rg.nextOf (Rg.met P (ptS key)) most = Rg.met P (ptS key)) := Rg.nextOf_all hn
    have hrow' := Lib.hid hrow
    have hBe : Below w.heap.size w (W.putObj W4.heap.size (.deferred none)) := (hB4.trans hB).trans (belowPutObj (Below.refl _ _) (by omega) _)
    clear hrow
    go_wp2
    refine mark_leave (v := v) hK ?_ ?_
    · simp [results, Tryd.results10, go_sem]
    · refine ⟨v, rfl, ?_, hBe⟩
      rw [hr.out]; exact (ownsRow_only hrow'.out (Only.putObj (lo := 0) hK rfl (by omega)) rfl).mono_base (by omega)
  · rintro cd pre x W hpx ⟨rfl, pre', x', hx', hn, hm, v, h2, hrow⟩ hB hK
    obtain ⟨rfl, hxx⟩ := List.append_inj' hx' rfl
    have c2 := cellAt h2 0
    simp at c2
    have hr : Hid (Rg.nextOf (Rg.met P (ptS key)) most = pre) := Rg.nextOf_some hpx hn hm
    have hrow' := Lib.hid hrow
    have hBe : Below w.heap.size w (W.putObj W4.heap.size (.deferred none)) := (hB4.trans hB).trans (belowPutObj (Below.refl _ _) (by omega) _)
    clear hrow hn hm hx' hxx
    gi_wp2
    go_wp2
    refine mark_leave (v := v) hK ?_ ?_
    · simp [results, Tryd.results10, go_sem]
    · refine ⟨v, rfl, ?_, hBe⟩
      rw [hr.out]; exact (ownsRow_only hrow'.out (Only.putObj (lo := 0) hK rfl (by omega)) rfl).mono_base (by omega)
end Go.Proofs.YtphhafaoccfdpaaDoor
