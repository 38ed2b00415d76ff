/- Walks: from, Owner, First, Next. -/
import Derived.Test.YtphhafaoccfdpaaDoorRing3
namespace Go.Proofs.YtphhafaoccfdpaaDoor
open Go.RowKit Go.Shelf
open Go.Proofs
set_option maxHeartbeats 800000
set_option maxRecDepth 100000
open Rg (Pt)
attribute [local go_sem] Oper.semAt_some

/-- a ring with points -/
structure IsRing (w : World) (rb : Nat) (vn : Value) (P : List Pt) (gp c : Nat) : Prop where
  blk : w.heap[rb]? = some (.cells #[vn, .slice (some ⟨gp, 0, none⟩) P.length c] 34 (0, 0))
  pts : PtsAt w gp P
  lt : gp < w.heap.size
  ne : P ≠ []
  le : P.length ≤ 1000000
  node : ∀ i, i < P.length → (P.getD i Rg.d0).node < 64
  rising : Rg.Rising P
theorem IsRing.below {w w' : World} {rb : Nat} {vn : Value} {P : List Pt} {gp c B : Nat} (h : IsRing w rb vn P gp c) (hB : Below B w w') (hb : w.heap.size ≤ B) : IsRing w' rb vn P gp c :=
  ⟨(hB.block _ (Nat.lt_of_lt_of_le (block_lt_of_heap h.blk) hb)).trans h.blk, h.pts.below hB (Nat.lt_of_lt_of_le h.lt hb), Nat.lt_of_lt_of_le h.lt hB.size, h.ne, h.le, h.node, h.rising⟩

theorem heap4 (w : World) (A B C D : Obj) : ((((w.alloc A).alloc B).alloc C).alloc D).heap[w.heap.size]? = some A ∧ ((((w.alloc A).alloc B).alloc C).alloc D).heap[w.heap.size + 1]? = some B ∧
    ((((w.alloc A).alloc B).alloc C).alloc D).heap[w.heap.size + 2]? = some C ∧ ((((w.alloc A).alloc B).alloc C).alloc D).heap[w.heap.size + 3]? = some D ∧ Below w.heap.size w ((((w.alloc A).alloc B).alloc C).alloc D) ∧ ((((w.alloc A).alloc B).alloc C).alloc D).heap.size = w.heap.size + 4 := by
  refine ⟨?_, ?_, ?_, ?_, ?_, by simp⟩
  · simp only [heapPush, World.size_alloc]; rw [if_neg (by omega), if_neg (by omega), if_neg (by omega)]; rfl
  · simp only [heapPush, World.size_alloc]; rw [if_neg (by omega), if_neg (by omega)]; rfl
  · simp only [heapPush, World.size_alloc]; rw [if_neg (by omega)]; rfl
  · simp only [heapPush, World.size_alloc]; rfl
  · exact ((((Below.refl _ w).alloc (Nat.le_refl _) _).alloc (by simp) _).alloc (by simp; omega) _).alloc (by simp; omega) _
theorem belowPutObj {B D : Nat} {a W : World} (h : Below B a W) (hD : B ≤ D) (o : Obj) : Below B a (W.putObj D o) :=
  ⟨h.os, h.tape, h.output, by simpa using h.size, fun k hk => (World.putObj_heap_other (by omega)).trans (h.block k hk)⟩
theorem mark_leave {P : Program} {n : Nat} {fn : Func} {tmps : Array Value} {R : Ending → World → Prop} {D : Nat} {W : World} {v : Value} (hK : W.heap[D]? = some (.deferred (some [])))
    (hr : (results fn tmps).run P (W.putObj D (.deferred none)) = .ok v (W.putObj D (.deferred none))) (hR : R (.returned v) (W.putObj D (.deferred none))) :
    LeavesInM Fence.wide n P fn tmps R [{ target := .collected D, args := #[] }] .returning W :=
  ⟨by simp, .inl ⟨_, _, rfl, run_takeDeferred hK, v, hr, hR⟩⟩
theorem Owner_any (P : List Pt) (rb gp c : Nat) (vn : Value) (key : ByteArray) (w : World) (h : IsRing w rb vn P gp c) (hk : key.size ≤ 281474976710656) (ht : TableOk w) :
    Calls Tryd.prog 12 #[.pointer (some ⟨rb, 0, none⟩), .string key] w fun e w' =>
      e = .returned (.tuple #[.int .i64 ((Rg.met P (ptS key)).headD 0 : Nat), .bool true]) ∧ Below w.heap.size w w' := by
  replace h := Lib.hid h
  replace ht := Lib.hid ht
  refine callsIn_wide.1 (callsIn_of_wp_marks (n := 6) Tryd.func12 rfl trivial ?_ rfl)
  simp only [Tryd.ntmps12, List.size_toArray, List.length_cons, List.length_nil, Nat.reduceAdd, Nat.reduceSub, Array.replicate_succ, Array.replicate_zero, List.push_toArray, List.append_toArray, List.nil_append, List.cons_append]
  refine wpIn_wide.2 ?_
  go_wp2
  generalize hW4 : World.alloc _ (Obj.cells #[Value.string key] _) = W4
  obtain ⟨g0, g1, g2, g3, hB4, z4⟩ := heap4 w (.cells #[.int .i64 0] 3) (.cells #[.bool false] 4) (.cells #[.pointer (some ⟨rb, 0, none⟩)] 26) (.cells #[.string key] 9)
  rw [hW4] at g0 g1 g2 g3 hB4 z4
  clear hW4
  have R4 := h.out.below hB4 (Nat.le_refl _)
  refine wpIn_wide.1 (wp_ring_range (n := 6) (n0 := w.heap.size) (br := w.heap.size + 2) (bk := w.heap.size + 3) P key rfl R4.ne R4.le R4.node R4.rising hk g2 g3 (by rw [cellAt R4.blk]; rfl) R4.pts (ht.out.below hB4 (Nat.le_refl _))
    (block_lt_of_heap h.out.blk) h.out.lt ht.out.1 (by omega) rfl
    (fun pre W => pre = [] ∧ W.heap[w.heap.size]? = some (.cells #[.int .i64 0] 3 (0, 0)) ∧ W.heap[w.heap.size + 1]? = some (.cells #[.bool false] 4 (0, 0)))
    (fun cd pre W => cd = .ret ∧ ∃ x : Nat, pre = [x] ∧ W.heap[w.heap.size]? = some (.cells #[.int .i64 x] 3 (0, 0)) ∧ W.heap[w.heap.size + 1]? = some (.cells #[.bool true] 4 (0, 0)))
    ?_ ?_ ⟨rfl, g0, g1⟩
    (fun x => { tmps := #[.pointer (some ⟨rb, 0, none⟩), .string key, undef, undef, .pointer (some ⟨w.heap.size, 0, none⟩), .pointer (some ⟨w.heap.size + 1, 0, none⟩), .int .i64 (x : Nat), .pointer (some ⟨rb, 0, none⟩), .string key,
      .func (.func 48) #[] #[.pointer (some ⟨w.heap.size + 2, 0, none⟩), .pointer (some ⟨w.heap.size + 3, 0, none⟩)], .int .i64 (x : Nat), undef], defers := [] })
    ?_ ?_ ?_ ?_)
  · rintro pre W W' ⟨rfl, h1, h2⟩ hO
    exact ⟨rfl, hO.keep _ _ h1 (.inl rfl), hO.keep _ _ h2 (.inl rfl)⟩
  · rintro cd pre W W' ⟨rfl, x, rfl, h1, h2⟩ hO
    exact ⟨rfl, x, rfl, hO.keep _ _ h1 (.inl rfl), hO.keep _ _ h2 (.inl rfl)⟩
  · intro l x W K hK
    gi_wp2
    exact hK
  · rintro l pre x W ⟨rfl, h1, h2⟩ hpx hB
    have c1 := cellAt h1 0
    have c2 := cellAt h2 0
    have f1 := freeAt h1 0
    have f2 := freeAt h2 0
    simp at c1 c2
    gi_wp2
    have e1 := heap_setCell_same W w.heap.size 0 _ _ (.int .i64 (x : Nat)) h1
    have e2 : (W.setCell ⟨w.heap.size, 0, none⟩ (.int .i64 (x : Nat))).heap[w.heap.size + 1]? = _ := (heap_setCell_other _ _ _ _ (by simp)).trans h2
    refine ⟨(KT.setCell h1 rfl).trans (KT.setCell e2 rfl), ((Below.refl w.heap.size W).setCell (p := ⟨w.heap.size, 0, none⟩) (Nat.le_refl _) _).setCell (p := ⟨w.heap.size + 1, 0, none⟩) (Nat.le_succ _) _, rfl, x, rfl, ?_, ?_⟩
    · exact (heap_setCell_other _ _ _ _ (by simp)).trans e1
    · exact heap_setCell_same _ _ 0 _ _ _ e2
  · rintro W ⟨he, _, _⟩ _ _
    exact absurd he (Rg.met_ne R4.ne _)
  · rintro cd pre x W hpx ⟨rfl, x', hx', h1, h2⟩ hB hK
    obtain rfl : pre = [] := by cases pre with | nil => rfl | cons y t => simp at hx'
    obtain rfl : x = x' := by simpa using hx'
    have hz := z4
    have p1 : (W.putObj W4.heap.size (.deferred none)).heap[w.heap.size]? = _ := (World.putObj_heap_other (by omega)).trans h1
    have p2 : (W.putObj W4.heap.size (.deferred none)).heap[w.heap.size + 1]? = _ := (World.putObj_heap_other (by omega)).trans h2
    have c1 := cellAt p1 0
    have c2 := cellAt p2 0
    have hBe : Below w.heap.size w (W.putObj W4.heap.size (.deferred none)) := (hB4.trans hB).trans (belowPutObj (Below.refl _ _) (by omega) _)
    simp at c1 c2
    gi_wp2
    refine mark_leave (v := .tuple #[.int .i64 (x : Nat), .bool true]) hK ?_ ⟨?_, hBe⟩
    · simp [results, Tryd.results12, go_sem, c1, c2]
    · obtain ⟨tl, htl⟩ := hpx
      rw [← htl]; rfl
theorem heap5 (w : World) (A B C D E : Obj) : (((((w.alloc A).alloc B).alloc C).alloc D).alloc E).heap[w.heap.size]? = some A ∧ (((((w.alloc A).alloc B).alloc C).alloc D).alloc E).heap[w.heap.size + 1]? = some B ∧
    (((((w.alloc A).alloc B).alloc C).alloc D).alloc E).heap[w.heap.size + 2]? = some C ∧ (((((w.alloc A).alloc B).alloc C).alloc D).alloc E).heap[w.heap.size + 3]? = some D ∧ (((((w.alloc A).alloc B).alloc C).alloc D).alloc E).heap[w.heap.size + 4]? = some E ∧
    Below w.heap.size w (((((w.alloc A).alloc B).alloc C).alloc D).alloc E) ∧ (((((w.alloc A).alloc B).alloc C).alloc D).alloc E).heap.size = w.heap.size + 5 := by
  obtain ⟨h0, h1, h2, h3, hB, hz⟩ := heap4 w A B C D
  refine ⟨?_, ?_, ?_, ?_, ?_, hB.alloc hB.size _, by simp⟩
  · rw [heapPush, if_neg (by rw [hz]; omega)]; exact h0
  · rw [heapPush, if_neg (by rw [hz]; omega)]; exact h1
  · rw [heapPush, if_neg (by rw [hz]; omega)]; exact h2
  · rw [heapPush, if_neg (by rw [hz]; omega)]; exact h3
  · rw [heapPush, if_pos (by rw [hz])]
/-- what First tells -/
def firstV : Option Nat → Value
  | some x => .tuple #[.int .i64 (x : Nat), .bool true]
  | none => .tuple #[.int .i64 (-1), .bool false]

theorem First_any (P : List Pt) (rb gp c : Nat) (vn : Value) (key : ByteArray) (va : Value) (zs : List Int) (hv1 : va.oneCell' = true) (hzl : zs.length ≤ 1000000) (w : World) (h : IsRing w rb vn P gp c) (hk : key.size ≤ 281474976710656) (ht : TableOk w) (hz : SlInts w va zs) :
    Calls Tryd.prog 11 #[.pointer (some ⟨rb, 0, none⟩), .string key, va] w fun e w' =>
      e = .returned (firstV (Rg.firstOf (Rg.met P (ptS key)) zs)) ∧ Below w.heap.size w w' := by
  replace h := Lib.hid h
  replace ht := Lib.hid ht
  obtain ⟨pa, ca, rfl, hz⟩ := hz
  replace hz := Lib.hid (show SlInts w (.slice pa zs.length ca) zs from ⟨pa, ca, rfl, hz⟩)
  refine callsIn_wide.1 (callsIn_of_wp_marks (n := 6) Tryd.func11 rfl trivial ?_ rfl)
  simp only [Tryd.ntmps11, List.size_toArray, List.length_cons, List.length_nil, Nat.reduceAdd, Nat.reduceSub, Array.replicate_succ, Array.replicate_zero, List.push_toArray, List.append_toArray, List.nil_append, List.cons_append]
  refine wpIn_wide.2 ?_
  go_wp2
  generalize hW4 : World.alloc _ (Obj.cells #[Value.string key] _) = W4
  obtain ⟨gv, g0, g1, g2, g3, hB4, z4⟩ := heap5 w (.cells #[.slice pa zs.length ca] 22) (.cells #[.int .i64 0] 3) (.cells #[.bool false] 4) (.cells #[.pointer (some ⟨rb, 0, none⟩)] 26) (.cells #[.string key] 9)
  rw [hW4] at gv g0 g1 g2 g3 hB4 z4
  clear hW4
  have hz5 : w.heap.size + 5 ≤ W4.heap.size := by omega
  clear z4
  have R4 := h.out.below hB4 (Nat.le_refl _)
  refine wpIn_wide.1 (wp_ring_range (n := 6) (n0 := w.heap.size) (br := w.heap.size + 3) (bk := w.heap.size + 4) P key rfl R4.ne R4.le R4.node R4.rising hk g2 g3 (by rw [cellAt R4.blk]; rfl) R4.pts (ht.out.below hB4 (Nat.le_refl _))
    (block_lt_of_heap h.out.blk) h.out.lt ht.out.1 (by omega) rfl
    (fun pre W => (∀ y ∈ pre, ((y : Nat) : Int) ∉ zs) ∧ W.heap[w.heap.size]? = some (.cells #[.slice pa zs.length ca] 22 (0, 0)) ∧ W.heap[w.heap.size + 1]? = some (.cells #[.int .i64 0] 3 (0, 0)) ∧ W.heap[w.heap.size + 2]? = some (.cells #[.bool false] 4 (0, 0)))
    (fun cd pre W => cd = .ret ∧ ∃ (pre' : List Nat) (x : Nat), pre = pre' ++ [x] ∧ (∀ y ∈ pre', ((y : Nat) : Int) ∉ zs) ∧ (x : Int) ∈ zs ∧ W.heap[w.heap.size + 1]? = some (.cells #[.int .i64 x] 3 (0, 0)) ∧ W.heap[w.heap.size + 2]? = some (.cells #[.bool true] 4 (0, 0)))
    ?_ ?_ ⟨by simp, gv, g0, g1⟩
    (fun x => { tmps := #[.pointer (some ⟨rb, 0, none⟩), .string key, .slice pa zs.length ca, undef, undef, .pointer (some ⟨w.heap.size, 0, none⟩), .pointer (some ⟨w.heap.size + 1, 0, none⟩), .pointer (some ⟨w.heap.size + 1 + 1, 0, none⟩), .int .i64 (x : Nat), .pointer (some ⟨rb, 0, none⟩), .string key,
      .func (.func 48) #[] #[.pointer (some ⟨w.heap.size + 3, 0, none⟩), .pointer (some ⟨w.heap.size + 4, 0, none⟩)], .int .i64 (x : Nat), undef, undef, undef, undef], defers := [] })
    ?_ ?_ ?_ ?_)
  · rintro pre W W' ⟨h0, h1, h2, h3⟩ hO
    exact ⟨h0, hO.keep _ _ h1 (.inl rfl), hO.keep _ _ h2 (.inl rfl), hO.keep _ _ h3 (.inl rfl)⟩
  · rintro cd pre W W' ⟨rfl, pre', x, rfl, hn, hx, h1, h2⟩ hO
    exact ⟨rfl, pre', x, rfl, hn, hx, hO.keep _ _ h1 (.inl rfl), hO.keep _ _ h2 (.inl rfl)⟩
  · intro l x W K hK
    gi_wp2
    exact hK
  · rintro l pre x W ⟨hn, hv, h1, h2⟩ hpx hB
    have c0 := cellAt hv 0
    have c1 := cellAt h1 0
    have c2 := cellAt h2 0
    have f1 := freeAt h1 0
    have f2 := freeAt h2 0
    simp at c0 c1 c2
    have hzW : SlInts W (.slice pa zs.length ca) zs := hz.out.below (hB4.trans hB) (Nat.le_refl _)
    replace hzW := Lib.hid hzW
    replace hn := Lib.hid hn
    by_cases hin : (x : Int) ∈ zs
    · gi_wp2_with (refine ⟨trivial, ?_⟩; gi_at_call 34; refine (CallsIn.inRound l (callsIn_wide.2 (Contains_any _ zs x W hzl hzW.out))).mono ?_; rintro e w' ⟨rfl, rfl⟩)
      have e1 := heap_setCell_same W (w.heap.size + 1) 0 _ _ (.int .i64 (x : Nat)) h1
      have e2 : (W.setCell ⟨w.heap.size + 1, 0, none⟩ (.int .i64 (x : Nat))).heap[w.heap.size + 1 + 1]? = _ := (heap_setCell_other _ _ _ _ (by simp)).trans h2
      refine ⟨(KT.setCell h1 rfl).trans (KT.setCell e2 rfl), ((Below.refl w.heap.size W).setCell (p := ⟨w.heap.size + 1, 0, none⟩) (Nat.le_succ _) _).setCell (p := ⟨w.heap.size + 1 + 1, 0, none⟩) (by simp; omega) _, rfl, pre, x, rfl, hn.out, hin, ?_, ?_⟩
      · exact (heap_setCell_other _ _ _ _ (by simp)).trans e1
      · exact heap_setCell_same _ _ 0 _ _ _ e2
    · gi_wp2_with (refine ⟨trivial, ?_⟩; gi_at_call 34; refine (CallsIn.inRound l (callsIn_wide.2 (Contains_any _ zs x W hzl hzW.out))).mono ?_; rintro e w' ⟨rfl, rfl⟩)
      refine ⟨KT.refl _, Below.refl _ _, ?_, hv, h1, h2⟩
      intro y hy
      rcases List.mem_append.1 hy with hy | hy
      · exact hn.out y hy
      · obtain rfl : y = x := by simpa using hy
        exact hin
  · rintro W ⟨hn, hv, h1, h2⟩ hB hK
    have c1 := cellAt h1 0
    have c2 := cellAt h2 0
    have f1 := freeAt h1 0
    have f2 := freeAt h2 0
    simp at c1 c2
    have hr : Hid (Rg.firstOf (Rg.met P (ptS key)) zs = none) := Rg.firstOf_none hn
    go_wp2
    have e1 := heap_setCell_same W (w.heap.size + 1) 0 _ _ (.int .i64 (-1)) h1
    have e2 : (W.setCell ⟨w.heap.size + 1, 0, none⟩ (.int .i64 (-1))).heap[w.heap.size + 1 + 1]? = _ := (heap_setCell_other _ _ _ _ (by simp)).trans h2
    have e1' := (heap_setCell_other ((W.setCell ⟨w.heap.size + 1, 0, none⟩ (.int .i64 (-1)))) ⟨w.heap.size + 1 + 1, 0, none⟩ (w.heap.size + 1) (.bool false) (by simp)).trans e1
    have e2' := heap_setCell_same _ (w.heap.size + 1 + 1) 0 _ _ (.bool false) e2
    have hK' : ((W.setCell ⟨w.heap.size + 1, 0, none⟩ (.int .i64 (-1))).setCell ⟨w.heap.size + 1 + 1, 0, none⟩ (.bool false)).heap[W4.heap.size]? = some (.deferred (some [])) :=
      ((heap_setCell_other _ _ _ _ (by simp; omega)).trans (heap_setCell_other _ _ _ _ (by simp; omega))).trans hK
    have hBe : Below w.heap.size w (((W.setCell ⟨w.heap.size + 1, 0, none⟩ (.int .i64 (-1))).setCell ⟨w.heap.size + 1 + 1, 0, none⟩ (.bool false)).putObj W4.heap.size (.deferred none)) :=
      belowPutObj (((hB4.trans hB).setCell (p := ⟨w.heap.size + 1, 0, none⟩) (Nat.le_succ _) _).setCell (p := ⟨w.heap.size + 1 + 1, 0, none⟩) (by simp; omega) _) (by omega) _
    generalize hW5 : (W.setCell ⟨w.heap.size + 1, 0, none⟩ (.int .i64 (-1))).setCell ⟨w.heap.size + 1 + 1, 0, none⟩ (.bool false) = W5 at *
    have p1 : (W5.putObj W4.heap.size (.deferred none)).heap[w.heap.size + 1]? = _ := (World.putObj_heap_other (by omega)).trans e1'
    have p2 : (W5.putObj W4.heap.size (.deferred none)).heap[w.heap.size + 1 + 1]? = _ := (World.putObj_heap_other (by omega)).trans e2'
    have q1 := cellAt p1 0
    have q2 := cellAt p2 0
    simp at q1 q2
    refine mark_leave (v := .tuple #[.int .i64 (-1), .bool false]) hK' ?_ ⟨?_, hBe⟩
    · simp [results, Tryd.results11, go_sem, q1, q2]
    · rw [hr.out]; rfl
  · rintro cd pre x W hpx ⟨rfl, pre', x', hx', hn, hin, h1, h2⟩ hB hK
    obtain ⟨rfl, hxx⟩ := List.append_inj' hx' rfl
    obtain rfl : x = x' := by simpa using hxx
    have hr : Hid (Rg.firstOf (Rg.met P (ptS key)) zs = some x) := Rg.firstOf_some hpx hn hin
    have p1 : (W.putObj W4.heap.size (.deferred none)).heap[w.heap.size + 1]? = _ := (World.putObj_heap_other (by omega)).trans h1
    have p2 : (W.putObj W4.heap.size (.deferred none)).heap[w.heap.size + 1 + 1]? = _ := (World.putObj_heap_other (by omega)).trans h2
    have c1 := cellAt p1 0
    have c2 := cellAt p2 0
    have hBe : Below w.heap.size w (W.putObj W4.heap.size (.deferred none)) := (hB4.trans hB).trans (belowPutObj (Below.refl _ _) (by omega) _)
    simp at c1 c2
    gi_wp2
    refine mark_leave (v := .tuple #[.int .i64 (x : Nat), .bool true]) hK ?_ ⟨?_, hBe⟩
    · simp [results, Tryd.results11, go_sem, c1, c2]
    · rw [hr.out]; rfl
end Go.Proofs.YtphhafaoccfdpaaDoor
