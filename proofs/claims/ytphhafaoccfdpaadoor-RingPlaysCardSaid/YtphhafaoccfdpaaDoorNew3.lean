/- Walks: Sort, Compact, Sorted, DeleteFunc on a row of one's own. -/
import Derived.Test.YtphhafaoccfdpaaDoorNew2
import Derived.Test.YtphhafaoccfdpaaDoorShelf
import Derived.Test.YtphhafaoccfdpaaDoorShelf2
import Derived.Sort.OwnSortedInts
import Derived.Lib.RowBridge
namespace Go.Proofs.YtphhafaoccfdpaaDoor
open Go.RowKit Go.Shelf Go.Sort Go.Lib
open Go.Proofs
set_option maxHeartbeats 800000
set_option maxRecDepth 100000

theorem belowSorted {w : World} {B g n : Nat} {os : Array Obj} (d : Array Int) (hg : B ≤ g) (hB : B ≤ w.heap.size) : RowKit.Below B w (grow (putRow (Value.int .i64) (Sort.ahead w n) g 0 d) os) :=
  RowKit.Below.grown (RowKit.Below.refl _ _) (grownBy_sortedI d) hB (fun k hk => by cases hk; exact hg)

/-- a row of whole numbers of one's own, sorted -/
theorem Sort_own (r : Value) (zs : List Int) (w : World) (B : Nat) (hz : zs.length ≤ 1000000) (h : w.ownsRow B 3 1 r zs.length (ivI zs)) (hB : B ≤ w.heap.size) :
    Calls Tryd.prog 40 #[r] w fun e w' => e = .returned (.tuple #[]) ∧ w'.ownsRow B 3 1 r zs.length (ivI (zs.mergeSort fun x y => decide (x ≤ y))) ∧ RowKit.Below B w w' := by
  obtain ⟨hl, (⟨rfl, h0⟩ | ⟨g, cap, cur, rfl, hg, hc, hn, hm, hs, ht⟩)⟩ := h
  · obtain rfl : zs = [] := List.length_eq_zero_iff.1 h0
    refine (Tryd.slices_Sort_int_none none 0 w).mono ?_
    rintro e w' ⟨rfl, rfl⟩
    exact ⟨rfl, by simpa [ivI] using World.ownsRow_nil _ _ _ _, RowKit.Below.refl _ _⟩
  · have hH : Go.Sort.Holds (Value.int .i64) w g 0 zs.toArray := holds_of_blockI hc (by simpa [ivI] using ht)
    refine (Tryd.slices_Sort_int g 0 cap zs w hH (block_lt_of_heap hc) (by omega)).mono ?_
    rintro e w' ⟨rfl, n, os, rfl⟩
    exact ⟨rfl, ownsRow_sortedI (by simp) hg hc hn hm hs, belowSorted _ hg hB⟩

/-- the first cells of a block rewritten, the slice cut -/
theorem ownsRow_cut {w : World} {B g cap q : Nat} {cur : Array Value} {ys ts : List Int} (hg : B ≤ g) (hc : w.heap[g]? = some (.cells cur 3 (0, 0))) (hn : ys.length ≤ cap) (hm : cap ≤ maxLen) (hs : cur.size = cap * 1) (htl : ts.length ≤ cap) (hp : ts.take ys.length = ys) :
    (putRow (Value.int .i64) (Sort.ahead w q) g 0 ts.toArray).ownsRow B 3 1 (.slice (some ⟨g, 0, none⟩) ys.length cap) ys.length (ivI ys) := by
  have hyt : ys.length ≤ ts.length := by have := congrArg List.length hp; rw [List.length_take] at this; omega
  have h1 := heap_sortedI (n := q) (os := #[]) ts.toArray hc
  rw [grow_empty] at h1
  refine ⟨by simp [ivI], .inr ⟨g, cap, _, rfl, hg, h1, hn, hm, by simp [putCells, hs], ?_⟩⟩
  have h2 := take_putCellsI cur ts (by omega)
  have h3 := congrArg (List.take ys.length) h2
  rw [List.take_take, Nat.min_eq_left hyt] at h3
  rw [Nat.mul_one, h3, ← List.map_take, hp]; rfl
theorem belowPut {w : World} {B g q : Nat} (d : Array Int) (hg : B ≤ g) (hB : B ≤ w.heap.size) : RowKit.Below B w (putRow (Value.int .i64) (Sort.ahead w q) g 0 d) := by
  have := belowSorted (w := w) (n := q) (os := #[]) d hg hB
  rwa [grow_empty] at this

theorem Compact_own (r : Value) (zs : List Int) (w : World) (B : Nat) (hz : zs.length ≤ 1000000) (h : w.ownsRow B 3 1 r zs.length (ivI zs)) (hB : B ≤ w.heap.size) :
    Calls Tryd.prog 22 #[r] w fun e w' => ∃ r', e = .returned r' ∧ w'.ownsRow B 3 1 r' (Lib.compact zs).length (ivI (Lib.compact zs)) ∧ RowKit.Below B w w' := by
  obtain ⟨hl, (⟨rfl, h0⟩ | ⟨g, cap, cur, rfl, hg, hc, hn, hm, hs, ht⟩)⟩ := h
  · obtain rfl : zs = [] := List.length_eq_zero_iff.1 h0
    refine (Tryd.slices_Compact_int_empty none 0 w).mono ?_
    rintro e w' ⟨rfl, rfl⟩
    exact ⟨_, rfl, World.ownsRow_nil _ _ _ _, RowKit.Below.refl _ _⟩
  · have hH : Go.Sort.Holds (Value.int .i64) w g 0 zs.toArray := holds_of_blockI hc (by simpa [ivI] using ht)
    refine (Tryd.slices_Compact_int g 0 cap zs w hH (by omega) hn).mono ?_
    rintro e w' ⟨rfl, n, rfl⟩
    have hle : (Lib.compact zs).length ≤ zs.length := Lib.compact_length_le zs
    exact ⟨_, rfl, ownsRow_cut hg hc (by omega) hm hs (by simp; omega) (by simp), belowPut _ hg hB⟩

theorem Sorted_any (v : Value) (zs : List Int) (bx : Nat) (hz : zs.length ≤ 1000000) (w : World) (hc : w.cell? ⟨bx, 0, none⟩ = some v) (hv : SlInts w v zs) :
    Calls Tryd.prog 23 #[.func (.func 41) #[] #[.pointer (some ⟨bx, 0, none⟩)]] w fun e w' =>
      ∃ r, e = .returned r ∧ w'.ownsRow w.heap.size 3 1 r zs.length (ivI (zs.mergeSort fun x y => decide (x ≤ y))) ∧ RowKit.Below w.heap.size w w' := by
  replace hc := Lib.hid hc
  replace hv := Lib.hid hv
  go_enter Tryd.func23, Tryd.ntmps23
  go_wp2_with (first
    | (go_at_call 39; refine (Collect_any v zs bx hz _ hc.out hv.out).mono ?_; rintro e w1 ⟨r, rfl, h1, h2⟩; have h1' := Lib.hid h1; have h2' := Lib.hid h2; clear h1 h2)
    | (go_at_call 40; refine (Sort_own r zs _ w.heap.size hz h1'.out h2'.out.size).mono ?_; rintro e w2 ⟨rfl, h3, h4⟩; have h3' := Lib.hid h3; have h4' := Lib.hid (h2'.out.trans h4); clear h3 h4))
  go_ret
  exact ⟨_, rfl, h3'.out, h4'.out⟩
end Go.Proofs.YtphhafaoccfdpaaDoor
