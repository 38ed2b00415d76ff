/- Walks: awake, few, short. -/
import Derived.Test.YtphhafaoccfdpaaDoorTop1
import Derived.Deep.Cut
namespace Go.Proofs.YtphhafaoccfdpaaDoor
open Go.RowKit Go.Shelf Go.Lib
open Go.Proofs
set_option maxHeartbeats 800000
set_option maxRecDepth 100000
open Rg (Pt)

theorem good5 : goodNodes [5] = [5] := by decide +kernel
theorem sort313 : ([3, 1, 3] : List Int).mergeSort (fun x y => decide (x ≤ y)) = [1, 3, 3] := by
  have hp : (([3, 1, 3] : List Int).mergeSort (fun x y => decide (x ≤ y))).Perm [1, 3, 3] := (List.mergeSort_perm _ _).trans (by decide)
  have hs := List.pairwise_mergeSort (le := fun (x y : Int) => decide (x ≤ y)) (fun a b c h1 h2 => by simp at *; omega) (fun a b => by simp; omega) [3, 1, 3]
  exact List.Perm.eq_of_pairwise (le := fun x y => x ≤ y) (fun a b _ _ h1 h2 => by omega) (hs.imp (fun h => by simpa using h)) (by decide) hp
theorem good313 : goodNodes [3, 1, 3] = [1, 3] := by
  unfold goodNodes
  rw [sort313]; decide +kernel
theorem good0 : goodNodes [] = [] := by decide +kernel
theorem nodeAt_mem {P : List Pt} (h : P ≠ []) (s i : Nat) : ∃ p ∈ P, Rg.nodeAt P s i = p.node := by
  have : 0 < P.length := List.length_pos_iff.2 h
  exact ⟨_, gD_mem (d := Rg.d0) (Nat.mod_lt _ this), rfl⟩
theorem ringL_mem {ns : List Int} {key : ByteArray} {x : Nat} (h : x ∈ ringL ns key) : (∃ y ∈ ns, x = y.toNat) := by
  obtain ⟨i, hi, rfl⟩ := Rg.metTo_mem h
  by_cases e : sortPts (ptsUp ns ns.length) = []
  · rw [e] at hi; simp at hi
  · obtain ⟨p, hp, hn⟩ := nodeAt_mem e (Rg.lb (sortPts (ptsUp ns ns.length)) (ptS key)) i
    obtain ⟨y, hy, k, _, rfl⟩ := ptsUp_mem ((sortPts_perm _).mem_iff.1 hp)
    exact ⟨y, hy, by rw [hn]; rfl⟩
theorem ringL_ne {ns : List Int} {key : ByteArray} (h : ns ≠ []) : ringL ns key ≠ [] := by
  refine Rg.met_ne ?_ _
  intro e
  have := congrArg List.length e
  rw [sortPts_length, ptsUp_length] at this
  exact h (List.length_eq_zero_iff.1 (by simp at this; omega))
theorem own5 (key : ByteArray) : (ringL [5] key).head? = some 5 := by
  cases h : ringL [5] key with
  | nil => exact absurd h (ringL_ne (by simp))
  | cons a t =>
    obtain ⟨y, hy, e⟩ := ringL_mem (ns := [5]) (key := key) (x := a) (by rw [h]; simp)
    simp at hy; subst hy; simp at e; simp [e]

theorem slInts_row {w : World} {g : Nat} {zs : List Int} {e : TypeId} {fr : Nat × Nat} (h : w.heap[g]? = some (.cells (zs.map (Value.int .i64)).toArray e fr)) (c : Nat) : SlInts w (.slice (some ⟨g, 0, none⟩) zs.length c) zs := by
  refine ⟨_, c, rfl, fun i hi => ⟨g, 0, rfl, ?_⟩⟩
  rw [cellAt h]
  simp [hi, List.getD_eq_getElem?_getD]

set_option maxHeartbeats 1600000 in
theorem awake_any (w : World) (hT : TableOk w) : Calls Tryd.prog 6 #[] w fun e w' => e = .returned (.bool true) ∧ Below w.heap.size w w' := by
  replace hT := Lib.hid hT
  go_enter Tryd.func6, Tryd.ntmps6
  go_upto_region 2 with (first
    | (go_at_call 9; refine (New_any _ [5] _ (by decide) (slInts_row (g := w.heap.size) (zs := [5]) (heap_alloc_new w _) 1) (hT.out.below ((Below.refl _ _).alloc (Nat.le_refl _) _) (Nat.le_refl _))).mono ?_; rintro e w1 ⟨r1, rfl, h1, h2⟩; have hB1 := Lib.hid (((Below.refl w.heap.size w).alloc (Nat.le_refl _) _).trans (h1.mono (by simp))); have hr1 : Hid (RSt w1 r1 [5]) := (by rw [← good5]; exact ⟨_, h2⟩); clear h1 h2)
    | (go_at_call 12; refine (Owner_st r1 [5] _ w1 hr1.out (by decide) (hT.out.below hB1.out (Nat.le_refl _))).mono ?_; rintro e w2 ⟨h1, h2⟩; rw [own5] at h1; simp only [firstV] at h1; subst h1; have hB2 := Lib.hid (hB1.out.trans (h2.mono hB1.out.size)); clear h2))
  go_upto_region 4 with (first
    | (go_at_call 9; refine (New_any _ [3, 1, 3] _ (by decide) (slInts_row (g := w2.heap.size) (zs := [3, 1, 3]) (heap_alloc_new w2 _) 3) (hT.out.below (hB2.out.alloc hB2.out.size _) (Nat.le_refl _))).mono ?_; rintro e w3 ⟨r3, rfl, h1, h2⟩; have hB3 := Lib.hid ((hB2.out.alloc hB2.out.size _).trans (h1.mono (Nat.le_trans hB2.out.size (by simp)))); have hr3 : Hid (RSt w3 r3 [1, 3]) := (by rw [← good313]; exact ⟨_, h2⟩); clear h1 h2)
    | (go_at_call 15; refine (Nodes_st r3 [1, 3] w3 (by decide) hr3.out).mono ?_; rintro e w4 ⟨v4, rfl, h1, h2⟩; obtain ⟨p4, k4, rfl⟩ := ownsRow_slice h1; obtain ⟨g4, rfl⟩ := ownsRow_some h1 (by decide); have hc40 := Lib.hid (ownInt h1 (i := 0) (by decide)); have hc41 := Lib.hid (ownInt h1 (i := 1) (by decide)); have hB4 := Lib.hid (hB3.out.trans (h2.mono hB3.out.size)); have hr4 := Lib.hid (hr3.out.below h2); clear h1 h2))
  go_upto_region 5 with (first
    | (go_at_call 9; refine (New_any _ [] w4 (by decide) (SlInts.nil w4 none 0) (hT.out.below hB4.out (Nat.le_refl _))).mono ?_; rintro e w5 ⟨r5, rfl, h1, h2⟩; have hB5 := Lib.hid (hB4.out.trans (h1.mono hB4.out.size)); have hr5 : Hid (RSt w5 r5 []) := (by rw [← good0]; exact ⟨_, h2⟩); have hB45 := Lib.hid h1; clear h1 h2)
    | (go_at_call 12; refine (Owner_st r5 [] _ w5 hr5.out (by decide) (hT.out.below hB5.out (Nat.le_refl _))).mono ?_; rintro e w6 ⟨h1, h2⟩; rw [ringL_nil] at h1; simp only [List.head?_nil, firstV] at h1; subst h1; have hB6 := Lib.hid (hB5.out.trans (h2.mono hB5.out.size)); have hB46 := Lib.hid (hB45.out.trans (h2.mono hB45.out.size)); have d0 := (hB46.out.cell (p := ⟨g4, 0, none⟩) (block_lt_of_cell hc40.out)).trans hc40.out; have d1 := (hB46.out.cell (p := ⟨g4, 1, none⟩) (block_lt_of_cell hc41.out)).trans hc41.out; have hr6 := Lib.hid (hr4.out.below hB46.out); clear h2))
  go_wp2_with ((go_at_call 14; refine (Len_st r3 [1, 3] w6 hr6.out).mono ?_; rintro e w7 ⟨rfl, rfl⟩))
  go_ret
  exact ⟨rfl, hB6.out⟩

end Go.Proofs.YtphhafaoccfdpaaDoor
