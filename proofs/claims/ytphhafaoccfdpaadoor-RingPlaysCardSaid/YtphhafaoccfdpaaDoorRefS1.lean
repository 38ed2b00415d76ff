/- Walks: the reference's sha: rot, constants, first, Expand. -/
import Derived.Test.YtphhafaoccfdpaaDoorShaW5
import Derived.Test.YtphhafaoccfdpaaDoorRefP
namespace Go.Proofs.YtphhafaoccfdpaaDoor
open Go.RowKit
open Go.Proofs
set_option maxHeartbeats 800000
set_option maxRecDepth 100000

theorem rotR_any (x n : Nat) (w : World) (hx1 : x < 4294967296) (h0 : 0 < n) (hn : n < 32) :
    Calls Tryd.prog 92 #[.int .u32 x, .int .u64 n] w fun e w' => e = .returned (.int .u32 (Sha.rotr x n : Nat)) ∧ w = w' := by
  have e : (32 : Int) - (n : Int) = ((32 - n : Nat) : Int) := by omega
  go_enter Tryd.func92, Tryd.ntmps92
  go_wp2
  go_ret
  refine ⟨?_, rfl⟩
  have h1 : ((x : Int) * 2 ^ (32 - n) % 4294967296) = ((x * 2 ^ (32 - n) % 4294967296 : Nat) : Int) := by simp
  have h2 : ((x : Int) / 2 ^ n) = ((x / 2 ^ n : Nat) : Int) := by simp
  show Ending.returned (.int .u32 (bits .or .u32 ((x : Int) / 2 ^ n) ((x : Int) * 2 ^ (32 - n) % 4294967296))) = _
  rw [h1, h2, u32_or_nat _ _ (Nat.lt_of_le_of_lt (Nat.div_le_self _ _) hx1) (Nat.mod_lt _ (by omega)), Sha.rotr, Nat.or_comm]
theorem rotR_int {x : Nat} {n : Int} {w : World} (hx1 : x < 4294967296) (h0 : 0 < n) (hn : n < 32) :
    Calls Tryd.prog 92 #[.int .u32 x, .int .u64 n] w fun e w' => e = .returned (.int .u32 (Sha.rotr x n.toNat : Nat)) ∧ w = w' := by
  obtain ⟨k, rfl⟩ := Int.eq_ofNat_of_zero_le (show 0 ≤ n by omega)
  exact rotR_any x k w hx1 (by omega) (by omega)

theorem constR_any (w : World) :
    Calls Tryd.prog 91 #[] w fun e w' => e = .returned (.agg (us Sha.table)) ∧ Below w.heap.size w w' := by
  go_enter Tryd.func91, Tryd.ntmps91
  go_wp2_with (first
    | (refine wpListAllocAbs 0 rfl rfl 121 rfl (.agg zeros64) zero_x64 ?_; intro W1 h; have h1 := Lib.hid h; clear h)
    | (refine wpStoreUs 121 64 w.heap.size Sha.table (List.replicate 64 0) rfl _ _ rfl rfl rfl (by rw [← h1.out]; exact heap_alloc_new _ _) (by kernel_rfl) rfl (by simp) ?_))
  have g1 : W1.heap[w.heap.size]? = some (.cells (us (List.replicate 64 0)) 121 (0, 0)) := by rw [← h1.out]; exact heap_alloc_new _ _
  refine bodyPost_ret (v := .agg (us Sha.table)) (results_cell_row (p := 0) (ty := 121) rfl _ _ w.heap.size 121 _ (0, 0) (.array 64 92) rfl (heapSetRow g1) (by kernel_rfl) rfl (by rw [us_size]; kernel_rfl)) rfl ⟨rfl, ?_⟩
  refine belowSetRow ?_ (Nat.le_refl _) _
  rw [← h1.out]; exact (Below.refl _ _).alloc (Nat.le_refl _) _
theorem firstR_any (w : World) :
    Calls Tryd.prog 69 #[] w fun e w' => e = .returned (.agg (us Sha.init)) ∧ Below w.heap.size w w' := by
  go_enter Tryd.func69, Tryd.ntmps69
  go_wp2_with (first
    | (refine wpListAllocAbs 0 rfl rfl 93 rfl (.agg (us (List.replicate 8 0))) zero_x8 ?_; intro W1 h; have h1 := Lib.hid h; clear h)
    | (refine wpStoreUs 93 8 w.heap.size Sha.init (List.replicate 8 0) rfl _ _ rfl rfl rfl (by rw [← h1.out]; exact heap_alloc_new _ _) (by kernel_rfl) rfl (by simp) ?_))
  have g1 : W1.heap[w.heap.size]? = some (.cells (us (List.replicate 8 0)) 93 (0, 0)) := by rw [← h1.out]; exact heap_alloc_new _ _
  refine bodyPost_ret (v := .agg (us Sha.init)) (results_cell_row (p := 0) (ty := 93) rfl _ _ w.heap.size 93 _ (0, 0) (.array 8 92) rfl (heapSetRow g1) (by kernel_rfl) rfl (by rw [us_size]; kernel_rfl)) rfl ⟨rfl, ?_⟩
  refine belowSetRow ?_ (Nat.le_refl _) _
  rw [← h1.out]; exact (Below.refl _ _).alloc (Nat.le_refl _) _

theorem expandR_any (l : List Nat) (hl : l.length = 16) (hu : Sha.U32 l) (w : World) :
    Calls Tryd.prog 90 #[.agg (us l)] w fun e w' => e = .returned (.agg (us (Sha.expTo l 48))) ∧ Below w.heap.size w w' := by
  replace hl := Lib.hid hl
  replace hu := Lib.hid hu
  go_enter Tryd.func90, Tryd.ntmps90
  go_wp2_with (first
    | (refine wpListAllocAbs 2 rfl rfl 121 rfl (.agg zeros64) zero_x64 ?_; intro W1 h; have h1 := Lib.hid h; clear h)
    | (refine wpListAllocAbs 3 rfl rfl 121 rfl (.agg zeros64) zero_x64 ?_; intro W h; have hW' := Lib.hid h; clear h))
  have s1 : W1.heap.size = w.heap.size + 2 := by rw [← h1.out]; simp
  have hg : W.heap[w.heap.size + 2]? = some (.cells (us (Sha.expR l 0)) 121 (0, 0)) := by rw [← hW'.out, ← s1, Sha.expR_zero]; exact heap_alloc_new _ _
  have hB : Below w.heap.size w W := by
    rw [← hW'.out, ← h1.out]
    exact (((Below.refl _ w).alloc (Nat.le_refl _) _).alloc (by simp) _).alloc (by simp; omega) _
  have hi : W.heap[w.heap.size]? = some (.cells (us l) 94 (0, 0)) := by
    rw [← hW'.out, Below.heap_alloc _ _ _ (by omega), ← h1.out, Below.heap_alloc _ _ _ (by simp)]; exact heap_alloc_new _ _
  have hr : W.heap[w.heap.size + 1]? = some (.cells (us (List.replicate 64 0)) 121 (0, 0)) := by
    rw [← hW'.out, Below.heap_alloc _ _ _ (by omega), ← h1.out]
    have := heap_alloc_new (w.alloc (Obj.cells (us l) 94)) (Obj.cells zeros64 121)
    simp only [World.size_alloc] at this
    exact this
  rw [s1]
  clear hW' h1 s1 W1
  try simp only [Act.put, List.setIfInBounds_toArray, List.set_cons_succ, List.set_cons_zero]
  go_loopw [4, 5, 6, 7, 8] (fun i _ _ _ _ wr => ∃ k : Nat, k ≤ 64 ∧ i = .int .i64 k ∧ wr.heap[w.heap.size]? = some (.cells (us l) 94 (0, 0)) ∧ wr.heap[w.heap.size + 2]? = some (.cells (us (Sha.expR l k)) 121 (0, 0)) ∧ wr.heap[w.heap.size + 1]? = some (.cells (us (List.replicate 64 0)) 121 (0, 0)) ∧ Below w.heap.size w wr)
    (fun i _ _ _ _ _ => 64 - (intOf i).toNat)
  case atStart => exact ⟨0, by omega, rfl, hi, hg, hr, hB⟩
  case round =>
    obtain ⟨k, hk, rfl, gi, gx, gr, gB⟩ := hrel
    clear hg hi hr hB
    by_cases hlt : k < 64
    · have hlen := Sha.expR_length hl.out k hk
      have cx : ∀ j, j < 64 → wr.cell? ⟨w.heap.size + 2, j, none⟩ = some (.int .u32 (((Sha.expR l k).getD j 0 : Nat) : Int)) := fun j hj => by
        rw [cellAt gx]; exact us_at _ _ (by omega)
      have ct := cx k hlt
      have ft := freeAt gx k
      by_cases h16 : k < 16
      · have ci : wr.cell? ⟨w.heap.size, k, none⟩ = some (.int .u32 ((l.getD k 0 : Nat) : Int)) := by rw [cellAt gi]; exact us_at _ _ (by rw [hl.out]; exact h16)
        have e2 : Hid (Sha.expR l (k + 1) = (Sha.expR l k).set k (l.getD k 0)) := Sha.expR_low hl.out k h16
        replace hlen := Lib.hid hlen
        clear cx
        generalize l.getD k 0 = p at *
        go_wp2
        refine ⟨⟨k + 1, by omega, by go_num, ?_, ?_, ?_, ?_⟩, by simp [intOf]; omega⟩
        · exact (heap_setCell_other _ _ _ _ (by simp)).trans gi
        · refine (heap_setCell_same wr _ _ _ _ _ gx).trans ?_
          rw [e2.out, ← us_set]
        · exact (heap_setCell_other _ _ _ _ (by simp)).trans gr
        · exact gB.setCell (by simp) _
      · have c2 := cx (k - 2) (by omega)
        have c7 := cx (k - 7) (by omega)
        have c15 := cx (k - 15) (by omega)
        have c16 := cx (k - 16) (by omega)
        have hU := Sha.expR_u32 hu.out k
        have u2 := hU.getD (k - 2)
        have u7 := hU.getD (k - 7)
        have u15 := hU.getD (k - 15)
        have u16 := hU.getD (k - 16)
        have e2 : Hid (Sha.expR l (k + 1) = (Sha.expR l k).set k (Sha.nextE (Sha.expR l k) k)) := Sha.expR_high hl.out k (by omega)
        unfold Sha.nextE at e2
        replace hlen := Lib.hid hlen
        clear cx hU
        obtain ⟨q, rfl⟩ : ∃ q, k = q + 16 := ⟨k - 16, by omega⟩
        rw [show q + 16 - 2 = q + 14 by omega] at c2 u2 e2
        rw [show q + 16 - 7 = q + 9 by omega] at c7 u7 e2
        rw [show q + 16 - 15 = q + 1 by omega] at c15 u15 e2
        rw [show q + 16 - 16 = q by omega] at c16 u16 e2
        generalize (Sha.expR l (q + 16)).getD (q + 14) 0 = x2 at *
        generalize (Sha.expR l (q + 16)).getD (q + 9) 0 = x7 at *
        generalize (Sha.expR l (q + 16)).getD (q + 1) 0 = x15 at *
        generalize (Sha.expR l (q + 16)).getD q 0 = x16 at *
        go_wp2_with (go_at_call 92; refine (rotR_int (by assumption) (by omega) (by omega)).mono ?_; rintro e w' ⟨rfl, rfl⟩)
        have hx : ((x2 : Int) / 1024) = ((x2 / 1024 : Nat) : Int) := by simp
        have hy : ((x15 : Int) / 8) = ((x15 / 8 : Nat) : Int) := by simp
        have r1 := Sha.rotr_lt 17 u2
        have r2 := Sha.rotr_lt 19 u2
        have r3 := Sha.rotr_lt 7 u15
        have r4 := Sha.rotr_lt 18 u15
        have q1 : x2 / 1024 < 4294967296 := Nat.lt_of_le_of_lt (Nat.div_le_self _ _) u2
        have q2 : x15 / 8 < 4294967296 := Nat.lt_of_le_of_lt (Nat.div_le_self _ _) u15
        rw [u32_xor_nat _ _ r1 r2, hx, u32_xor_nat _ _ (Sha.xor_lt r1 r2) q1, u32_xor_nat _ _ r3 r4, hy, u32_xor_nat _ _ (Sha.xor_lt r3 r4) q2]
        have hs1 : Hid ((Sha.rotr x2 17 ^^^ Sha.rotr x2 19) ^^^ (x2 / 1024) = Sha.s1 x2) := rfl
        have hs0 : Hid ((Sha.rotr x15 7 ^^^ Sha.rotr x15 18) ^^^ (x15 / 8) = Sha.s0 x15) := rfl
        rw [hs1.out, hs0.out]
        clear hx hy r1 r2 r3 r4 q1 q2 hs1 hs0
        generalize Sha.s1 x2 = y1 at *
        generalize Sha.s0 x15 = y0 at *
        have hw7 : IntKind.i64.wrap ((q : Int) + 16 - 7) = (q : Int) + 9 := by rw [IntWalk.i64_in _ (by omega)]; omega
        have hw16 : IntKind.i64.wrap (q : Int) = (q : Int) := IntWalk.i64_in _ (by omega)
        have ht9 : ((q : Int) + 9).toNat = q + 9 := by omega
        have ht16 : ((q : Int) + 16).toNat = q + 16 := by omega
        have ht0 : ((q : Int)).toNat = q := by omega
        have hp9 : 0 ≤ (q : Int) + 9 := by omega
        have hq9 : (q : Int) + 9 < 64 := by omega
        have hp16 : 0 ≤ (q : Int) + 16 := by omega
        have hq16 : (q : Int) + 16 < 64 := by omega
        have hp0 : 0 ≤ (q : Int) := by omega
        have hq0 : (q : Int) < 64 := by omega
        refine wpTail 14 (by kernel_rfl) (by kernel_rfl) ?_
        simp only [List.take_succ_cons, List.take_zero, List.drop_succ_cons, List.drop_zero]
        repeat still_step
        refine wpStill_nil ?_
        go_wp2
        refine ⟨⟨q + 16 + 1, by omega, by go_num, ?_, ?_, ?_, ?_⟩, by simp [intOf]; omega⟩
        · exact (heap_setCell_other _ _ _ _ (by simp)).trans gi
        · refine (heap_setCell_same wr _ _ _ _ _ gx).trans ?_
          rw [e2.out, ← us_set]
          simp
        · exact (heap_setCell_other _ _ _ _ (by simp)).trans gr
        · exact (gB.setCell (by simp) _).drew
    · obtain rfl : k = 64 := by omega
      have e48 : Hid ((Sha.expTo l 48).length = 64) := by show _ = _; rw [Sha.expTo_length, hl.out]
      rw [Sha.expR_end] at gx
      go_wp2_with (first
        | (refine wpLoadUs 121 64 (w.heap.size + 2) (Sha.expTo l 48) rfl _ rfl rfl gx (by kernel_rfl) (by kernel_rfl) e48.out ?_)
        | (refine wpStoreUs 121 64 (w.heap.size + 1) (Sha.expTo l 48) (List.replicate 64 0) rfl _ _ rfl rfl rfl gr (by kernel_rfl) e48.out (by simp) ?_))
      refine bodyPost_ret (v := .agg (us (Sha.expTo l 48))) (results_cell_row (p := 2) (ty := 121) rfl _ _ (w.heap.size + 1) 121 _ (0, 0) (.array 64 92) rfl (heapSetRow gr) (by kernel_rfl) rfl (by rw [us_size, e48.out]; kernel_rfl)) rfl ⟨rfl, ?_⟩
      exact belowSetRow gB (by omega) _
end Go.Proofs.YtphhafaoccfdpaaDoor
