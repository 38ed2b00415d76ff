/- Walks: the reference's Sum and Point. -/
import Derived.Test.YtphhafaoccfdpaaDoorRefS2
import Derived.Test.YtphhafaoccfdpaaDoorRefS3
namespace Go.Proofs.YtphhafaoccfdpaaDoor
open Go.RowKit
open Go.Proofs
set_option maxHeartbeats 1600000
set_option maxRecDepth 100000

theorem nums_drop (m : List Nat) (k i : Nat) : (m.drop k).getD i 0 = m.getD (k + i) 0 := by simp [List.getD_eq_getElem?_getD, List.getElem?_drop]

theorem sumR_any (s : ByteArray) (w : World) (hs : s.size ≤ 281474976710656) :
    Calls Tryd.prog 52 #[.string s] w fun e w' => e = .returned (.agg (bs (Sha.sum (nums s)))) ∧ Below w.heap.size w w' := by
  have hps := pad_size s.size
  go_enter Tryd.func52, Tryd.ntmps52
  go_upto_region 3 with (first
    | (refine wpListAllocAbs 2 rfl rfl 78 rfl (.agg (bs (List.replicate 32 0))) zero_x32 ?_; intro W1 h0; have h1 := Lib.hid h0; clear h0)
    | (go_at_call 68; refine (padR_any s.size (by omega) _).mono ?_; rintro e W2 ⟨rfl, h0⟩; have hb2 := Lib.hid h0; clear h0)
    | (go_at_call 69; refine (firstR_any _).mono ?_; rintro e W2' ⟨rfl, h0⟩; have hb2' := Lib.hid h0; clear h0)
    | (refine wpListAllocAbs 4 rfl rfl 93 rfl (.agg (us (List.replicate 8 0))) zero_x8 ?_; intro W3 h0; have h3 := Lib.hid h0; clear h0)
    | (refine wpStoreUs 93 8 W2'.heap.size Sha.init (List.replicate 8 0) rfl _ _ rfl rfl rfl (by rw [← h3.out]; exact heap_alloc_new _ _) (by kernel_rfl) rfl (by simp) ?_))
  have z1 : W1.heap.size = w.heap.size + 1 := by rw [← h1.out]; simp
  have hb12 : Below W1.heap.size W1 W2' := hb2.out.trans (hb2'.out.mono hb2.out.size)
  have z2 : w.heap.size + 1 ≤ W2'.heap.size := by have := hb12.size; omega
  generalize hW4 : World.setRow _ _ _ = W4
  have hB4 : Below w.heap.size w W4 := by
    rw [← hW4, ← h3.out]
    refine belowSetRow (Below.alloc ?_ (by omega) _) (by omega) _
    refine Below.trans ?_ (hb12.mono (by omega))
    rw [← h1.out]; exact (Below.refl _ _).alloc (Nat.le_refl _) _
  have hR4 : W4.heap[w.heap.size]? = some (.cells (bs (List.replicate 32 0)) 78 (0, 0)) := by
    rw [← hW4, heapSetRowNe (by omega), ← h3.out, Below.heap_alloc _ _ _ (by omega), hb12.block _ (by omega), ← h1.out]
    exact heap_alloc_new _ _
  have hH4 : W4.heap[W2'.heap.size]? = some (.cells (us (Sha.hashTo (Sha.msg (nums s)) 0)) 93 (0, 0)) := by
    rw [← hW4]; refine heapSetRow (c := us (List.replicate 8 0)) ?_
    rw [← h3.out]; exact heap_alloc_new _ _
  have z4 : W2'.heap.size < W4.heap.size := by rw [← hW4, ← h3.out]; simp
  clear hW4 h3 hb12 hb2 hb2' z1 h1 W3
  generalize W2'.heap.size = bh at *
  clear W2' W2 W1
  obtain ⟨s0, hs0⟩ : ∃ s0, s ++ strN (Sha.pad s.size) = s0 := ⟨_, rfl⟩
  have hn0 : Hid (nums s0 = Sha.msg (nums s)) := by
    show _ = _; rw [← hs0, nums_append, nums_strN (Sha.pad s.size) (Sha.padTo_lt _ _)]; simp [Sha.msg, nums_length]
  have hml : (Sha.msg (nums s)).length ≤ 281474976710800 := by
    simp only [Sha.msg, List.length_append, nums_length]; have := pad_size s.size; rw [strN_size] at this; omega
  have hmm : Hid ((Sha.msg (nums s)).length % 64 = 0) := Sha.msg_mod _
  have hmlt : Hid (∀ x ∈ Sha.msg (nums s), x < 256) := Sha.msg_lt (nums_lt s)
  have hsum : Hid (Sha.sum (nums s) = Sha.outTo (Sha.hashTo (Sha.msg (nums s)) ((Sha.msg (nums s)).length / 64)) 32) := rfl
  generalize Sha.msg (nums s) = m at *
  have hsz : Hid (s0.size = m.length) := by show _ = _; rw [← nums_length, hn0.out]
  have hszI : (s0.size : Int) ≤ 281474976710800 := by have := hsz.out; omega
  rw [hs0]
  clear hs0
  try simp only [Act.put, List.setIfInBounds_toArray, List.set_cons_succ, List.set_cons_zero]
  go_wp2
  go_loopw [5, 6, 7] (fun a _ _ wr => ∃ (j : Nat), a = .int .i64 (64 * (j : Int)) ∧ 64 * j ≤ s0.size ∧ wr.heap[w.heap.size]? = some (.cells (bs (List.replicate 32 0)) 78 (0, 0)) ∧ wr.heap[bh]? = some (.cells (us (Sha.hashTo m j)) 93 (0, 0)) ∧ Below w.heap.size w wr ∧ bh < wr.heap.size)
    (fun a _ _ _ => s0.size - (intOf a).toNat)
  case atStart => exact ⟨0, rfl, by omega, hR4, hH4, hB4, z4⟩
  case round =>
    obtain ⟨j, rfl, hj, hR, hH, hB, hz⟩ := hrel
    clear hR4 hH4 hB4 z4
    obtain ⟨wo, rfl⟩ : ∃ wo : World, wo = wr := ⟨_, rfl⟩
    by_cases hge : 64 * j < s0.size
    · have hmod : 64 * j + 64 ≤ s0.size := by have h1 := hmm.out; have h2 := hsz.out; omega
      have hn : Hid ((nums s0).drop (64 * j) = m.drop (64 * j)) := by show _ = _; rw [hn0.out]
      have hltn : Hid (∀ x ∈ (nums s0).drop (64 * j), x < 256) := fun x hx => nums_lt s0 x (List.mem_of_mem_drop hx)
      have hgd : Hid (∀ i, i < 64 → ∀ h : 64 * j + i < s0.size, ((nums s0).drop (64 * j)).getD i 0 = s0[64 * j + i].toNat) := fun i _ h => by rw [nums_drop, nums_getD _ _ h]
      generalize hN : (nums s0).drop (64 * j) = N at *
      replace hN := Lib.hid hN
      go_wp2_with (refine wpListAllocAbs 6 rfl rfl 94 rfl (.agg (us (List.replicate 16 0))) zero_x16 ?_; intro W5 h0; have h5 := Lib.hid h0; clear h0)
      have z5 : W5.heap.size = wo.heap.size + 1 := by rw [← h5.out]; simp
      have hw5 : W5.heap[wo.heap.size]? = some (.cells (us (Sha.wordsR N 0)) 94 (0, 0)) := by
        rw [← h5.out, heap_alloc_new, Sha.wordsR_zero]; rfl
      have hR5 : W5.heap[w.heap.size]? = some (.cells (bs (List.replicate 32 0)) 78 (0, 0)) := by
        rw [← h5.out, Below.heap_alloc _ _ _ (by omega)]; exact hR
      have hH5 : W5.heap[bh]? = some (.cells (us (Sha.hashTo m j)) 93 (0, 0)) := by
        rw [← h5.out, Below.heap_alloc _ _ _ hz]; exact hH
      have hB5 : Below w.heap.size w W5 := by rw [← h5.out]; exact hB.alloc hB.size _
      clear h5
      go_loopw [7] (fun i wr => ∃ k : Nat, k ≤ 64 ∧ i = .int .i64 k ∧ wr.heap[wo.heap.size]? = some (.cells (us (Sha.wordsR N k)) 94 (0, 0)) ∧ wr.heap[w.heap.size]? = some (.cells (bs (List.replicate 32 0)) 78 (0, 0)) ∧ wr.heap[bh]? = some (.cells (us (Sha.hashTo m j)) 93 (0, 0)) ∧ Below w.heap.size w wr)
        (fun i _ => 64 - (intOf i).toNat)
      case atStart => exact ⟨0, by omega, rfl, hw5, hR5, hH5, hB5⟩
      case round =>
        obtain ⟨k, hk, rfl, gw, gR, gH, gB⟩ := hrel
        clear hw5 hR5 hH5 hB5
        by_cases hlt : k < 64
        · have cc := cellAt gw (k / 4)
          rw [us_at _ _ (by rw [Sha.wordsR_length]; omega)] at cc
          have cf := freeAt gw (k / 4)
          have up := Sha.wordsR_part hltn.out k hlt
          have e2 : Hid (Sha.wordsR N (k + 1) = (Sha.wordsR N k).set (k / 4) ((Sha.wordsR N k).getD (k / 4) 0 * 256 + N.getD k 0)) := Sha.wordsR_succ _ _ hlt
          have i0 : 64 * j + k < s0.size := by omega
          have eb := Lib.hid (hgd.out k hlt i0)
          generalize (Sha.wordsR N k).getD (k / 4) 0 = pw at *
          have d0 : 0 ≤ (k : Int) / 4 := by omega
          have d1 : (k : Int) / 4 < 16 := by omega
          have d2 : ((k : Int) / 4).toNat = k / 4 := by omega
          have a0 : IntKind.i64.wrap ((64 * (j : Int)) + (k : Int)) = (64 * (j : Int)) + (k : Int) := IntWalk.i64_in _ (by omega)
          have a1 : 0 ≤ (64 * (j : Int)) + (k : Int) := by omega
          have a2 : (64 * (j : Int)) + (k : Int) < (s0.size : Int) := by omega
          have a3 : ((64 * (j : Int)) + (k : Int)).toNat = 64 * j + k := by omega
          have d3 : IntKind.i64.wrap ((k : Int) / 4) = (k : Int) / 4 := IntWalk.i64_in _ (by omega)
          go_wp2
          refine wpTail 14 (by kernel_rfl) (by kernel_rfl) ?_
          simp only [List.take_succ_cons, List.take_zero, List.drop_succ_cons, List.drop_zero]
          repeat still_step
          refine wpStill_nil ?_
          have ev : IntKind.u32.wrap (IntKind.u32.wrap ((pw : Int) * 256) + IntKind.u32.wrap (s0[64 * j + k].toNat : Int)) = ((pw * 256 + N.getD k 0 : Nat) : Int) := by
            rw [eb.out]
            have := UInt8.toNat_lt s0[64 * j + k]
            simp only [IntKind.wrap_u32]
            omega
          simp only [ev]
          generalize pw * 256 + N.getD k 0 = nv at *
          go_wp2
          refine ⟨⟨k + 1, by omega, by go_num, ?_, ?_, ?_, ?_⟩, by simp [intOf]; omega⟩
          · refine (heap_setCell_same wr _ _ _ _ _ gw).trans ?_
            rw [e2.out, ← us_set]
          · exact (heap_setCell_other _ _ _ _ (by simp; omega)).trans gR
          · exact (heap_setCell_other _ _ _ _ (by simp; omega)).trans gH
          · exact (gB.setCell (by simp; omega) _).drew
        · obtain rfl : k = 64 := by omega
          have hw16 : Hid (Sha.hashTo m (j + 1) = Sha.compress (Sha.hashTo m j) (Sha.wordsTo N 16)) := by
            show _ = _; rw [Sha.hashTo, ← hn.out]
          have hwu := Sha.wordsTo_u32 hltn.out 16
          replace hwu := Lib.hid hwu
          rw [Sha.wordsR_end hltn.out] at gw
          go_wp2_with (first
            | (refine wpLoadUs 93 8 bh (Sha.hashTo m j) rfl _ rfl rfl gH (by kernel_rfl) (by kernel_rfl) (Sha.hashTo_length _ _) ?_)
            | (refine wpLoadUs 94 16 wo.heap.size (Sha.wordsTo N 16) rfl _ rfl rfl gw (by kernel_rfl) (by kernel_rfl) (Sha.wordsTo_length _ _) ?_)
            | (go_at_call 70; refine (compressR_any _ _ (Sha.hashTo_length _ _) (Sha.wordsTo_length _ _) (Sha.hashTo_u32 _ _) hwu.out _).mono ?_; rintro e W7 ⟨rfl, h0⟩; have h7 := Lib.hid h0; clear h0)
            | (refine wpStoreUs 93 8 bh (Sha.compress (Sha.hashTo m j) (Sha.wordsTo N 16)) (Sha.hashTo m j) rfl _ _ rfl rfl rfl ((h7.out.block _ (block_lt_of_heap gH)).trans gH) (by kernel_rfl) (Sha.compress_length _ _) (Sha.hashTo_length _ _) ?_))
          refine ⟨⟨j + 1, ?_, ?_, ?_, ?_, ?_, ?_⟩, ?_⟩
          · go_num
          · omega
          · exact (heapSetRowNe (by omega)).trans ((h7.out.block _ (block_lt_of_heap gR)).trans gR)
          · rw [hw16.out]; exact heapSetRow ((h7.out.block _ (block_lt_of_heap gH)).trans gH)
          · exact belowSetRow (gB.trans (h7.out.mono gB.size)) (by omega) _
          · simp; exact Nat.lt_of_lt_of_le (block_lt_of_heap gH) h7.out.size
          · simp [intOf]; omega
    · have hj64 : Hid (Sha.hashTo m (m.length / 64) = Sha.hashTo m j) := by
        show _ = _; have h1 := hmm.out; have h2 := hsz.out; rw [show m.length / 64 = j by omega]
      have hh8 := Sha.hashTo_length m j
      have hhu := Sha.hashTo_u32 m j
      replace hh8 := Lib.hid hh8
      replace hhu := Lib.hid hhu
      generalize Sha.hashTo m j = hf at *
      go_wp2_with (refine wpListAllocAbs 8 rfl rfl 78 rfl (.agg (bs (List.replicate 32 0))) zero_x32 ?_; intro W8 h0; have h8 := Lib.hid h0; clear h0)
      have z8 : W8.heap.size = wo.heap.size + 1 := by rw [← h8.out]; simp
      have g8 : W8.heap[wo.heap.size]? = some (.cells (bs (Sha.outTo hf 0)) 78 (0, 0)) := by
        rw [← h8.out, heap_alloc_new, Sha.outTo, Sha.zeroTo]; rfl
      have R8 : W8.heap[w.heap.size]? = some (.cells (bs (List.replicate 32 0)) 78 (0, 0)) := by
        rw [← h8.out, Below.heap_alloc _ _ _ (by omega)]; exact hR
      have H8 : W8.heap[bh]? = some (.cells (us hf) 93 (0, 0)) := by
        rw [← h8.out, Below.heap_alloc _ _ _ hz]; exact hH
      have B8 : Below w.heap.size w W8 := by rw [← h8.out]; exact hB.alloc hB.size _
      clear h8
      go_loopw [9] (fun i wr => ∃ k : Nat, k ≤ 32 ∧ i = .int .i64 k ∧ wr.heap[wo.heap.size]? = some (.cells (bs (Sha.outTo hf k)) 78 (0, 0)) ∧ wr.heap[w.heap.size]? = some (.cells (bs (List.replicate 32 0)) 78 (0, 0)) ∧ wr.heap[bh]? = some (.cells (us hf) 93 (0, 0)) ∧ Below w.heap.size w wr)
        (fun i _ => 32 - (intOf i).toNat)
      case atStart => exact ⟨0, by omega, rfl, g8, R8, H8, B8⟩
      case round =>
        obtain ⟨k, hk, rfl, gw, gR, gH, gB⟩ := hrel
        clear g8 R8 H8 B8
        by_cases hlt : k < 32
        · have cc := cellAt gw k
          rw [bs_at _ _ (by rw [Sha.outTo_length]; exact hlt)] at cc
          have cf := freeAt gw k
          have ch := cellAt gH (k / 4)
          rw [us_at _ _ (by rw [hh8.out]; omega)] at ch
          have d4 : (k : Int) / 4 < 8 := by omega
          have d4' : 0 ≤ (k : Int) / 4 := by omega
          have m4 : 0 ≤ 24 - 8 * ((k : Int) % 4) := by omega
          have m4' : 24 - 8 * ((k : Int) % 4) ≤ 32 := by omega
          have e2 : Hid (Sha.outTo hf (k + 1) = (Sha.outTo hf k).set k (Sha.byteOf hf k)) := Sha.setTo 32 _ k hlt
          go_wp2
          refine ⟨⟨k + 1, by omega, by go_num, ?_, ?_, ?_, ?_⟩, by simp [intOf]; omega⟩
          · refine (heap_setCell_same wr _ _ _ _ _ gw).trans ?_
            rw [e2.out, ← bs_set]
            simp [Sha.byteOf, List.getD_eq_getElem?_getD]
          · exact (heap_setCell_other _ _ _ _ (by simp; omega)).trans gR
          · exact (heap_setCell_other _ _ _ _ (by simp; omega)).trans gH
          · exact gB.setCell (by simp; omega) _
        · obtain rfl : k = 32 := by omega
          go_wp2_with (first
            | (refine wpLoadBs 78 32 wo.heap.size (Sha.outTo hf 32) rfl _ rfl rfl gw (by kernel_rfl) (by kernel_rfl) (Sha.outTo_length _ _) ?_)
            | (refine wpStoreBs 78 32 w.heap.size (Sha.outTo hf 32) (List.replicate 32 0) rfl _ _ rfl rfl rfl gR (by kernel_rfl) (Sha.outTo_length _ _) (by simp) ?_))
          refine bodyPost_ret (v := .agg (bs (Sha.outTo hf 32))) (results_cell_row (p := 2) (ty := 78) rfl _ _ w.heap.size 78 _ (0, 0) (.array 32 5) rfl (heapSetRow gR) (by kernel_rfl) rfl (by rw [bs_size, Sha.outTo_length]; kernel_rfl)) rfl ⟨?_, belowSetRow gB (by omega) _⟩
          rw [hsum.out, hj64.out]
end Go.Proofs.YtphhafaoccfdpaaDoor
