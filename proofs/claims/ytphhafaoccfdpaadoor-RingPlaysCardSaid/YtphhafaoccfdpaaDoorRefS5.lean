/- Walks: the reference's Point. -/
import Derived.Test.YtphhafaoccfdpaaDoorRefS4
namespace Go.Proofs.YtphhafaoccfdpaaDoor
open Go.RowKit
open Go.Proofs
set_option maxHeartbeats 1600000
set_option maxRecDepth 100000

theorem pointR_any (s : ByteArray) (w : World) (hs : s.size ≤ 281474976710656) :
    Calls Tryd.prog 36 #[.string s] w fun e w' => e = .returned (.int .u64 (ptS s : Nat)) ∧ Below w.heap.size w w' := by
  have hp : Hid (ptS s = Sha.ptTo (Sha.sum (nums s)) 8) := rfl
  have hl : Hid ((Sha.sum (nums s)).length = 32) := Sha.outTo_length _ _
  have hlt_ : Hid (∀ x ∈ Sha.sum (nums s), x < 256) := Sha.outTo_lt _ _
  go_enter Tryd.func36, Tryd.ntmps36
  go_wp2_with (first
    | (go_at_call 52; refine (sumR_any s _ hs).mono ?_; rintro e W1 ⟨rfl, h0⟩; have hB1 := Lib.hid h0; clear h0)
    | (refine wpListAllocAbs 3 rfl rfl 78 rfl (.agg (bs (List.replicate 32 0))) zero_x32 ?_; intro W2 h0; have h2 := Lib.hid h0; clear h0)
    | (refine wpStoreBs 78 32 W1.heap.size (Sha.sum (nums s)) (List.replicate 32 0) rfl _ _ rfl rfl rfl (by rw [← h2.out]; exact heap_alloc_new _ _) (by kernel_rfl) hl.out (by simp) ?_))
  generalize hW3 : World.setRow _ _ _ = W3
  generalize Sha.sum (nums s) = d at *
  have z1 : w.heap.size ≤ W1.heap.size := hB1.out.size
  have B3 : Below w.heap.size w W3 := by
    rw [← hW3, ← h2.out]; exact belowSetRow (hB1.out.alloc z1 _) z1 _
  have g3 : W3.heap[W1.heap.size]? = some (.cells (bs d) 78 (0, 0)) := by
    rw [← hW3]; refine heapSetRow (c := bs (List.replicate 32 0)) ?_
    rw [← h2.out]; exact heap_alloc_new _ _
  clear hW3 h2 hB1
  try simp only [Act.put, List.setIfInBounds_toArray, List.set_cons_succ, List.set_cons_zero]
  go_loopw [4, 5] (fun p i wr => ∃ k : Nat, k ≤ 8 ∧ i = .int .i64 k ∧ p = .int .u64 (Sha.ptTo d k : Nat) ∧ wr = W3)
    (fun _ i _ => 8 - (intOf i).toNat)
  case atStart => exact ⟨0, by omega, rfl, rfl, rfl⟩
  case round =>
    obtain ⟨k, hk, rfl, rfl, rfl⟩ := hrel
    by_cases hlt : k < 8
    · have cc := cellAt g3 k
      rw [bs_at _ _ (by rw [hl.out]; omega)] at cc
      have hd : d.getD k 0 < 256 := by
        rw [List.getD_eq_getElem?_getD]
        cases hj : d[k]? with
        | none => simp
        | some v => simpa using hlt_.out v (List.mem_of_getElem? hj)
      have hu := Sha.ptTo_part hlt_.out k hk
      have h7 : (256 : Nat) ^ k ≤ 256 ^ 7 := Nat.pow_le_pow_right (by omega) (by omega)
      have e7 : (256 : Nat) ^ 7 = 72057594037927936 := by decide
      have hu' : Sha.ptTo d k < 72057594037927936 := by omega
      have e2 : Hid (Sha.ptTo d (k + 1) = Sha.ptTo d k * 256 + d.getD k 0) := by
        show _ = _; simp only [Sha.ptTo]; exact Sha.ptR _ _ hu' hd
      clear hu h7 e7
      generalize d.getD k 0 = dk at *
      generalize Sha.ptTo d k = pk at *
      go_wp2
      go_roundw
      case rel => exact ⟨k + 1, by omega, by go_num, by rw [e2.out]; go_num, by first | rfl | trivial⟩
      case measure => simp [intOf]; omega
    · obtain rfl : k = 8 := by omega
      go_wp2
      go_ret
      exact ⟨by rw [hp.out]; rfl, B3⟩
end Go.Proofs.YtphhafaoccfdpaaDoor
