/- Walk: RingNil. -/
import Derived.Test.YtphhafaoccfdpaaDoorTop2
import Derived.Test.YtphhafaoccfdpaaDoorTop3
namespace Go.Proofs.YtphhafaoccfdpaaDoor
open Go.RowKit Go.Shelf Go.Lib
open Go.Proofs
set_option maxHeartbeats 1600000
set_option maxRecDepth 100000

theorem RingNil_any (key : ByteArray) (w : World) (hk : key.size ≤ 281474976710656) (hT : TableOk w) :
    Calls Tryd.prog 4 #[.string key] w fun e w' => e = .returned (.bool true) ∧ Below w.heap.size w w' := by
  replace hT := Lib.hid hT
  go_enter Tryd.func4, Tryd.ntmps4
  go_upto_region 3 with (fail)
  generalize hW : World.alloc _ _ = W0
  have b0 : Hid (W0.heap[w.heap.size]? = some (.cells #[.slice none 0 0, .slice none 0 0] 34 (0, 0))) := by rw [← hW]; exact heap_alloc_new _ _
  have hB0 : Hid (Below w.heap.size w W0) := by rw [← hW]; exact (Below.refl _ _).alloc (Nat.le_refl _) _
  clear hW
  go_upto_region 4 with ((go_at_call 12; refine (Owner_no none key W0 (.inl rfl) hk (hT.out.below hB0.out (Nat.le_refl _))).mono ?_; rintro e w1 ⟨h1, h2⟩; simp only [firstV] at h1; subst h1; have hB1 := Lib.hid (hB0.out.trans (h2.mono hB0.out.size)); have b1 := Lib.hid ((h2.block _ (block_lt_of_heap b0.out)).trans b0.out); clear h2))
  go_upto_region 5 with ((go_at_call 12; refine (Owner_no (some ⟨w.heap.size, 0, none⟩) key w1 (.inr ⟨_, _, rfl, b1.out⟩) hk (hT.out.below hB1.out (Nat.le_refl _))).mono ?_; rintro e w2 ⟨h1, h2⟩; simp only [firstV] at h1; subst h1; have hB2 := Lib.hid (hB1.out.trans (h2.mono hB1.out.size)); have b2 := Lib.hid ((h2.block _ (block_lt_of_heap b1.out)).trans b1.out); clear h2))
  go_upto_region 6 with ((go_at_call 13; refine (At_nil none 0 w2 (.inl rfl)).mono ?_; rintro e w3 ⟨rfl, rfl⟩))
  go_upto_region 7 with ((go_at_call 11; refine (First_no none key _ _ _ _ (.inl rfl) hk (hT.out.below (hB2.out.alloc hB2.out.size _) (Nat.le_refl _))).mono ?_; rintro e w3 ⟨h1, h2⟩; simp only [firstV] at h1; subst h1; have hB3 := Lib.hid ((hB2.out.alloc hB2.out.size _).trans (h2.mono (Nat.le_trans hB2.out.size (by simp)))); have b3 := Lib.hid ((h2.block _ (by have := block_lt_of_heap b2.out; simp; omega)).trans ((Below.heap_alloc _ _ _ (block_lt_of_heap b2.out)).trans b2.out)); clear h2))
  go_wp2_with (first
    | (go_at_call 6; refine (awake_any _ (hT.out.below hB3.out (Nat.le_refl _))).mono ?_; rintro e w4 ⟨rfl, h2⟩; have hB4 := Lib.hid (hB3.out.trans (h2.mono hB3.out.size)); have b4 := Lib.hid ((h2.block _ (block_lt_of_heap b3.out)).trans b3.out); clear h2)
    | (go_at_call 14; first | (refine (Len_nil _).mono ?_; rintro e w5 ⟨rfl, rfl⟩) | (refine (Len_at b4.out).mono ?_; rintro e w5 ⟨rfl, rfl⟩))
    | (go_at_call 15; refine (Nodes_nil _).mono ?_; rintro e w5 ⟨rfl, rfl⟩)
    | (go_at_call 10; refine (Next_no none key 5 _ (.inl rfl) hk (hT.out.below hB4.out (Nat.le_refl _))).mono ?_; rintro e w5 ⟨rfl, h2⟩; have hB5 := Lib.hid (hB4.out.trans (h2.mono hB4.out.size)); clear h2))
  go_ret
  exact ⟨rfl, hB5.out⟩
end Go.Proofs.YtphhafaoccfdpaaDoor
