/- Walks: Pad. -/
import Derived.Test.YtphhafaoccfdpaaDoorShaW3
import Derived.Laws.MakeOwn
import Derived.Laws.BytesArg
namespace Go.Proofs.YtphhafaoccfdpaaDoor
open Go.RowKit
open Go.Proofs
set_option maxHeartbeats 800000
set_option maxRecDepth 100000

def bs (l : List Nat) : Array Value := (l.map fun (x : Nat) => Value.int .u8 (x : Int)).toArray
theorem bs_size (l : List Nat) : (bs l).size = l.length := by simp [bs]
theorem bs_get (l : List Nat) (j : Nat) : (bs l)[j]? = (l[j]?).map fun x => Value.int .u8 (x : Int) := by
  simp [bs]
  cases l[j]? <;> rfl
theorem bs_at (l : List Nat) (j : Nat) (h : j < l.length) : (bs l)[j]? = some (Value.int .u8 ((l.getD j 0 : Nat) : Int)) := by
  rw [bs_get, List.getD_eq_getElem?_getD, List.getElem?_eq_getElem h]; simp
theorem bs_set (l : List Nat) (j x : Nat) : (bs l).setIfInBounds j (.int .u8 (x : Int)) = bs (l.set j x) := by
  simp [bs, List.map_set]
/-- a list of bytes as a string -/
def strN (l : List Nat) : ByteArray := ⟨(l.map UInt8.ofNat).toArray⟩

theorem pad_any (n : Nat) (hn : n ≤ 1152921504606846976) (w : World) :
    Calls Tryd.prog 56 #[.int .i64 n] w fun e w' => e = .returned (.string (strN (Sha.pad n))) ∧ Below w.heap.size w w' := by
  go_enter Tryd.func56, Tryd.ntmps56
  have hno : Hid (((1 : Int) + (119 - (n : Int)) % 64 + 8) = ((Sha.noughts n + 9 : Nat) : Int)) := by show _ = _; unfold Sha.noughts; omega
  have nlt := Sha.noughts_lt n
  go_wp2_with (refine wpListMakeAbs 19 rfl rfl 62 5 _ _ rfl (Sha.noughts n + 9) _ rfl rfl (.int .u8 0) 1 1 (by kernel_rfl) (by kernel_rfl) hno.out (by omega) (by omega) ?_; intro W1 h; have hg1 : W1.heap[w.heap.size]? = some (.cells (bs (List.replicate (Sha.noughts n + 9) 0)) 5 (0, 0)) := (by rw [← h, heap_alloc_new]; congr 2; simp [madeCells_one, bs, Value.cells]); have hB1 : Below w.heap.size w W1 := (by rw [← h]; exact (Below.refl _ _).alloc (Nat.le_refl _) _); have c0 := cellAt hg1 0; rw [bs_at _ _ (by simp)] at c0; simp at c0; have f0 := freeAt hg1 0; have z1 : w.heap.size < W1.heap.size := (by rw [← h]; simp); clear h)
  generalize hW2 : World.setCell _ _ _ = W2
  have hg2 : W2.heap[w.heap.size]? = some (.cells (bs (Sha.padTo n 0)) 5 (0, 0)) := by
    rw [← hW2]; refine (heap_setCell_same W1 _ _ _ _ _ hg1).trans ?_
    have := bs_set (List.replicate (Sha.noughts n + 9) 0) 0 128
    rw [Sha.padTo_zero]
    simp [List.replicate_succ] at this ⊢
    exact this
  have hB2 : Below w.heap.size w W2 := by rw [← hW2]; exact hB1.setCell (Nat.le_refl _) _
  clear hW2 hg1 hB1 c0 f0 z1 W1
  go_loopw [5, 22] (fun _ i wr => ∃ k : Nat, k ≤ 8 ∧ i = .int .i64 k ∧ wr.heap[w.heap.size]? = some (.cells (bs (Sha.padTo n k)) 5 (0, 0)) ∧ Below w.heap.size w wr)
    (fun _ i _ => 8 - (intOf i).toNat)
  case atStart => exact ⟨0, by omega, rfl, hg2, hB2⟩
  case round =>
    obtain ⟨k, hk, rfl, hg, hB⟩ := hrel
    clear hg2 hB2
    by_cases hlt : k < 8
    · have cc := cellAt hg (Sha.noughts n + 8 - k)
      rw [bs_at _ _ (by rw [Sha.padTo_length]; omega)] at cc
      have cf := freeAt hg (Sha.noughts n + 8 - k)
      have e2 : Hid (Sha.padTo n (k + 1) = (Sha.padTo n k).set (Sha.noughts n + 8 - k) (Sha.lenB n (7 - k))) := Sha.padTo_succ _ _ hlt
      go_wp2
      refine ⟨⟨k + 1, by omega, by go_num, ?_, ?_⟩, by simp [intOf]; omega⟩
      · refine (heap_setCell_same wr _ _ _ _ _ hg).trans ?_
        rw [e2.out, ← bs_set]
        have : (n : Int) * 8 / 2 ^ (8 * k) % 256 = ((Sha.lenB n (7 - k) : Nat) : Int) := by
          unfold Sha.lenB
          rw [show 7 - (7 - k) = k by omega]
          simp
        rw [this]
      · exact hB.setCell (Nat.le_refl _) _
    · obtain rfl : k = 8 := by omega
      have hcv : (convert 62 9 (.slice (some ⟨w.heap.size, 0, none⟩) (Sha.noughts n + 9) (Sha.noughts n + 9))).run Tryd.prog wr = .ok (.string (strN (Sha.pad n))) wr := by
        have h := run_convert_bytes_arg (P := Tryd.prog) wr 62 5 (by kernel_rfl) (by kernel_rfl) w.heap.size 0 (Sha.noughts n + 9) (Sha.noughts n + 9) ((Sha.pad n).map fun (x : Nat) => (x : Int)) (by simp [Sha.pad, Sha.padTo_length]) (by
          intro i hi
          rw [Nat.zero_add, cellAt hg, bs_at _ _ (by rw [Sha.padTo_length]; exact hi)]
          simp only [Sha.pad, List.getD_eq_getElem?_getD, List.getElem?_map]
          have : i < (Sha.padTo n 8).length := by rw [Sha.padTo_length]; exact hi
          simp [List.getElem?_eq_getElem this]) 9 (by kernel_rfl)
        rw [h]
        congr 2
        simp only [strOfNums, strN, List.map_map]
        congr 2
      go_wp2
      go_ret
      exact ⟨rfl, hB⟩
end Go.Proofs.YtphhafaoccfdpaaDoor
