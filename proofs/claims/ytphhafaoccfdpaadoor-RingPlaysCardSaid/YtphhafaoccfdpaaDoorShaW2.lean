/- Walks: Expand. -/
import Derived.Test.YtphhafaoccfdpaaDoorShaW1
namespace Go.Proofs.YtphhafaoccfdpaaDoor
open Go.RowKit
open Go.Proofs
set_option maxHeartbeats 400000
set_option maxRecDepth 100000

/-- numbers as cells -/
def us (l : List Nat) : Array Value := (l.map fun (x : Nat) => Value.int .u32 (x : Int)).toArray
def zeros64 : Array Value := us (List.replicate 64 0)
theorem zero_x64 (w : World) : (zeroValue 121).run Tryd.prog w = .ok (.agg zeros64) w := by kernel_rfl

theorem us_size (l : List Nat) : (us l).size = l.length := by simp [us]
theorem us_get (l : List Nat) (j : Nat) : (us l)[j]? = (l[j]?).map fun x => Value.int .u32 (x : Int) := by
  simp [us]
  cases l[j]? <;> rfl
theorem us_at (l : List Nat) (j : Nat) (h : j < l.length) : (us l)[j]? = some (Value.int .u32 ((l.getD j 0 : Nat) : Int)) := by
  rw [us_get, List.getD_eq_getElem?_getD, List.getElem?_eq_getElem h]; simp
theorem us_one (l : List Nat) : ∀ v ∈ (us l).toList, v.oneCell' = true := by
  intro v hv; simp [us] at hv; obtain ⟨x, _, rfl⟩ := hv; rfl
theorem us_set (l : List Nat) (j x : Nat) : (us l).setIfInBounds j (.int .u32 (x : Int)) = us (l.set j x) := by
  simp [us, List.map_set]

theorem us_all (l : List Nat) : (us l).all (·.oneCell') = true := by
  rw [Array.all_eq_true]; intro i hi
  exact us_one l _ (by simp)
theorem zeros_us : zeros64 = us (List.replicate 64 0) := rfl

theorem wpLoadUs {ops : Array Oper} {rest : List Oper} {o : Oper} {a : Act} {w : World} {Q : Exit → Act → World → Prop} (T n g : Nat) (l : List Nat) (hgd : o.guard = none) (x : Operand) (ho : o.op = .load T x)
    (hx : a.eval x = .pointer (some ⟨g, 0, none⟩)) (hg : w.heap[g]? = some (.cells (us l) T (0, 0))) (hu : Tryd.prog.underlying T = some (.array n 92)) (hi : (Tryd.prog.info? T).map (·.size) = some n)
    (hl : l.length = n) (h : wpList Tryd.prog ops Q rest (a.put o.dst (.agg (us l))) w) : wpList Tryd.prog ops Q (o :: rest) a w :=
  wpList_load_row hgd T x ho g hx T _ (0, 0) (.array n 92) hg hu rfl (by rw [us_size, hl]; exact hi) h
theorem wpStoreUs {ops : Array Oper} {rest : List Oper} {o : Oper} {a : Act} {w : World} {Q : Exit → Act → World → Prop} (T n g : Nat) (l l0 : List Nat) (hgd : o.guard = none) (x y : Operand) (ho : o.op = .store T x y)
    (hx : a.eval x = .pointer (some ⟨g, 0, none⟩)) (hy : a.eval y = .agg (us l)) (hg : w.heap[g]? = some (.cells (us l0) T (0, 0))) (hi : (Tryd.prog.info? T).map (·.size) = some n)
    (hl : l.length = n) (hl0 : l0.length = n) (h : wpList Tryd.prog ops Q rest (a.put o.dst undef) (w.setRow g (us l))) : wpList Tryd.prog ops Q (o :: rest) a w :=
  wpList_store_row hgd T x y ho g _ hx hy T _ hg (by rw [us_size, hl]; exact hi) (by rw [us_size, us_size, hl, hl0]) (us_all l) h

theorem exp_any (l : List Nat) (hl : l.length = 16) (hu : Sha.U32 l) (w : World) :
    Calls Tryd.prog 83 #[.agg (us l)] w fun e w' => e = .returned (.agg (us (Sha.expTo l 48))) ∧ Below w.heap.size w w' := by
  go_enter Tryd.func83, Tryd.ntmps83
  go_wp2_with (first
    | (refine wpListAllocAbs 2 rfl rfl 121 rfl (.agg zeros64) zero_x64 ?_; intro W1 h; have h1 := Lib.hid h; clear h)
    | (refine wpListAllocAbs 3 rfl rfl 121 rfl (.agg zeros64) zero_x64 ?_; intro W h; have hW' := Lib.hid h; clear h))
  refine wpTail 2 (by kernel_rfl) (by kernel_rfl) ?_
  simp only [List.take_succ_cons, List.take_zero, List.drop_succ_cons, List.drop_zero]
  repeat still_step
  refine wpStill_nil ?_
  have s1 : W1.heap.size = w.heap.size + 2 := by rw [← h1.out]; simp
  have s2 : W.heap.size = w.heap.size + 3 := by rw [← hW'.out]; simp [s1]
  have hg : W.heap[W1.heap.size]? = some (.cells zeros64 121 (0, 0)) := by rw [← hW'.out]; exact heap_alloc_new _ _
  have hB : Below w.heap.size w W := by
    rw [← hW'.out, ← h1.out]
    exact (((Below.refl _ w).alloc (Nat.le_refl _) _).alloc (by simp) _).alloc (by simp; omega) _
  have hi : W.heap[w.heap.size]? = some (.cells (us l) 94 (0, 0)) := by
    rw [← hW'.out, Below.heap_alloc _ _ _ (by omega), ← h1.out, Below.heap_alloc _ _ _ (by simp)]; exact heap_alloc_new _ _
  have hr : W.heap[w.heap.size + 1]? = some (.cells zeros64 121 (0, 0)) := by
    rw [← hW'.out, Below.heap_alloc _ _ _ (by omega), ← h1.out]
    have := heap_alloc_new (w.alloc (Obj.cells (us l) 94)) (Obj.cells zeros64 121)
    simp only [World.size_alloc] at this
    exact this
  refine wpListCopyRow rfl _ _ _ _ rfl 92 W1.heap.size 0 64 64 ⟨w.heap.size, 0, none⟩ 16 16 zeros64 121 (us l).toList rfl rfl (by kernel_rfl) (by kernel_rfl) hg (by simp [us, hl]) ?_ (by simp [us, zeros64, hl]) (us_one l) ?_
  · intro j v hv
    have h := cellAt hi j
    rw [Array.getElem?_toList] at hv
    rw [hv] at h
    show W.cell? (Addr.add ⟨w.heap.size, 0, none⟩ j) = some v
    by_cases h0 : j = 0
    · subst h0; simpa [Addr.add] using h
    · simpa [Addr.add, h0] using h
  generalize hW2 : World.setRow _ _ _ = W2
  have hB2 : Below w.heap.size w W2 := by rw [← hW2]; exact belowSetRow hB.drew (by omega) _
  have hg2 : W2.heap[w.heap.size + 2]? = some (.cells (us (Sha.expTo l 0)) 121 (0, 0)) := by
    rw [← hW2, ← s1]
    refine (heapSetRow (w := W.drew) hg).trans ?_
    simp [Sha.expTo, zeros64, us]
    rw [hl]; rfl
  have hr2 : W2.heap[w.heap.size + 1]? = some (.cells zeros64 121 (0, 0)) := by
    rw [← hW2]; exact (heapSetRowNe (by omega)).trans hr
  clear hW2 hg hi hr hB s2 hW'
  clear W
  go_wp2
  go_loopw [4, 5, 6, 7, 11] (fun _ _ _ _ i wr => ∃ k : Nat, k ≤ 48 ∧ i = .int .i64 k ∧ wr.heap[w.heap.size + 2]? = some (.cells (us (Sha.expTo l k)) 121 (0, 0)) ∧ wr.heap[w.heap.size + 1]? = some (.cells zeros64 121 (0, 0)) ∧ Below w.heap.size w wr)
    (fun _ _ _ _ i _ => 48 - (intOf i).toNat)
  case atStart => exact ⟨0, by omega, rfl, hg2, hr2, hB2⟩
  case round =>
    obtain ⟨k, hk, rfl, hg, hr, hB⟩ := hrel
    clear hg2 hr2 hB2
    by_cases hlt : k < 48
    · have hlen := Sha.expTo_length l k
      have at_ : ∀ j, j < 64 → wr.cell? ⟨w.heap.size + 2, j, none⟩ = some (.int .u32 (((Sha.expTo l k).getD j 0 : Nat) : Int)) := fun j hj => by
        rw [cellAt hg]; exact us_at _ _ (by omega)
      have hc2 := at_ (k + 16 - 2) (by omega)
      have hc7 := at_ (k + 16 - 7) (by omega)
      have hc15 := at_ (k + 16 - 15) (by omega)
      have hc16 := at_ (k + 16 - 16) (by omega)
      have hct := at_ (k + 16) (by omega)
      have hft := freeAt hg (k + 16)
      have hU := Sha.expTo_u32 hu k
      have hu2 := hU.getD (k + 16 - 2)
      have hu7 := hU.getD (k + 16 - 7)
      have hu15 := hU.getD (k + 16 - 15)
      have hu16 := hU.getD (k + 16 - 16)
      have hlen := Lib.hid hlen
      clear at_
      have hN : Hid (Sha.expTo l (k + 1) = (Sha.expTo l k).set (k + 16) (Sha.nextE (Sha.expTo l k) (k + 16))) := rfl
      unfold Sha.nextE at hN
      rw [show k + 16 - 2 = k + 14 by omega] at hc2 hu2 hN
      rw [show k + 16 - 7 = k + 9 by omega] at hc7 hu7 hN
      rw [show k + 16 - 15 = k + 1 by omega] at hc15 hu15 hN
      rw [show k + 16 - 16 = k by omega] at hc16 hu16 hN
      generalize (Sha.expTo l k).getD (k + 14) 0 = x2 at *
      generalize (Sha.expTo l k).getD (k + 9) 0 = x7 at *
      generalize (Sha.expTo l k).getD (k + 1) 0 = x15 at *
      generalize (Sha.expTo l k).getD k 0 = x16 at *
      go_wp2
      go_region
      go_wp2
      have hw7 : IntKind.i64.wrap ((k : Int) + 16 - 7) = (k : Int) + 9 := by rw [IntWalk.i64_in _ (by omega)]; omega
      have hw16 : IntKind.i64.wrap (k : Int) = (k : Int) := IntWalk.i64_in _ (by omega)
      have ht9 : ((k : Int) + 9).toNat = k + 9 := by omega
      have ht16 : ((k : Int) + 16).toNat = k + 16 := by omega
      have ht0 : ((k : Int)).toNat = k := by omega
      have hp9 : 0 ≤ (k : Int) + 9 := by omega
      have hq9 : (k : Int) + 9 < 64 := by omega
      have hp16 : 0 ≤ (k : Int) + 16 := by omega
      have hq16 : (k : Int) + 16 < 64 := by omega
      have hp0 : 0 ≤ (k : Int) := by omega
      have hq0 : (k : Int) < 64 := by omega
      refine wpTail 29 (by kernel_rfl) (by kernel_rfl) ?_
      simp only [List.take_succ_cons, List.take_zero, List.drop_succ_cons, List.drop_zero]
      repeat (first | still_step | still_call (stillOf (rot_int (by assumption) (by omega) (by omega))))


      refine wpStill_nil ?_
      go_wp2
      have hv : ∀ a b c d e f g : Int, a = b → c = d → e = f → (a + c + e + g) % 4294967296 = (b + d + f + g) % 4294967296 := by intro a b c d e f g h1 h2 h3; rw [h1, h2, h3]
      refine ⟨⟨k + 1, by omega, by go_num, ?_, ?_, ?_⟩, by simp [intOf]; omega⟩
      · refine (heap_setCell_same wr _ _ _ _ _ hg).trans ?_
        rw [hN.out, ← us_set]
        congr 4
        have hx : ((x2 : Int) / 1024) = ((x2 / 1024 : Nat) : Int) := by simp
        have hy : ((x15 : Int) / 8) = ((x15 / 8 : Nat) : Int) := by simp
        have r1 := Sha.rotr_lt 17 hu2
        have r2 := Sha.rotr_lt 19 hu2
        have r3 := Sha.rotr_lt 7 hu15
        have r4 := Sha.rotr_lt 18 hu15
        have q1 : x2 / 1024 < 4294967296 := Nat.lt_of_le_of_lt (Nat.div_le_self _ _) hu2
        have q2 : x15 / 8 < 4294967296 := Nat.lt_of_le_of_lt (Nat.div_le_self _ _) hu15
        rw [hx, hy, u32_xor_nat _ _ r1 r2, u32_xor_nat _ _ (Sha.xor_lt r1 r2) q1, u32_xor_nat _ _ r3 r4, u32_xor_nat _ _ (Sha.xor_lt r3 r4) q2]
        simp [Sha.s0, Sha.s1]
      · exact (heap_setCell_other _ _ _ _ (by simp)).trans hr
      · exact ((hB.setCell (by simp) _).drew).drew
    · obtain rfl : k = 48 := by omega
      have e48 : Hid ((Sha.expTo l 48).length = 64) := by show _ = _; rw [Sha.expTo_length, hl]
      rw [zeros_us] at hr
      go_wp2_with (first
        | (refine wpLoadUs 121 64 (w.heap.size + 2) (Sha.expTo l 48) rfl _ rfl rfl hg (by kernel_rfl) (by kernel_rfl) e48.out ?_)
        | (refine wpStoreUs 121 64 (w.heap.size + 1) (Sha.expTo l 48) (List.replicate 64 0) rfl _ _ rfl rfl rfl hr (by kernel_rfl) e48.out (by simp) ?_))
      refine bodyPost_ret (v := .agg (us (Sha.expTo l 48))) (results_cell_row (p := 2) (ty := 121) rfl _ _ (w.heap.size + 1) 121 _ (0, 0) (.array 64 92) rfl (heapSetRow hr) (by kernel_rfl) rfl (by rw [us_size, e48.out]; kernel_rfl)) rfl ⟨rfl, ?_⟩
      exact belowSetRow hB (by omega) _
end Go.Proofs.YtphhafaoccfdpaaDoor
