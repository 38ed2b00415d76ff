/- Walks: Join of one, Sum. -/
import Derived.Test.YtphhafaoccfdpaaDoorShaW4
namespace Go.Proofs.YtphhafaoccfdpaaDoor
open Go.RowKit
open Go.Proofs
set_option maxHeartbeats 800000
set_option maxRecDepth 100000

/-- a string's bytes as numbers -/
def nums (s : ByteArray) : List Nat := s.data.toList.map UInt8.toNat
theorem nums_length (s : ByteArray) : (nums s).length = s.size := by simp [nums]
theorem nums_lt (s : ByteArray) : ∀ x ∈ nums s, x < 256 := by
  intro x hx; simp [nums] at hx; obtain ⟨b, _, rfl⟩ := hx; exact b.toNat_lt

theorem strN_size (l : List Nat) : (strN l).size = l.length := by simp [strN, ByteArray.size]
theorem pad_size (n : Nat) : (strN (Sha.pad n)).size ≤ 72 := by
  rw [strN_size, Sha.pad, Sha.padTo_length]; have := Sha.noughts_lt n; omega
theorem nums_append (a b : ByteArray) : nums (a ++ b) = nums a ++ nums b := by simp [nums]
theorem nums_strN (l : List Nat) (h : ∀ x ∈ l, x < 256) : nums (strN l) = l := by
  simp only [nums, strN, List.map_map]
  rw [List.map_congr_left (g := id)]
  · simp
  · intro x hx; have := h x hx; simp; omega
theorem bs_one (l : List Nat) : ∀ v ∈ (bs l).toList, v.oneCell' = true := by
  intro v hv; simp [bs] at hv; obtain ⟨x, _, rfl⟩ := hv; rfl
theorem bs_all (l : List Nat) : (bs l).all (·.oneCell') = true := by
  rw [Array.all_eq_true]; intro i hi
  exact bs_one l _ (by simp)
theorem wpLoadBs {ops : Array Oper} {rest : List Oper} {o : Oper} {a : Act} {w : World} {Q : Exit → Act → World → Prop} (T n g : Nat) (l : List Nat) (hgd : o.guard = none) (x : Operand) (ho : o.op = .load T x)
    (hx : a.eval x = .pointer (some ⟨g, 0, none⟩)) (hg : w.heap[g]? = some (.cells (bs l) T (0, 0))) (hu : Tryd.prog.underlying T = some (.array n 5)) (hi : (Tryd.prog.info? T).map (·.size) = some n)
    (hl : l.length = n) (h : wpList Tryd.prog ops Q rest (a.put o.dst (.agg (bs l))) w) : wpList Tryd.prog ops Q (o :: rest) a w :=
  wpList_load_row hgd T x ho g hx T _ (0, 0) (.array n 5) hg hu rfl (by rw [bs_size, hl]; exact hi) h
theorem wpStoreBs {ops : Array Oper} {rest : List Oper} {o : Oper} {a : Act} {w : World} {Q : Exit → Act → World → Prop} (T n g : Nat) (l l0 : List Nat) (hgd : o.guard = none) (x y : Operand) (ho : o.op = .store T x y)
    (hx : a.eval x = .pointer (some ⟨g, 0, none⟩)) (hy : a.eval y = .agg (bs l)) (hg : w.heap[g]? = some (.cells (bs l0) T (0, 0))) (hi : (Tryd.prog.info? T).map (·.size) = some n)
    (hl : l.length = n) (hl0 : l0.length = n) (h : wpList Tryd.prog ops Q rest (a.put o.dst undef) (w.setRow g (bs l))) : wpList Tryd.prog ops Q (o :: rest) a w :=
  wpList_store_row hgd T x y ho g _ hx hy T _ hg (by rw [bs_size, hl]; exact hi) (by rw [bs_size, bs_size, hl, hl0]) (bs_all l) h
theorem Join_one (s sep : ByteArray) (b : Nat) (c : Nat) (w : World) (h : w.cell? ⟨b, 0, none⟩ = some (.string s)) :
    Calls Tryd.prog 55 #[.slice (some ⟨b, 0, none⟩) 1 c, .string sep] w fun e w' => e = .returned (.string s) ∧ w = w' := by
  go_enter Tryd.func55, Tryd.ntmps55
  go_wp2
  go_ret
  exact ⟨rfl, rfl⟩
theorem zero_x32 (w : World) : (zeroValue 78).run Tryd.prog w = .ok (.agg (bs (List.replicate 32 0))) w := by kernel_rfl
theorem zero_x16 (w : World) : (zeroValue 94).run Tryd.prog w = .ok (.agg (us (List.replicate 16 0))) w := by kernel_rfl
theorem zero_x8 (w : World) : (zeroValue 93).run Tryd.prog w = .ok (.agg (us (List.replicate 8 0))) w := by kernel_rfl

theorem or3 (x0 x1 x2 x3 : Int) (r0 r1 r2 r3 : Nat) (e0 : x0 = r0) (e1 : x1 = r1) (e2 : x2 = r2) (e3 : x3 = r3) (a1 : r0 < 4294967296) (a2 : r1 < 4294967296) (a3 : r2 < 4294967296) (a4 : r3 < 4294967296) :
    bits .or .u32 (bits .or .u32 (bits .or .u32 x0 x1) x2) x3 = ((((r0 ||| r1) ||| r2) ||| r3 : Nat) : Int) := by
  rw [e0, e1, e2, e3, u32_or_nat _ _ a1 a2, u32_or_nat _ _ (Sha.or_lt a1 a2) a3, u32_or_nat _ _ (Sha.or_lt (Sha.or_lt a1 a2) a3) a4]
theorem wr0 (q : Nat) (h : q < 256) : IntKind.u32.wrap (IntKind.u32.wrap (q : Int) * 16777216) = ((q * 16777216 : Nat) : Int) := by simp only [IntKind.wrap_u32]; omega
theorem wr1 (q : Nat) (h : q < 256) : IntKind.u32.wrap (IntKind.u32.wrap (q : Int) * 65536) = ((q * 65536 : Nat) : Int) := by simp only [IntKind.wrap_u32]; omega
theorem wr2 (q : Nat) (h : q < 256) : IntKind.u32.wrap (IntKind.u32.wrap (q : Int) * 256) = ((q * 256 : Nat) : Int) := by simp only [IntKind.wrap_u32]; omega
theorem wr3 (q : Nat) (h : q < 256) : IntKind.u32.wrap (q : Int) = (q : Int) := by simp only [IntKind.wrap_u32]; omega
theorem lt0 (q : Nat) (h : q < 256) : q * 16777216 < 4294967296 := by omega
theorem lt1 (q : Nat) (h : q < 256) : q * 65536 < 4294967296 := by omega
theorem lt2 (q : Nat) (h : q < 256) : q * 256 < 4294967296 := by omega
theorem lt3 (q : Nat) (h : q < 256) : q < 4294967296 := by omega
theorem word_eq (q0 q1 q2 q3 : Nat) (h0 : q0 < 256) (h1 : q1 < 256) (h2 : q2 < 256) (h3 : q3 < 256) :
    bits .or .u32 (bits .or .u32 (bits .or .u32 (IntKind.u32.wrap (IntKind.u32.wrap (q0 : Int) * 16777216)) (IntKind.u32.wrap (IntKind.u32.wrap (q1 : Int) * 65536))) (IntKind.u32.wrap (IntKind.u32.wrap (q2 : Int) * 256))) (IntKind.u32.wrap (q3 : Int))
      = ((((q0 * 16777216 ||| q1 * 65536) ||| q2 * 256) ||| q3 : Nat) : Int) :=
  or3 _ _ _ _ _ _ _ _ (wr0 _ h0) (wr1 _ h1) (wr2 _ h2) (wr3 _ h3) (lt0 _ h0) (lt1 _ h1) (lt2 _ h2) (lt3 _ h3)
theorem nums_getD (s : ByteArray) (i : Nat) (h : i < s.size) : (nums s).getD i 0 = s[i].toNat := by
  rw [List.getD_eq_getElem?_getD, nums, List.getElem?_map]
  have : s.data.toList[i]? = some s[i] := by
    rw [Array.getElem?_toList]; exact Array.getElem?_eq_getElem h
  rw [this]; rfl

theorem Sum_any (s : ByteArray) (b : Nat) (c : Nat) (w : World) (hs : s.size ≤ 281474976710656) (h : w.cell? ⟨b, 0, none⟩ = some (.string s)) (hT : TableOk w) :
    Calls Tryd.prog 43 #[.slice (some ⟨b, 0, none⟩) 1 c] w fun e w' => e = .returned (.agg (bs (Sha.sum (nums s)))) ∧ Below w.heap.size w w' := by
  have hbl : b < w.heap.size := block_lt_of_cell h
  replace hT := Lib.hid hT
  replace h := Lib.hid h
  have hps := pad_size s.size
  go_enter Tryd.func43, Tryd.ntmps43
  go_wp2_with (first
    | (refine wpListAllocAbs 2 rfl rfl 78 rfl (.agg (bs (List.replicate 32 0))) zero_x32 ?_; intro W1 h0; have h1 := Lib.hid h0; clear h0; have c1 : Hid (W1.cell? ⟨b, 0, none⟩ = some (.string s)) := (by show _ = _; rw [← h1.out, ← h.out]; exact (World.cell?_of_block (Below.heap_alloc w _ b hbl))))
    | (go_at_call 55; refine (Join_one s _ b c _ c1.out).mono ?_; rintro e w' ⟨rfl, rfl⟩)
    | (go_at_call 56; refine (pad_any s.size (by omega) _).mono ?_; rintro e W2 ⟨rfl, h0⟩; have hb2 := Lib.hid h0; clear h0)
    | (refine wpListAllocAbs 4 rfl rfl 93 rfl (.agg (us (List.replicate 8 0))) zero_x8 ?_; intro W3 h0; have h3 := Lib.hid h0; clear h0)
    | (refine wpStoreUs 93 8 W2.heap.size Sha.init (List.replicate 8 0) rfl _ _ rfl rfl rfl (by rw [← h3.out]; exact heap_alloc_new _ _) (by kernel_rfl) rfl (by simp) ?_))
  have z1 : W1.heap.size = w.heap.size + 1 := by rw [← h1.out]; simp
  have z2 : w.heap.size + 1 ≤ W2.heap.size := by have := hb2.out.size; omega
  generalize hW4 : World.setRow _ _ _ = W4
  have hB4 : Below w.heap.size w W4 := by
    rw [← hW4, ← h3.out]
    refine belowSetRow (Below.alloc ?_ (by omega) _) (by omega) _
    refine Below.trans ?_ (hb2.out.mono (by omega))
    rw [← h1.out]; exact (Below.refl _ _).alloc (Nat.le_refl _) _
  have hR4 : W4.heap[w.heap.size]? = some (.cells (bs (List.replicate 32 0)) 78 (0, 0)) := by
    rw [← hW4, heapSetRowNe (by omega), ← h3.out, Below.heap_alloc _ _ _ (by omega), hb2.out.block _ (by omega), ← h1.out]
    exact heap_alloc_new _ _
  have hH4 : W4.heap[W2.heap.size]? = some (.cells (us (Sha.hashTo (Sha.msg (nums s)) 0)) 93 (0, 0)) := by
    rw [← hW4]; refine heapSetRow (c := us (List.replicate 8 0)) ?_
    rw [← h3.out]; exact heap_alloc_new _ _
  have z4 : W2.heap.size < W4.heap.size := by rw [← hW4, ← h3.out]; simp
  clear hW4 h3 hb2 z1 c1 h1 W3
  generalize W2.heap.size = bh at *
  clear W2 W1
  simp only [Act.put, List.setIfInBounds_toArray, List.set_cons_succ, List.set_cons_zero]
  obtain ⟨s0, hs0⟩ : ∃ s0, s ++ strN (Sha.pad s.size) = s0 := ⟨_, rfl⟩
  have hn0 : Hid (nums s0 = (Sha.msg (nums s)).drop (64 * 0)) := by
    show _ = _; rw [← hs0, nums_append, nums_strN (Sha.pad s.size) (Sha.padTo_lt _ _)]; simp [Sha.msg, nums_length]
  have hml : Hid ((Sha.msg (nums s)).length ≤ 281474976710800) := by
    show _ ≤ _; simp only [Sha.msg, List.length_append, nums_length]; have := pad_size s.size; rw [strN_size] at this; omega
  have hmm : Hid ((Sha.msg (nums s)).length % 64 = 0) := Sha.msg_mod _
  have hmlt : Hid (∀ x ∈ Sha.msg (nums s), x < 256) := Sha.msg_lt (nums_lt s)
  have hsum : Hid (Sha.sum (nums s) = Sha.outTo (Sha.hashTo (Sha.msg (nums s)) ((Sha.msg (nums s)).length / 64)) 32) := rfl
  generalize Sha.msg (nums s) = m at *
  rw [hs0]
  clear hs0
  go_loopw [3, 5, 6, 20] (fun a _ _ _ wr => ∃ (j : Nat) (s' : ByteArray), a = .string s' ∧ Hid (nums s' = m.drop (64 * j)) ∧ s'.size ≤ 281474976710800 ∧ Hid (64 * j ≤ m.length) ∧ wr.heap[w.heap.size]? = some (.cells (bs (List.replicate 32 0)) 78 (0, 0)) ∧ wr.heap[bh]? = some (.cells (us (Sha.hashTo m j)) 93 (0, 0)) ∧ Below w.heap.size w wr ∧ bh < wr.heap.size)
    (fun a _ _ _ _ => match a with | .string s => s.size | _ => 0)
  case atStart => exact ⟨0, s0, rfl, hn0, by have h := congrArg List.length hn0.out; rw [nums_length] at h; have := hml.out; simp at h; omega, by show _ ≤ _; omega, hR4, hH4, hB4, z4⟩
  case round =>
    obtain ⟨j, s', rfl, hn, hsz, hjm, hR, hH, hB, hz⟩ := hrel
    clear hR4 hH4 hB4 z4 hn0
    obtain ⟨wo, rfl⟩ : ∃ wo : World, wo = wr := ⟨_, rfl⟩
    by_cases hge : 64 ≤ s'.size
    · go_wp2_with (refine wpListAllocAbs 5 rfl rfl 94 rfl (.agg (us (List.replicate 16 0))) zero_x16 ?_; intro W5 h0; have h5 := Lib.hid h0; clear h0)
      have z5 : W5.heap.size = wo.heap.size + 1 := by rw [← h5.out]; simp
      have hw5 : W5.heap[wo.heap.size]? = some (.cells (us (Sha.wordsTo (nums s') 0)) 94 (0, 0)) := by
        rw [← h5.out, heap_alloc_new, Sha.wordsTo, Sha.zeroTo]; rfl
      have hR5 : W5.heap[w.heap.size]? = some (.cells (bs (List.replicate 32 0)) 78 (0, 0)) := by
        rw [← h5.out, Below.heap_alloc _ _ _ (by omega)]; exact hR
      have hH5 : W5.heap[bh]? = some (.cells (us (Sha.hashTo m j)) 93 (0, 0)) := by
        rw [← h5.out, Below.heap_alloc _ _ _ hz]; exact hH
      have hB5 : Below w.heap.size w W5 := by rw [← h5.out]; exact hB.alloc hB.size _
      clear h5
      go_loopw [6, 20] (fun _ i wr => ∃ k : Nat, k ≤ 16 ∧ i = .int .i64 k ∧ wr.heap[wo.heap.size]? = some (.cells (us (Sha.wordsTo (nums s') k)) 94 (0, 0)) ∧ wr.heap[w.heap.size]? = some (.cells (bs (List.replicate 32 0)) 78 (0, 0)) ∧ wr.heap[bh]? = some (.cells (us (Sha.hashTo m j)) 93 (0, 0)) ∧ Below w.heap.size w wr)
        (fun _ i _ => 16 - (intOf i).toNat)
      case atStart => exact ⟨0, by omega, rfl, hw5, hR5, hH5, hB5⟩
      case round =>
        obtain ⟨k, hk, rfl, gw, gR, gH, gB⟩ := hrel
        clear hw5 hR5 hH5 hB5
        by_cases hlt : k < 16
        · go_wp2
          have cc := cellAt gw k
          rw [us_at _ _ (by rw [Sha.wordsTo_length]; exact hlt)] at cc
          have cf := freeAt gw k
          have i0 : 4 * (k : Int) < s'.size := by omega
          have i1 : 4 * (k : Int) + 1 < s'.size := by omega
          have i2 : 4 * (k : Int) + 2 < s'.size := by omega
          have i3 : 4 * (k : Int) + 3 < s'.size := by omega
          have w0 : IntKind.i64.wrap (4 * (k : Int)) = 4 * (k : Int) := IntWalk.i64_in _ (by omega)
          have w1 : IntKind.i64.wrap (4 * (k : Int) + 1) = 4 * (k : Int) + 1 := IntWalk.i64_in _ (by omega)
          have w2 : IntKind.i64.wrap (4 * (k : Int) + 2) = 4 * (k : Int) + 2 := IntWalk.i64_in _ (by omega)
          have w3 : IntKind.i64.wrap (4 * (k : Int) + 3) = 4 * (k : Int) + 3 := IntWalk.i64_in _ (by omega)
          have p0 : 0 ≤ 4 * (k : Int) := by omega
          have p1 : 0 ≤ 4 * (k : Int) + 1 := by omega
          have p2 : 0 ≤ 4 * (k : Int) + 2 := by omega
          have p3 : 0 ≤ 4 * (k : Int) + 3 := by omega
          have t0 : (4 * (k : Int)).toNat = 4 * k := by omega
          have t1 : (4 * (k : Int) + 1).toNat = 4 * k + 1 := by omega
          have t2 : (4 * (k : Int) + 2).toNat = 4 * k + 2 := by omega
          have t3 : (4 * (k : Int) + 3).toNat = 4 * k + 3 := by omega
          have hk16 : (k : Int) < 16 := by omega
          refine wpTail 31 (by kernel_rfl) (by kernel_rfl) ?_
          simp only [List.take_succ_cons, List.take_zero, List.drop_succ_cons, List.drop_zero]
          repeat still_step
          refine wpStill_nil ?_
          have hwd : Hid (((s'[4 * k].toNat * 16777216 ||| s'[4 * k + 1].toNat * 65536) ||| s'[4 * k + 2].toNat * 256) ||| s'[4 * k + 3].toNat = Sha.word (nums s') k) := by
            show _ = _; rw [Sha.word, nums_getD _ _ (by omega), nums_getD _ _ (by omega), nums_getD _ _ (by omega), nums_getD _ _ (by omega)]
          rw [word_eq _ _ _ _ (UInt8.toNat_lt _) (UInt8.toNat_lt _) (UInt8.toNat_lt _) (UInt8.toNat_lt _), hwd.out]
          have e2 : Hid (Sha.wordsTo (nums s') (k + 1) = (Sha.wordsTo (nums s') k).set k (Sha.word (nums s') k)) := Sha.setTo 16 _ k hlt
          clear hwd
          generalize Sha.word (nums s') k = wd at *
          go_wp2
          refine ⟨⟨k + 1, by omega, by go_num, ?_, ?_, ?_, ?_⟩, by simp [intOf]; omega⟩
          · refine (heap_setCell_same wr _ _ _ _ _ gw).trans ?_
            rw [e2.out, ← us_set]
          · exact (heap_setCell_other _ _ _ _ (by simp; omega)).trans gR
          · exact (heap_setCell_other _ _ _ _ (by simp; omega)).trans gH
          · exact (gB.setCell (by simp; omega) _).drew
        · obtain rfl : k = 16 := by omega
          have hw16 : Hid (Sha.hashTo m (j + 1) = Sha.compress (Sha.hashTo m j) (Sha.wordsTo (nums s') 16)) := by
            show _ = _; rw [Sha.hashTo, hn.out]
          have hwu := Sha.wordsTo_u32 (nums_lt s') 16
          replace hwu := Lib.hid hwu
          have hT' : Hid (TableOk wr) := hT.out.below gB (Nat.le_refl _)
          go_wp2_with (first
            | (refine wpLoadUs 93 8 bh (Sha.hashTo m j) rfl _ rfl rfl gH (by kernel_rfl) (by kernel_rfl) (Sha.hashTo_length _ _) ?_)
            | (refine wpLoadUs 94 16 wo.heap.size (Sha.wordsTo (nums s') 16) rfl _ rfl rfl gw (by kernel_rfl) (by kernel_rfl) (Sha.wordsTo_length _ _) ?_)
            | (go_at_call 57; refine (compress_any _ _ (Sha.hashTo_length _ _) (Sha.wordsTo_length _ _) (Sha.hashTo_u32 _ _) hwu.out _ hT'.out).mono ?_; rintro e W7 ⟨rfl, h0⟩; have h7 := Lib.hid h0; clear h0)
            | (refine wpStoreUs 93 8 bh (Sha.compress (Sha.hashTo m j) (Sha.wordsTo (nums s') 16)) (Sha.hashTo m j) rfl _ _ rfl rfl rfl ((h7.out.block _ (block_lt_of_heap gH)).trans gH) (by kernel_rfl) (Sha.compress_length _ _) (Sha.hashTo_length _ _) ?_))
          have hlen : s'.size = m.length - 64 * j := by have h := congrArg List.length hn.out; rwa [nums_length, List.length_drop] at h
          refine ⟨⟨j + 1, _, rfl, ?_, ?_, ?_, ?_, ?_, ?_, ?_⟩, ?_⟩
          · show _ = _
            have e : nums (s'.extract 64 s'.size) = (nums s').drop 64 := by
              simp [nums, ByteArray.data_extract, Array.toList_extract, List.extract]
              rw [List.take_of_length_le (by simp)]
            rw [e, hn.out, List.drop_drop]; congr 1
          · simp; omega
          · show _ ≤ _; omega
          · exact (heapSetRowNe (by omega)).trans ((h7.out.block _ (block_lt_of_heap gR)).trans gR)
          · rw [hw16.out]; exact heapSetRow ((h7.out.block _ (block_lt_of_heap gH)).trans gH)
          · exact belowSetRow (gB.trans (h7.out.mono gB.size)) (by omega) _
          · simp; exact Nat.lt_of_lt_of_le (block_lt_of_heap gH) h7.out.size
          · show (s'.extract 64 s'.size).size < s'.size; simp; omega
    · have hlen : s'.size = m.length - 64 * j := by have h := congrArg List.length hn.out; rwa [nums_length, List.length_drop] at h
      have hj : Hid (Sha.hashTo m (m.length / 64) = Sha.hashTo m j) := by
        show _ = _; have h1 := hmm.out; have h2 := hjm.out; rw [show m.length / 64 = j by omega]
      have hh8 := Sha.hashTo_length m j
      have hhu := Sha.hashTo_u32 m j
      replace hh8 := Lib.hid hh8
      replace hhu := Lib.hid hhu
      generalize Sha.hashTo m j = hf at *
      replace hlen := Lib.hid hlen
      go_wp2_with (refine wpListAllocAbs 7 rfl rfl 78 rfl (.agg (bs (List.replicate 32 0))) zero_x32 ?_; intro W8 h0; have h8 := Lib.hid h0; clear h0)
      have z8 : W8.heap.size = wo.heap.size + 1 := by rw [← h8.out]; simp
      have g8 : W8.heap[wo.heap.size]? = some (.cells (bs (Sha.outTo hf 0)) 78 (0, 0)) := by
        rw [← h8.out, heap_alloc_new, Sha.outTo, Sha.zeroTo]; rfl
      have R8 : W8.heap[w.heap.size]? = some (.cells (bs (List.replicate 32 0)) 78 (0, 0)) := by
        rw [← h8.out, Below.heap_alloc _ _ _ (by omega)]; exact hR
      have H8 : W8.heap[bh]? = some (.cells (us hf) 93 (0, 0)) := by
        rw [← h8.out, Below.heap_alloc _ _ _ hz]; exact hH
      have B8 : Below w.heap.size w W8 := by rw [← h8.out]; exact hB.alloc hB.size _
      clear h8
      go_loopw [8, 60] (fun _ i wr => ∃ k : Nat, k ≤ 32 ∧ i = .int .i64 k ∧ wr.heap[wo.heap.size]? = some (.cells (bs (Sha.outTo hf k)) 78 (0, 0)) ∧ wr.heap[w.heap.size]? = some (.cells (bs (List.replicate 32 0)) 78 (0, 0)) ∧ wr.heap[bh]? = some (.cells (us hf) 93 (0, 0)) ∧ Below w.heap.size w wr)
        (fun _ i _ => 32 - (intOf i).toNat)
      case atStart => exact ⟨0, by omega, rfl, g8, R8, H8, B8⟩
      case round =>
        obtain ⟨k, hk, rfl, gw, gR, gH, gB⟩ := hrel
        clear g8 R8 H8 B8
        by_cases hlt : k < 32
        · have cc := cellAt gw k
          rw [bs_at _ _ (by rw [Sha.outTo_length]; exact hlt)] at cc
          have cf := freeAt gw k
          have ch := cellAt gH (k / 4)
          rw [us_at _ _ (by rw [hh8.out]; omega)] at ch
          have d4 : (k : Int) / 4 < 8 := by omega
          have d4' : 0 ≤ (k : Int) / 4 := by omega
          have m4 : 0 ≤ 24 - 8 * ((k : Int) % 4) := by omega
          have m4' : 24 - 8 * ((k : Int) % 4) ≤ 32 := by omega
          have e2 : Hid (Sha.outTo hf (k + 1) = (Sha.outTo hf k).set k (Sha.byteOf hf k)) := Sha.setTo 32 _ k hlt
          go_wp2
          refine ⟨⟨k + 1, by omega, by go_num, ?_, ?_, ?_, ?_⟩, by simp [intOf]; omega⟩
          · refine (heap_setCell_same wr _ _ _ _ _ gw).trans ?_
            rw [e2.out, ← bs_set]
            simp [Sha.byteOf, List.getD_eq_getElem?_getD]
          · exact (heap_setCell_other _ _ _ _ (by simp; omega)).trans gR
          · exact (heap_setCell_other _ _ _ _ (by simp; omega)).trans gH
          · exact gB.setCell (by simp; omega) _
        · obtain rfl : k = 32 := by omega
          go_wp2_with (first
            | (refine wpLoadBs 78 32 wo.heap.size (Sha.outTo hf 32) rfl _ rfl rfl gw (by kernel_rfl) (by kernel_rfl) (Sha.outTo_length _ _) ?_)
            | (refine wpStoreBs 78 32 w.heap.size (Sha.outTo hf 32) (List.replicate 32 0) rfl _ _ rfl rfl rfl gR (by kernel_rfl) (Sha.outTo_length _ _) (by simp) ?_))
          refine bodyPost_ret (v := .agg (bs (Sha.outTo hf 32))) (results_cell_row (p := 2) (ty := 78) rfl _ _ w.heap.size 78 _ (0, 0) (.array 32 5) rfl (heapSetRow gR) (by kernel_rfl) rfl (by rw [bs_size, Sha.outTo_length]; kernel_rfl)) rfl ⟨?_, belowSetRow gB (by omega) _⟩
          rw [hsum.out, hj.out]
/-- a text's hash as a number -/
def ptS (s : ByteArray) : Nat := Sha.pt (nums s)
theorem ptS_lt (s : ByteArray) : ptS s < 18446744073709551616 := Sha.pt_lt _

theorem ptStep (p d : Nat) (hd : d < 256) : bits .or .u64 (IntKind.u64.wrap ((p : Int) * 256)) (d : Int) = ((p * 256 % 18446744073709551616 ||| d : Nat) : Int) := by
  have e : IntKind.u64.wrap ((p : Int) * 256) = ((p * 256 % 18446744073709551616 : Nat) : Int) := by
    simp only [IntKind.wrap, IntKind.bits, IntKind.signed]
    simp
  rw [e, u64_or_nat _ _ (Nat.mod_lt _ (by omega)) (by omega)]
theorem Point_any (s : ByteArray) (b : Nat) (c : Nat) (w : World) (hs : s.size ≤ 281474976710656) (h : w.cell? ⟨b, 0, none⟩ = some (.string s)) (hT : TableOk w) :
    Calls Tryd.prog 27 #[.slice (some ⟨b, 0, none⟩) 1 c] w fun e w' => e = .returned (.int .u64 (ptS s : Nat)) ∧ Below w.heap.size w w' := by
  replace hT := Lib.hid hT
  replace h := Lib.hid h
  have hp : Hid (ptS s = Sha.ptTo (Sha.sum (nums s)) 8) := rfl
  have hl : Hid ((Sha.sum (nums s)).length = 32) := Sha.outTo_length _ _
  have hlt_ : Hid (∀ x ∈ Sha.sum (nums s), x < 256) := Sha.outTo_lt _ _
  go_enter Tryd.func27, Tryd.ntmps27
  go_wp2_with (first
    | (go_at_call 43; refine (Sum_any s b c _ hs h.out hT.out).mono ?_; rintro e W1 ⟨rfl, h0⟩; have hB1 := Lib.hid h0; clear h0)
    | (refine wpListAllocAbs 3 rfl rfl 78 rfl (.agg (bs (List.replicate 32 0))) zero_x32 ?_; intro W2 h0; have h2 := Lib.hid h0; clear h0)
    | (refine wpStoreBs 78 32 W1.heap.size (Sha.sum (nums s)) (List.replicate 32 0) rfl _ _ rfl rfl rfl (by rw [← h2.out]; exact heap_alloc_new _ _) (by kernel_rfl) hl.out (by simp) ?_))
  generalize hW3 : World.setRow _ _ _ = W3
  generalize Sha.sum (nums s) = d at *
  have z1 : w.heap.size ≤ W1.heap.size := hB1.out.size
  have B3 : Below w.heap.size w W3 := by
    rw [← hW3, ← h2.out]; exact belowSetRow (hB1.out.alloc z1 _) z1 _
  have g3 : W3.heap[W1.heap.size]? = some (.cells (bs d) 78 (0, 0)) := by
    rw [← hW3]; refine heapSetRow (c := bs (List.replicate 32 0)) ?_
    rw [← h2.out]; exact heap_alloc_new _ _
  clear hW3 h2 hB1
  go_wp2
  go_loopw [4, 6, 11] (fun p _ i wr => ∃ k : Nat, k ≤ 8 ∧ i = .int .i64 k ∧ p = .int .u64 (Sha.ptTo d k : Nat) ∧ wr = W3)
    (fun _ _ i _ => 8 - (intOf i).toNat)
  case atStart => exact ⟨0, by omega, rfl, rfl, rfl⟩
  case round =>
    obtain ⟨k, hk, rfl, rfl, rfl⟩ := hrel
    by_cases hlt : k < 8
    · have cc := cellAt g3 k
      rw [bs_at _ _ (by rw [hl.out]; omega)] at cc
      have hd : d.getD k 0 < 256 := by
        rw [List.getD_eq_getElem?_getD]
        cases hj : d[k]? with
        | none => simp
        | some v => simpa using hlt_.out v (List.mem_of_getElem? hj)
      have e2 : Hid (Sha.ptTo d (k + 1) = (Sha.ptTo d k * 256 % 18446744073709551616) ||| d.getD k 0) := rfl
      have hu := Sha.ptTo_lt hlt_.out k
      replace hu := Lib.hid hu
      generalize d.getD k 0 = dk at *
      generalize Sha.ptTo d k = pk at *
      go_wp2
      refine ⟨⟨k + 1, by omega, by go_num, ?_, trivial⟩, by simp [intOf]; omega⟩
      rw [e2.out, ptStep _ _ hd]
    · obtain rfl : k = 8 := by omega
      go_wp2
      go_ret
      exact ⟨by rw [hp.out]; rfl, B3⟩
end Go.Proofs.YtphhafaoccfdpaaDoor
