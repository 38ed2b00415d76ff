/- Walks: the reference's Compress. -/
import Derived.Test.YtphhafaoccfdpaaDoorRefS1
import Derived.Deep.Cut
namespace Go.Proofs.YtphhafaoccfdpaaDoor
open Go.RowKit
open Go.Proofs
set_option maxHeartbeats 1600000
set_option maxRecDepth 100000

theorem compressR_any (h l : List Nat) (hh : h.length = 8) (hl : l.length = 16) (hhu : Sha.U32 h) (hu : Sha.U32 l) (w : World) :
    Calls Tryd.prog 70 #[.agg (us h), .agg (us l)] w fun e w' => e = .returned (.agg (us (Sha.compress h l))) ∧ Below w.heap.size w w' := by
  replace hh := Lib.hid hh
  replace hl := Lib.hid hl
  replace hhu := Lib.hid hhu
  replace hu := Lib.hid hu
  go_enter Tryd.func70, Tryd.ntmps70
  go_upto_region 2 with (first
    | (refine wpLoadUs 94 16 (w.heap.size + 1) l rfl _ rfl rfl (heap3b _ _ _ _) (by kernel_rfl) (by kernel_rfl) hl.out ?_)
    | (go_at_call 90; refine (expandR_any l hl.out hu.out _).mono ?_; rintro e W1 ⟨rfl, hb⟩; have hB1 := Lib.hid hb; clear hb)
    | (refine wpListAllocAbs 5 rfl rfl 121 rfl (.agg zeros64) zero_x64 ?_; intro W2 h; have h2 := Lib.hid h; clear h)
    | (refine wpStoreUs 121 64 W1.heap.size (Sha.expTo l 48) (List.replicate 64 0) rfl _ _ rfl rfl rfl (by rw [← h2.out]; exact heap_alloc_new _ _) (by kernel_rfl) (by rw [Sha.expTo_length, hl.out]) (by simp) ?_))
  have hB2 : Below w.heap.size w W1 := by
    refine Below.trans ?_ (hB1.out.mono (by simp; omega))
    exact (((Below.refl _ w).alloc (Nat.le_refl _) _).alloc (by simp) _).alloc (by simp; omega) _
  have z1 : w.heap.size + 3 ≤ W1.heap.size := by have := hB1.out.size; simpa using this
  generalize hW3 : World.setRow _ _ _ = W3
  have hB3 : Below w.heap.size w W3 := by
    rw [← hW3, ← h2.out]
    exact belowSetRow (hB2.alloc (by omega) _) (by omega) _
  have hgH : W3.heap[w.heap.size]? = some (.cells (us h) 93 (0, 0)) := by
    rw [← hW3, heapSetRowNe (by omega), ← h2.out, Below.heap_alloc _ _ _ (by omega), hB1.out.block _ (by simp; omega)]
    exact heap3a _ _ _ _
  have hgR : W3.heap[w.heap.size + 2]? = some (.cells (us (List.replicate 8 0)) 93 (0, 0)) := by
    rw [← hW3, heapSetRowNe (by omega), ← h2.out, Below.heap_alloc _ _ _ (by omega), hB1.out.block _ (by simp)]
    exact heap3c _ _ _ _
  have hgX : W3.heap[W1.heap.size]? = some (.cells (us (Sha.expTo l 48)) 121 (0, 0)) := by
    rw [← hW3]; refine heapSetRow (c := zeros64) ?_
    rw [← h2.out]; exact heap_alloc_new _ _
  have z3 : W1.heap.size < W3.heap.size := by rw [← hW3, ← h2.out]; simp
  clear hW3 h2 hB1 hB2 W2
  generalize W1.heap.size = bx at *
  clear W1
  replace hB3 := Lib.hid hB3
  replace hgH := Lib.hid hgH
  replace hgR := Lib.hid hgR
  replace hgX := Lib.hid hgX
  go_upto_region 3 with (first
    | (go_at_call 91; refine (constR_any _).mono ?_; rintro e W4 ⟨rfl, hb⟩; have hB4 := Lib.hid hb; clear hb)
    | (refine wpListAllocAbs 6 rfl rfl 121 rfl (.agg zeros64) zero_x64 ?_; intro W5 h; have h5 := Lib.hid h; clear h)
    | (refine wpStoreUs 121 64 W4.heap.size Sha.table (List.replicate 64 0) rfl _ _ rfl rfl rfl (by rw [← h5.out]; exact heap_alloc_new _ _) (by kernel_rfl) rfl (by simp) ?_))
  have z4 : W3.heap.size ≤ W4.heap.size := hB4.out.size
  generalize hW6 : World.setRow _ _ _ = W6
  have b36 : Below W3.heap.size W3 W6 := by
    rw [← hW6, ← h5.out]
    exact belowSetRow (hB4.out.alloc (by omega) _) (by omega) _
  have hB6 : Below w.heap.size w W6 := hB3.out.trans (b36.mono hB3.out.size)
  have gH6 := (b36.block _ (block_lt_of_heap hgH.out)).trans hgH.out
  have gR6 := (b36.block _ (block_lt_of_heap hgR.out)).trans hgR.out
  have gX6 := (b36.block _ (block_lt_of_heap hgX.out)).trans hgX.out
  have gK6 : W6.heap[W4.heap.size]? = some (.cells (us Sha.table) 121 (0, 0)) := by
    rw [← hW6]; refine heapSetRow (c := zeros64) ?_
    rw [← h5.out]; exact heap_alloc_new _ _
  have z6 : W4.heap.size < W6.heap.size := by rw [← hW6, ← h5.out]; simp
  clear hW6 h5 hB4 hgH hgR hgX hB3 W5
  generalize hbk : W4.heap.size = bk at *
  have z34 : bx < bk := by omega
  clear b36
  clear hbk W4
  go_upto_region 4 with (first
    | (refine wpLoadUs 93 8 w.heap.size h rfl _ rfl rfl gH6 (by kernel_rfl) (by kernel_rfl) hh.out ?_)
    | (refine wpListAllocAbs 7 rfl rfl 93 rfl (.agg (us (List.replicate 8 0))) zero_x8 ?_; intro W7 h; have h7 := Lib.hid h; clear h)
    | (refine wpStoreUs 93 8 W6.heap.size h (List.replicate 8 0) rfl _ _ rfl rfl rfl (by rw [← h7.out]; exact heap_alloc_new _ _) (by kernel_rfl) hh.out (by simp) ?_))
  generalize hW8 : World.setRow _ _ _ = W8
  have b68 : Below W6.heap.size W6 W8 := by
    rw [← hW8, ← h7.out]
    exact belowSetRow ((Below.refl _ _).alloc (Nat.le_refl _) _) (Nat.le_refl _) _
  have hB8 : Below w.heap.size w W8 := hB6.trans (b68.mono hB6.size)
  have gH8 := (b68.block _ (block_lt_of_heap gH6)).trans gH6
  have gR8 := (b68.block _ (block_lt_of_heap gR6)).trans gR6
  have gX8 := (b68.block _ (block_lt_of_heap gX6)).trans gX6
  have gK8 := (b68.block _ (block_lt_of_heap gK6)).trans gK6
  have gS8 : W8.heap[W6.heap.size]? = some (.cells (us h) 93 (0, 0)) := by
    rw [← hW8]; refine heapSetRow (c := us (List.replicate 8 0)) ?_
    rw [← h7.out]; exact heap_alloc_new _ _
  clear hW8 h7 hB6 gH6 gR6 gX6 gK6 b68 W7
  have z6' : w.heap.size + 2 < W6.heap.size := by omega
  have zk : bk < W6.heap.size := z6
  generalize hbs : W6.heap.size = bs at *
  clear hbs z6 z4 z3 W6
  clear W3
  have hl8 : h = (Sha.ofL h).list := by
    apply List.ext_getElem?
    intro i
    by_cases hi : i < 8
    · have : ∀ j : Fin 8, h[j.val]? = (Sha.ofL h).list[j.val]? := by
        intro j
        have hj : j.val < h.length := by rw [hh.out]; exact j.isLt
        match j with
        | ⟨0, _⟩ | ⟨1, _⟩ | ⟨2, _⟩ | ⟨3, _⟩ | ⟨4, _⟩ | ⟨5, _⟩ | ⟨6, _⟩ | ⟨7, _⟩ => simp [Sha.ofL, Sha.St.list, List.getD_eq_getElem?_getD, List.getElem?_eq_getElem hj]
      exact this ⟨i, hi⟩
    · rw [List.getElem?_eq_none (by rw [hh.out]; omega), List.getElem?_eq_none (by rw [Sha.St.list_length]; omega)]
  have hU0 : (Sha.ofL h).U := Sha.ofL_U hhu.out
  have hXu := Lib.hid (Sha.expTo_u32 hu.out 48)
  have hXl : Hid ((Sha.expTo l 48).length = 64) := by show _ = _; rw [Sha.expTo_length, hl.out]
  have hC : Hid (Sha.compress h l = Sha.addTo h (Sha.rounds (Sha.expTo l 48) (Sha.ofL h) 64).list 8) := rfl
  have gS8' : W8.heap[bs]? = some (.cells (us (Sha.rounds (Sha.expTo l 48) (Sha.ofL h) 0).list) 93 (0, 0)) := by
    rw [gS8]; show _ = some (Obj.cells (us (Sha.ofL h).list) _ _); rw [← hl8]
  clear hl8 gS8
  replace hU0 := Lib.hid hU0
  generalize Sha.expTo l 48 = X at *
  generalize hS0 : Sha.ofL h = S0 at *
  clear hS0
  go_wp2
  go_loopw [8, 9, 10, 11, 12] (fun k _ _ _ _ wr => ∃ t : Nat, t ≤ 64 ∧ k = .int .i64 t ∧ wr.heap[bs]? = some (.cells (us (Sha.rounds X S0 t).list) 93 (0, 0)) ∧
      wr.heap[w.heap.size]? = some (.cells (us h) 93 (0, 0)) ∧ wr.heap[w.heap.size + 2]? = some (.cells (us (List.replicate 8 0)) 93 (0, 0)) ∧ wr.heap[bx]? = some (.cells (us X) 121 (0, 0)) ∧ wr.heap[bk]? = some (.cells (us Sha.table) 121 (0, 0)) ∧ Below w.heap.size w wr)
    (fun k _ _ _ _ _ => 64 - (intOf k).toNat)
  case atStart => exact ⟨0, by omega, rfl, gS8', gH8, gR8, gX8, gK8, hB8⟩
  case round =>
    obtain ⟨t, ht, rfl, gS, gH, gR, gX, gK, gB⟩ := hrel
    clear gS8' gH8 gR8 gX8 gK8 hB8
    by_cases hlt : t < 64
    · have ct : wr.cell? ⟨bk, t, none⟩ = some (.int .u32 ((Sha.table.getD t 0 : Nat) : Int)) := by rw [cellAt gK]; exact us_at _ _ (by show t < 64; exact hlt)
      have cx : wr.cell? ⟨bx, t, none⟩ = some (.int .u32 ((X.getD t 0 : Nat) : Int)) := by rw [cellAt gX]; exact us_at _ _ (by rw [hXl.out]; exact hlt)
      have ux := hXu.out.getD t
      have uk := table_u32.getD t
      have hR1 : Hid (Sha.rounds X S0 (t + 1) = Sha.rnd (Sha.rounds X S0 t) (Sha.table.getD t 0) (X.getD t 0)) := rfl
      have hU := Sha.rounds_U hU0.out X t
      replace gX := Lib.hid gX
      replace gK := Lib.hid gK
      generalize X.getD t 0 = xt at *
      generalize Sha.table.getD t 0 = kt at *
      generalize hst : Sha.rounds X S0 t = st at *
      obtain ⟨sa, sb, sc, sd, se, sf, sg, sh⟩ := st
      replace hst := Lib.hid hst
      obtain ⟨ua, ub, uc, ud, ue, uf, ug, uh⟩ := hU
      dsimp only at ua ub uc ud ue uf ug uh
      have at_ : ∀ j, j < 8 → wr.cell? ⟨bs, j, none⟩ = some (.int .u32 (((Sha.St.list ⟨sa, sb, sc, sd, se, sf, sg, sh⟩).getD j 0 : Nat) : Int)) := fun j hj => by rw [cellAt gS]; exact us_at _ _ hj
      have c0 : wr.cell? ⟨bs, 0, none⟩ = some (.int .u32 (sa : Int)) := at_ 0 (by omega)
      have c1 : wr.cell? ⟨bs, 1, none⟩ = some (.int .u32 (sb : Int)) := at_ 1 (by omega)
      have c2 : wr.cell? ⟨bs, 2, none⟩ = some (.int .u32 (sc : Int)) := at_ 2 (by omega)
      have c3 : wr.cell? ⟨bs, 3, none⟩ = some (.int .u32 (sd : Int)) := at_ 3 (by omega)
      have c4 : wr.cell? ⟨bs, 4, none⟩ = some (.int .u32 (se : Int)) := at_ 4 (by omega)
      have c5 : wr.cell? ⟨bs, 5, none⟩ = some (.int .u32 (sf : Int)) := at_ 5 (by omega)
      have c6 : wr.cell? ⟨bs, 6, none⟩ = some (.int .u32 (sg : Int)) := at_ 6 (by omega)
      have c7 : wr.cell? ⟨bs, 7, none⟩ = some (.int .u32 (sh : Int)) := at_ 7 (by omega)
      clear at_
      replace gS := Lib.hid gS
      go_wp2
      refine wpStillAll (by kernel_rfl) (by kernel_rfl) ?_
      repeat (first | still_step | still_call (stillOf (rotR_int (by assumption) (by omega) (by omega))))
      refine wpStill_nil ?_
      have hturn : bits .xor .u32 (bits .xor .u32 ((Sha.rotr se 6 : Nat) : Int) ((Sha.rotr se 11 : Nat) : Int)) ((Sha.rotr se 25 : Nat) : Int) = ((Sha.turn se 6 11 25 : Nat) : Int) := by
        have r1 := Sha.rotr_lt 6 ue
        have r2 := Sha.rotr_lt 11 ue
        have r3 := Sha.rotr_lt 25 ue
        rw [u32_xor_nat _ _ r1 r2, u32_xor_nat _ _ (Sha.xor_lt r1 r2) r3]; rfl
      have hone := one_eq sa sb sc sd se sf sg sh kt xt ue uf ug
      simp only [hturn, hone]
      have u1 : Sha.one ⟨sa, sb, sc, sd, se, sf, sg, sh⟩ kt xt < 4294967296 := Nat.mod_lt _ (by omega)
      clear hturn hone
      generalize ho1 : Sha.one ⟨sa, sb, sc, sd, se, sf, sg, sh⟩ kt xt = o1 at u1 ⊢
      replace ho1 := Lib.hid ho1
      go_wp2
      refine wpStillAll (by kernel_rfl) (by kernel_rfl) ?_
      repeat (first | still_step | still_call (stillOf (rotR_int (by assumption) (by omega) (by omega))))
      refine wpStill_nil ?_
      have htwo : IntKind.u32.wrap (bits .xor .u32 (bits .xor .u32 ((Sha.rotr sa 2 : Nat) : Int) ((Sha.rotr sa 13 : Nat) : Int)) ((Sha.rotr sa 22 : Nat) : Int) + bits .xor .u32 (bits .xor .u32 (bits .and .u32 (sa : Int) (sb : Int)) (bits .and .u32 (sa : Int) (sc : Int))) (bits .and .u32 (sb : Int) (sc : Int)))
          = ((Sha.two ⟨sa, sb, sc, sd, se, sf, sg, sh⟩ : Nat) : Int) := by
        have r1 := Sha.rotr_lt 2 ua
        have r2 := Sha.rotr_lt 13 ua
        have r3 := Sha.rotr_lt 22 ua
        rw [u32_xor_nat _ _ r1 r2, u32_xor_nat _ _ (Sha.xor_lt r1 r2) r3]
        rw [u32_and_nat _ _ ua ub, u32_and_nat _ _ ua uc, u32_and_nat _ _ ub uc, u32_xor_nat _ _ (Sha.and_lt ua) (Sha.and_lt ua), u32_xor_nat _ _ (Sha.xor_lt (Sha.and_lt ua) (Sha.and_lt ua)) (Sha.and_lt ub)]
        simp only [IntKind.wrap_u32, Sha.two, Sha.turn]
        omega
      simp only [htwo]
      have u2 : Sha.two ⟨sa, sb, sc, sd, se, sf, sg, sh⟩ < 4294967296 := Nat.mod_lt _ (by omega)
      clear htwo
      generalize ho2 : Sha.two ⟨sa, sb, sc, sd, se, sf, sg, sh⟩ = o2 at u2 ⊢
      replace ho2 := Lib.hid ho2
      obtain ⟨q1, hq1⟩ : ∃ q1 : Nat, ((o1 : Int) + (o2 : Int)) % 4294967296 = (q1 : Int) ∧ q1 = (o1 + o2) % 4294967296 := ⟨_, by omega, rfl⟩
      obtain ⟨q2, hq2⟩ : ∃ q2 : Nat, ((sd : Int) + (o1 : Int)) % 4294967296 = (q2 : Int) ∧ q2 = (sd + o1) % 4294967296 := ⟨_, by omega, rfl⟩
      obtain ⟨e1, hq1⟩ := hq1
      obtain ⟨e2, hq2⟩ := hq2
      replace hq1 := Lib.hid hq1
      replace hq2 := Lib.hid hq2
      go_wp2_with (refine wpStoreUs 93 8 bs [q1, sa, sb, sc, q2, se, sf, sg] (Sha.St.list ⟨sa, sb, sc, sd, se, sf, sg, sh⟩) rfl _ _ rfl rfl rfl gS.out (by kernel_rfl) rfl rfl ?_)
      refine ⟨⟨t + 1, by omega, by go_num, ?_, ?_, ?_, ?_, ?_, ?_⟩, by simp [intOf]; omega⟩
      · have e : Sha.rounds X S0 (t + 1) = ⟨q1, sa, sb, sc, q2, se, sf, sg⟩ := by
          rw [hR1.out]; simp only [Sha.rnd]; rw [ho1.out, ho2.out, hq1.out, hq2.out]
        rw [e]; exact heapSetRow gS.out
      · exact (heapSetRowNe (by omega)).trans gH
      · exact (heapSetRowNe (by omega)).trans gR
      · exact (heapSetRowNe (by omega)).trans gX.out
      · exact (heapSetRowNe (by omega)).trans gK.out
      · exact belowSetRow (gB.drew.drew) (by omega) _
    · obtain rfl : t = 64 := by omega
      clear ht hlt gX gK
      have hSu : Hid (Sha.U32 (Sha.rounds X S0 64).list) := Sha.St.list_u32 (Sha.rounds_U hU0.out X 64)
      have hSl : Hid ((Sha.rounds X S0 64).list.length = 8) := rfl
      generalize (Sha.rounds X S0 64).list = L at *
      have gS' : wr.heap[bs]? = some (.cells (us (Sha.addTo L h 0)) 93 (0, 0)) := by rw [Sha.addTo_zero _ _ hSl.out]; exact gS
      clear gS
      try simp only [Int.cast_ofNat_Int]
      go_wp2
      go_loopw [13] (fun k wr => ∃ t : Nat, t ≤ 8 ∧ k = .int .i64 t ∧ wr.heap[bs]? = some (.cells (us (Sha.addTo L h t)) 93 (0, 0)) ∧
          wr.heap[w.heap.size]? = some (.cells (us h) 93 (0, 0)) ∧ wr.heap[w.heap.size + 2]? = some (.cells (us (List.replicate 8 0)) 93 (0, 0)) ∧ Below w.heap.size w wr)
        (fun k _ => 8 - (intOf k).toNat)
      case atStart => exact ⟨0, by omega, rfl, gS', gH, gR, gB⟩
      case round =>
        clear gS' gH gR gB
        obtain ⟨t, ht, rfl, gS, gH, gR, gB⟩ := hrel
        by_cases hlt : t < 8
        · have hc : wr.cell? ⟨bs, t, none⟩ = some (.int .u32 (((Sha.addTo L h t).getD t 0 : Nat) : Int)) := by rw [cellAt gS]; exact us_at _ _ (by rw [Sha.addTo_length]; exact hlt)
          have hd : wr.cell? ⟨w.heap.size, t, none⟩ = some (.int .u32 ((h.getD t 0 : Nat) : Int)) := by rw [cellAt gH]; exact us_at _ _ (by rw [hh.out]; exact hlt)
          have hf := freeAt gS t
          have e1 : (Sha.addTo L h t).getD t 0 = L.getD t 0 := by rw [Sha.addTo_getD _ _ _ _ hlt, if_neg (by omega)]
          rw [e1] at hc
          have e2 : Hid (Sha.addTo L h (t + 1) = (Sha.addTo L h t).set t ((L.getD t 0 + h.getD t 0) % 4294967296)) := Sha.addTo_succ _ _ _ hlt
          clear e1
          generalize L.getD t 0 = p1 at *
          generalize h.getD t 0 = p2 at *
          have hp0 : 0 ≤ (t : Int) := by omega
          have hq8 : (t : Int) < 8 := by omega
          have ht0 : ((t : Int)).toNat = t := by omega
          go_wp2
          refine wpTail 8 (by kernel_rfl) (by kernel_rfl) ?_
          simp only [List.take_succ_cons, List.take_zero, List.drop_succ_cons, List.drop_zero]
          repeat still_step
          refine wpStill_nil ?_
          go_wp2
          go_ways
          refine ⟨⟨t + 1, by omega, by go_num, ?_, ?_, ?_, ?_⟩, by simp [intOf]; omega⟩
          · refine (heap_setCell_same wr _ _ _ _ _ gS).trans ?_
            rw [e2.out, ← us_set]
            simp
          · exact (heap_setCell_other _ _ _ _ (by simp; omega)).trans gH
          · exact (heap_setCell_other _ _ _ _ (by simp; omega)).trans gR
          · exact (gB.setCell (by simp; omega) _).drew
        · obtain rfl : t = 8 := by omega
          go_wp2_with (first
            | (refine wpLoadUs 93 8 bs (Sha.addTo L h 8) rfl _ rfl rfl gS (by kernel_rfl) (by kernel_rfl) (Sha.addTo_length _ _ _) ?_)
            | (refine wpStoreUs 93 8 (w.heap.size + 2) (Sha.addTo L h 8) (List.replicate 8 0) rfl _ _ rfl rfl rfl gR (by kernel_rfl) (Sha.addTo_length _ _ _) (by simp) ?_))
          refine bodyPost_ret (v := .agg (us (Sha.addTo L h 8))) (results_cell_row (p := 4) (ty := 93) rfl _ _ (w.heap.size + 2) 93 _ (0, 0) (.array 8 92) rfl (heapSetRow gR) (by kernel_rfl) rfl (by rw [us_size, Sha.addTo_length]; kernel_rfl)) rfl ⟨?_, belowSetRow gB (by omega) _⟩
          rw [hC.out, Sha.addTo_comm]
end Go.Proofs.YtphhafaoccfdpaaDoor
