/- Walks: Compress. -/
import Derived.Test.YtphhafaoccfdpaaDoorShaW2
namespace Go.Proofs.YtphhafaoccfdpaaDoor
open Go.RowKit
open Go.Proofs
set_option maxHeartbeats 800000
set_option maxRecDepth 100000

/-- the table of SHA-256 stands where the program's text lays it -/
def TableOk (w : World) : Prop := 0 < w.heap.size ∧ ∀ j, j < 64 → w.cell? ⟨0, j, none⟩ = some (.int .u32 ((Sha.table.getD j 0 : Nat) : Int))
theorem TableOk.below {w w' : World} {B : Nat} (h : TableOk w) (hB : Below B w w') (hb : w.heap.size ≤ B) : TableOk w' :=
  ⟨Nat.lt_of_lt_of_le h.1 hB.size, fun j hj => (hB.cell (p := ⟨_, j, none⟩) (Nat.lt_of_lt_of_le h.1 hb)).trans (h.2 j hj)⟩
theorem table_u32 : Sha.U32 Sha.table := by unfold Sha.U32; decide

theorem one_eq (sa sb sc sd se sf sg sh kt xt : Nat) (he : se < 4294967296) (hf : sf < 4294967296) (hg : sg < 4294967296) :
    IntKind.u32.wrap (IntKind.u32.wrap (IntKind.u32.wrap (IntKind.u32.wrap ((sh : Int) + (Sha.turn se 6 11 25 : Nat)) + bits .xor .u32 (bits .and .u32 (se : Int) (sf : Int)) (bits .and .u32 (bits .xor .u32 (if IntKind.u32.signed = true then -1 else IntKind.u32.max) (se : Int)) (sg : Int))) + (kt : Int)) + (xt : Int))
          = ((Sha.one ⟨sa, sb, sc, sd, se, sf, sg, sh⟩ kt xt : Nat) : Int) := by
  have hm : (if IntKind.u32.signed = true then (-1 : Int) else IntKind.u32.max) = ((4294967295 : Nat) : Int) := by decide
  have hx : 4294967295 ^^^ se < 4294967296 := Sha.xor_lt (by omega) he
  rw [hm, u32_xor_nat _ _ (by omega) he, u32_and_nat _ _ hx hg, u32_and_nat _ _ he hf, u32_xor_nat _ _ (Sha.and_lt he) (Sha.and_lt hx)]
  simp only [Sha.one]
  simp only [IntKind.wrap_u32]
  generalize Sha.turn se 6 11 25 = q1
  generalize (se &&& sf) ^^^ ((4294967295 ^^^ se) &&& sg) = q2
  omega
theorem two_eq (sa sb sc sd se sf sg sh : Nat) (ha : sa < 4294967296) (hb : sb < 4294967296) (hc : sc < 4294967296) (o : Int) :
    (o + (((Sha.turn sa 2 13 22 : Nat) : Int) + bits .xor .u32 (bits .xor .u32 (bits .and .u32 (sa : Int) (sb : Int)) (bits .and .u32 (sa : Int) (sc : Int))) (bits .and .u32 (sb : Int) (sc : Int))) % 4294967296) % 4294967296
          = (o + (Sha.two ⟨sa, sb, sc, sd, se, sf, sg, sh⟩ : Nat)) % 4294967296 := by
  rw [u32_and_nat _ _ ha hb, u32_and_nat _ _ ha hc, u32_and_nat _ _ hb hc, u32_xor_nat _ _ (Sha.and_lt ha) (Sha.and_lt ha), u32_xor_nat _ _ (Sha.xor_lt (Sha.and_lt ha) (Sha.and_lt ha)) (Sha.and_lt hb)]
  simp [Sha.two]

theorem index8_0 (a b c d e f g h : Int) (w : World) : (Instr.index 93 (.agg #[.int .u32 a, .int .u32 b, .int .u32 c, .int .u32 d, .int .u32 e, .int .u32 f, .int .u32 g, .int .u32 h]) (.int .i64 0)).run Tryd.prog w = .ok (.int .u32 a) w := by kernel_rfl
theorem index8_1 (a b c d e f g h : Int) (w : World) : (Instr.index 93 (.agg #[.int .u32 a, .int .u32 b, .int .u32 c, .int .u32 d, .int .u32 e, .int .u32 f, .int .u32 g, .int .u32 h]) (.int .i64 1)).run Tryd.prog w = .ok (.int .u32 b) w := by kernel_rfl
theorem index8_2 (a b c d e f g h : Int) (w : World) : (Instr.index 93 (.agg #[.int .u32 a, .int .u32 b, .int .u32 c, .int .u32 d, .int .u32 e, .int .u32 f, .int .u32 g, .int .u32 h]) (.int .i64 2)).run Tryd.prog w = .ok (.int .u32 c) w := by kernel_rfl
theorem index8_3 (a b c d e f g h : Int) (w : World) : (Instr.index 93 (.agg #[.int .u32 a, .int .u32 b, .int .u32 c, .int .u32 d, .int .u32 e, .int .u32 f, .int .u32 g, .int .u32 h]) (.int .i64 3)).run Tryd.prog w = .ok (.int .u32 d) w := by kernel_rfl
theorem index8_4 (a b c d e f g h : Int) (w : World) : (Instr.index 93 (.agg #[.int .u32 a, .int .u32 b, .int .u32 c, .int .u32 d, .int .u32 e, .int .u32 f, .int .u32 g, .int .u32 h]) (.int .i64 4)).run Tryd.prog w = .ok (.int .u32 e) w := by kernel_rfl
theorem index8_5 (a b c d e f g h : Int) (w : World) : (Instr.index 93 (.agg #[.int .u32 a, .int .u32 b, .int .u32 c, .int .u32 d, .int .u32 e, .int .u32 f, .int .u32 g, .int .u32 h]) (.int .i64 5)).run Tryd.prog w = .ok (.int .u32 f) w := by kernel_rfl
theorem index8_6 (a b c d e f g h : Int) (w : World) : (Instr.index 93 (.agg #[.int .u32 a, .int .u32 b, .int .u32 c, .int .u32 d, .int .u32 e, .int .u32 f, .int .u32 g, .int .u32 h]) (.int .i64 6)).run Tryd.prog w = .ok (.int .u32 g) w := by kernel_rfl
theorem index8_7 (a b c d e f g h : Int) (w : World) : (Instr.index 93 (.agg #[.int .u32 a, .int .u32 b, .int .u32 c, .int .u32 d, .int .u32 e, .int .u32 f, .int .u32 g, .int .u32 h]) (.int .i64 7)).run Tryd.prog w = .ok (.int .u32 h) w := by kernel_rfl
theorem index8 (sa sb sc sd se sf sg sh : Nat) : ∀ (k : Nat) (w : World), k < 8 → (Instr.index 93 (.agg #[.int .u32 (sa : Int), .int .u32 (sb : Int), .int .u32 (sc : Int), .int .u32 (sd : Int), .int .u32 (se : Int), .int .u32 (sf : Int), .int .u32 (sg : Int), .int .u32 (sh : Int)]) (.int .i64 (k : Int))).run Tryd.prog w = .ok (.int .u32 (((Sha.St.list ⟨sa, sb, sc, sd, se, sf, sg, sh⟩).getD k 0 : Nat) : Int)) w := by
  intro k w hk
  match k, hk with
  | 0, _ => exact index8_0 _ _ _ _ _ _ _ _ w
  | 1, _ => exact index8_1 _ _ _ _ _ _ _ _ w
  | 2, _ => exact index8_2 _ _ _ _ _ _ _ _ w
  | 3, _ => exact index8_3 _ _ _ _ _ _ _ _ w
  | 4, _ => exact index8_4 _ _ _ _ _ _ _ _ w
  | 5, _ => exact index8_5 _ _ _ _ _ _ _ _ w
  | 6, _ => exact index8_6 _ _ _ _ _ _ _ _ w
  | 7, _ => exact index8_7 _ _ _ _ _ _ _ _ w

theorem compress_any (h l : List Nat) (hh : h.length = 8) (hl : l.length = 16) (hhu : Sha.U32 h) (hu : Sha.U32 l) (w : World) (hT : TableOk w) :
    Calls Tryd.prog 57 #[.agg (us h), .agg (us l)] w fun e w' => e = .returned (.agg (us (Sha.compress h l))) ∧ Below w.heap.size w w' := by
  replace hT := Lib.hid hT
  replace hh := Lib.hid hh
  replace hl := Lib.hid hl
  replace hhu := Lib.hid hhu
  replace hu := Lib.hid hu
  go_enter Tryd.func57, Tryd.ntmps57
  go_wp2_with (first
    | (refine wpLoadUs 94 16 (w.heap.size + 1) l rfl _ rfl rfl ?_ (by kernel_rfl) (by kernel_rfl) hl.out ?_)
    | (go_at_call 83; refine (exp_any l hl.out hu.out _).mono ?_; rintro e W1 ⟨rfl, hb⟩; have hB1 := Lib.hid hb; clear hb)
    | (refine wpListAllocAbs 5 rfl rfl 121 rfl (.agg zeros64) zero_x64 ?_; intro W2 h; have h2 := Lib.hid h; clear h)
    | (refine wpStoreUs 121 64 W1.heap.size (Sha.expTo l 48) (List.replicate 64 0) rfl _ _ rfl rfl rfl ?_ (by kernel_rfl) (by rw [Sha.expTo_length, hl.out]) (by simp) ?_))
  · exact heap3b _ _ _ _
  · rw [← h2.out]; exact heap_alloc_new _ _
  have hB2 : Below w.heap.size w W1 := by
    refine Below.trans ?_ (hB1.out.mono (by simp; omega))
    exact (((Below.refl _ w).alloc (Nat.le_refl _) _).alloc (by simp) _).alloc (by simp; omega) _
  have z1 : w.heap.size + 3 ≤ W1.heap.size := by have := hB1.out.size; simpa using this
  generalize hW3 : World.setRow _ _ _ = W3
  have hB3 : Below w.heap.size w W3 := by
    rw [← hW3, ← h2.out]
    exact belowSetRow (hB2.alloc (by omega) _) (by omega) _
  have hgH : W3.heap[w.heap.size]? = some (.cells (us h) 93 (0, 0)) := by
    rw [← hW3, heapSetRowNe (by omega), ← h2.out, Below.heap_alloc _ _ _ (by omega), hB1.out.block _ (by simp; omega)]
    exact heap3a _ _ _ _
  have hgR : W3.heap[w.heap.size + 2]? = some (.cells (us (List.replicate 8 0)) 93 (0, 0)) := by
    rw [← hW3, heapSetRowNe (by omega), ← h2.out, Below.heap_alloc _ _ _ (by omega), hB1.out.block _ (by simp)]
    exact heap3c _ _ _ _
  have hgX : W3.heap[W1.heap.size]? = some (.cells (us (Sha.expTo l 48)) 121 (0, 0)) := by
    rw [← hW3]; refine heapSetRow (c := zeros64) ?_
    rw [← h2.out]; exact heap_alloc_new _ _
  have z3 : W1.heap.size < W3.heap.size := by rw [← hW3, ← h2.out]; simp
  clear hW3 h2 hB1 hB2 W2
  have z1' := z1
  generalize W1.heap.size = bx at *
  have hT3 : TableOk W3 := hT.out.below hB3 (Nat.le_refl _)
  -- the eight numbers
  have at_ : ∀ j, j < 8 → W3.cell? ⟨w.heap.size, j, none⟩ = some (.int .u32 ((h.getD j 0 : Nat) : Int)) := fun j hj => by
    rw [cellAt hgH]; exact us_at _ _ (by rw [hh.out]; exact hj)
  have c0 := at_ 0 (by omega)
  have c1 := at_ 1 (by omega)
  have c2 := at_ 2 (by omega)
  have c3 := at_ 3 (by omega)
  have c4 := at_ 4 (by omega)
  have c5 := at_ 5 (by omega)
  have c6 := at_ 6 (by omega)
  have c7 := at_ 7 (by omega)
  clear at_
  have hS : Hid (Sha.ofL h = ⟨h.getD 0 0, h.getD 1 0, h.getD 2 0, h.getD 3 0, h.getD 4 0, h.getD 5 0, h.getD 6 0, h.getD 7 0⟩) := rfl
  generalize h.getD 0 0 = n0 at *
  generalize h.getD 1 0 = n1 at *
  generalize h.getD 2 0 = n2 at *
  generalize h.getD 3 0 = n3 at *
  generalize h.getD 4 0 = n4 at *
  generalize h.getD 5 0 = n5 at *
  generalize h.getD 6 0 = n6 at *
  generalize h.getD 7 0 = n7 at *
  refine wpStillAll (by kernel_rfl) (by kernel_rfl) ?_
  repeat still_step
  refine wpStill_nil ?_
  go_wp2
  clear c0 c1 c2 c3 c4 c5 c6 c7
  have hU0 : (Sha.ofL h).U := Sha.ofL_U hhu.out
  have hXu := Lib.hid (Sha.expTo_u32 hu.out 48)
  have hXl : Hid ((Sha.expTo l 48).length = 64) := by show _ = _; rw [Sha.expTo_length, hl.out]
  have hC : Hid (Sha.compress h l = Sha.addTo h (Sha.rounds (Sha.expTo l 48) (Sha.ofL h) 64).list 8) := rfl
  generalize Sha.expTo l 48 = X at *
  have at0 : Sha.rounds X (Sha.ofL h) 0 = ⟨n0, n1, n2, n3, n4, n5, n6, n7⟩ := hS.out
  replace at0 := Lib.hid at0
  generalize Sha.ofL h = S0 at *
  go_loopw [7, 8, 9, 10, 11, 12, 13, 14, 15, 16, 17, 38] (fun a b c d e f g i _ _ _ k wr => ∃ (t : Nat) (s : Sha.St), t ≤ 64 ∧ k = .int .i64 t ∧ Hid (Sha.rounds X S0 t = s) ∧ s.U ∧ a = .int .u32 (s.a : Int) ∧ b = .int .u32 (s.b : Int) ∧ c = .int .u32 (s.c : Int) ∧ d = .int .u32 (s.d : Int) ∧ e = .int .u32 (s.e : Int) ∧ f = .int .u32 (s.f : Int) ∧ g = .int .u32 (s.g : Int) ∧ i = .int .u32 (s.h : Int)
      ∧ ∃ n, wr = W3.drewN n)
    (fun _ _ _ _ _ _ _ _ _ _ _ k _ => 64 - (intOf k).toNat)
  case atStart => exact ⟨0, _, by omega, rfl, at0, by have h := hU0; rw [← at0.out]; exact h, rfl, rfl, rfl, rfl, rfl, rfl, rfl, rfl, 1, rfl⟩
  case round =>
    obtain ⟨t, ⟨sa, sb, sc, sd, se, sf, sg, sh⟩, ht, rfl, hR, hU, rfl, rfl, rfl, rfl, rfl, rfl, rfl, rfl, m, rfl⟩ := hrel
    by_cases hlt : t < 64
    · obtain ⟨ua, ub, uc, ud, ue, uf, ug, uh⟩ := hU
      dsimp only at ua ub uc ud ue uf ug uh
      have ct := hT3.2 t hlt
      have cx : W3.cell? ⟨bx, t, none⟩ = some (.int .u32 ((X.getD t 0 : Nat) : Int)) := by rw [cellAt hgX]; exact us_at _ _ (by rw [hXl.out]; exact hlt)
      have ux := hXu.out.getD t
      have uk := table_u32.getD t
      have hR1 : Hid (Sha.rounds X S0 (t + 1) = Sha.rnd (Sha.rounds X S0 t) (Sha.table.getD t 0) (X.getD t 0)) := rfl
      generalize X.getD t 0 = xt at *
      generalize Sha.table.getD t 0 = kt at *
      go_wp2
      refine wpStillAll (by kernel_rfl) (by kernel_rfl) ?_
      repeat (first | still_step | still_call (stillOf (turned_int (by assumption) (by omega) (by omega) (by omega) (by omega) (by omega) (by omega))))
      refine wpStill_nil ?_
      have hone := one_eq sa sb sc sd se sf sg sh kt xt ue uf ug
      simp only [hone]
      have u1 : Sha.one ⟨sa, sb, sc, sd, se, sf, sg, sh⟩ kt xt < 4294967296 := Nat.mod_lt _ (by omega)
      replace hone := Lib.hid hone
      generalize ho1 : Sha.one ⟨sa, sb, sc, sd, se, sf, sg, sh⟩ kt xt = o1 at hone u1 ⊢
      replace ho1 := Lib.hid ho1
      go_wp2_with (go_at_call 84; refine (turned_int (by assumption) (by omega) (by omega) (by omega) (by omega) (by omega) (by omega)).mono ?_; rintro e w' ⟨rfl, rfl⟩)
      refine ⟨⟨t + 1, Sha.rnd ⟨sa, sb, sc, sd, se, sf, sg, sh⟩ kt xt, by omega, by go_num, ?_, Sha.rnd_U ⟨ua, ub, uc, ud, ue, uf, ug, uh⟩ kt xt, ?_, rfl, rfl, rfl, ?_, rfl, rfl, rfl, _, rfl⟩, by simp [intOf]; omega⟩
      · show _ = _; rw [hR1.out, hR.out]
      · rw [two_eq sa sb sc sd se sf sg sh ua ub uc, ← ho1.out]; simp [Sha.rnd]
      · rw [← ho1.out]; simp [Sha.rnd]
    · obtain rfl : t = 64 := by omega
      clear ht hlt
      have eA : Hid (Sha.addTo h (Sha.rounds X S0 64).list 0 = h) := Sha.addTo_zero _ _ hh.out
      have hix := index8 sa sb sc sd se sf sg sh
      replace hix := Lib.hid hix
      have hSl : Hid (Sha.rounds X S0 64 = ⟨sa, sb, sc, sd, se, sf, sg, sh⟩) := hR
      have hSu : Hid (Sha.U32 (Sha.St.list ⟨sa, sb, sc, sd, se, sf, sg, sh⟩)) := Sha.St.list_u32 hU
      rw [hR.out] at eA
      have hgH' : (W3.drewN m).heap[w.heap.size]? = some (.cells (us (Sha.addTo h (Sha.St.list ⟨sa, sb, sc, sd, se, sf, sg, sh⟩) 0)) 93 (0, 0)) := by rw [eA.out]; exact hgH
      have hgR' : (W3.drewN m).heap[w.heap.size + 2]? = some (.cells (us (List.replicate 8 0)) 93 (0, 0)) := hgR
      have hB3' : Below w.heap.size w (W3.drewN m) := belowDrewN hB3 m
      clear hgH hgR hgX hT3 hB3 eA hR at0 hU
      rw [show Sha.St.list ⟨sa, sb, sc, sd, se, sf, sg, sh⟩ = Sha.St.list ⟨sa, sb, sc, sd, se, sf, sg, sh⟩ from rfl] at hgH'
      go_wp2
      generalize hL : Sha.St.list ⟨sa, sb, sc, sd, se, sf, sg, sh⟩ = L at hgH' hSu hix
      replace hL := Lib.hid hL
      go_loopw [18, 19, 100] (fun _ _ k wr => ∃ t : Nat, t ≤ 8 ∧ k = .int .i64 t ∧ wr.heap[w.heap.size]? = some (.cells (us (Sha.addTo h L t)) 93 (0, 0)) ∧ wr.heap[w.heap.size + 2]? = some (.cells (us (List.replicate 8 0)) 93 (0, 0)) ∧ Below w.heap.size w wr)
        (fun _ _ k _ => 8 - (intOf k).toNat)
      case atStart => exact ⟨0, by omega, rfl, hgH', hgR', hB3'⟩
      case round =>
        obtain ⟨t, ht, rfl, gH, gR, hB⟩ := hrel
        clear hgH' hgR' hB3'
        by_cases hlt : t < 8
        · have hi := fun w => hix.out t w hlt
          have hc : wr.cell? ⟨w.heap.size, t, none⟩ = some (.int .u32 (((Sha.addTo h L t).getD t 0 : Nat) : Int)) := by rw [cellAt gH]; exact us_at _ _ (by rw [Sha.addTo_length]; exact hlt)
          have hf := freeAt gH t
          have e1 : (Sha.addTo h L t).getD t 0 = h.getD t 0 := by rw [Sha.addTo_getD _ _ _ _ hlt, if_neg (by omega)]
          rw [e1] at hc
          have e2 : Hid (Sha.addTo h L (t + 1) = (Sha.addTo h L t).set t ((h.getD t 0 + L.getD t 0) % 4294967296)) := Sha.addTo_succ _ _ _ hlt
          have u1 := hhu.out.getD t
          have u2 := hSu.out.getD t
          clear e1
          generalize h.getD t 0 = p1 at *
          generalize L.getD t 0 = p2 at *
          go_wp2
          refine ⟨⟨t + 1, by omega, by go_num, ?_, ?_, ?_⟩, by simp [intOf]; omega⟩
          · refine (heap_setCell_same wr _ _ _ _ _ gH).trans ?_
            rw [e2.out, ← us_set]
            simp
          · exact (heap_setCell_other _ _ _ _ (by simp)).trans gR
          · exact hB.setCell (by simp) _
        · obtain rfl : t = 8 := by omega
          go_wp2_with (first
            | (refine wpLoadUs 93 8 w.heap.size (Sha.addTo h L 8) rfl _ rfl rfl gH (by kernel_rfl) (by kernel_rfl) (Sha.addTo_length _ _ _) ?_)
            | (refine wpStoreUs 93 8 (w.heap.size + 2) (Sha.addTo h L 8) (List.replicate 8 0) rfl _ _ rfl rfl rfl gR (by kernel_rfl) (Sha.addTo_length _ _ _) (by simp) ?_))
          refine bodyPost_ret (v := .agg (us (Sha.addTo h L 8))) (results_cell_row (p := 4) (ty := 93) rfl _ _ (w.heap.size + 2) 93 _ (0, 0) (.array 8 92) rfl (heapSetRow gR) (by kernel_rfl) rfl (by rw [us_size, Sha.addTo_length]; kernel_rfl)) rfl ⟨?_, belowSetRow hB (by omega) _⟩
          rw [hC.out, hSl.out, hL.out]
end Go.Proofs.YtphhafaoccfdpaaDoor
