/- Walks: small functions of the ring and of the library. -/
import Derived.Test.YtphhafaoccfdpaaDoorShaW5
import Derived.Test.YtphhafaoccfdpaaDoorRing0
namespace Go.Proofs.YtphhafaoccfdpaaDoor
open Go.RowKit
open Go.Proofs
set_option maxHeartbeats 800000
set_option maxRecDepth 100000
open Rg (Pt)

theorem isNaN_u64 (x : Int) (w : World) : Calls Tryd.prog 46 #[.int .u64 x] w fun e w' => e = .returned (.bool false) ∧ w = w' := by
  go_enter Tryd.func46, Tryd.ntmps46
  go_wp2
  go_ret
  exact ⟨rfl, rfl⟩
theorem cmp_lt {x y : Int} (w : World) (h : x < y) : Calls Tryd.prog 31 #[.int .u64 x, .int .u64 y] w fun e w' => e = .returned (.int .i64 (-1)) ∧ w = w' := by
  go_enter Tryd.func31, Tryd.ntmps31
  go_wp2_with (go_at_call 46; refine (isNaN_u64 _ _).mono ?_; rintro e w' ⟨rfl, rfl⟩)
  go_ret
  exact ⟨rfl, rfl⟩
theorem cmp_gt {x y : Int} (w : World) (h : y < x) : Calls Tryd.prog 31 #[.int .u64 x, .int .u64 y] w fun e w' => e = .returned (.int .i64 1) ∧ w = w' := by
  have h1 : ¬ x < y := by omega
  go_enter Tryd.func31, Tryd.ntmps31
  go_wp2_with (go_at_call 46; refine (isNaN_u64 _ _).mono ?_; rintro e w' ⟨rfl, rfl⟩)
  go_ret
  exact ⟨rfl, rfl⟩
theorem cmp_eq (x : Int) (w : World) : Calls Tryd.prog 31 #[.int .u64 x, .int .u64 x] w fun e w' => e = .returned (.int .i64 0) ∧ w = w' := by
  have h1 : ¬ x < x := by omega
  go_enter Tryd.func31, Tryd.ntmps31
  go_wp2_with (go_at_call 46; refine (isNaN_u64 _ _).mono ?_; rintro e w' ⟨rfl, rfl⟩)
  go_ret
  exact ⟨rfl, rfl⟩
theorem cmp_u64 (x y : Nat) (w : World) : Calls Tryd.prog 31 #[.int .u64 x, .int .u64 y] w fun e w' => e = .returned (.int .i64 (Rg.cmpN x y)) ∧ w = w' := by
  unfold Rg.cmpN
  by_cases h : x < y
  · rw [if_pos h]; exact cmp_lt w (by omega)
  · rw [if_neg h]
    by_cases h2 : y < x
    · rw [if_pos h2]; exact cmp_gt w (by omega)
    · obtain rfl : x = y := by omega
      rw [if_neg h2]; exact cmp_eq _ w

/-- the search's test -/
theorem from11_any (x n y : Nat) (w : World) : Calls Tryd.prog 50 #[.agg #[.int .u64 x, .int .i64 n], .int .u64 y] w fun e w' => e = .returned (.int .i64 (Rg.cmpN x y)) ∧ Below w.heap.size w w' := by
  go_enter Tryd.func50, Tryd.ntmps50
  go_wp2_with (go_at_call 31; refine (cmp_u64 _ _ _).mono ?_; rintro e w' ⟨rfl, rfl⟩)
  go_ret
  exact ⟨rfl, (Below.refl _ _).alloc (Nat.le_refl _) _⟩

theorem from11_lt {x n y : Nat} {w : World} (h : x < y) : Calls Tryd.prog 50 #[.agg #[.int .u64 x, .int .i64 n], .int .u64 y] w fun e w' => e = .returned (.int .i64 (-1)) ∧ Below w.heap.size w w' := by
  have := from11_any x n y w; rwa [show Rg.cmpN x y = -1 by unfold Rg.cmpN; rw [if_pos h]] at this
theorem from11_ge {x n y : Nat} {w : World} (h : y ≤ x) : Calls Tryd.prog 50 #[.agg #[.int .u64 x, .int .i64 n], .int .u64 y] w fun e w' => ∃ v : Int, (0 ≤ v ∧ e = .returned (.int .i64 v)) ∧ Below w.heap.size w w' := by
  refine (from11_any x n y w).mono ?_
  rintro e w' ⟨rfl, hB⟩
  refine ⟨_, ⟨?_, rfl⟩, hB⟩
  unfold Rg.cmpN; split
  · omega
  · split <;> omega

theorem Len_at {b : Nat} {v0 : Value} {pa : Option Addr} {n c : Nat} {w : World} (h : w.heap[b]? = some (.cells #[v0, .slice pa n c] 34 (0, 0))) :
    Calls Tryd.prog 14 #[.pointer (some ⟨b, 0, none⟩)] w fun e w' => e = .returned (.int .i64 n) ∧ w = w' := by
  have h1 : w.cell? ⟨b, 1, none⟩ = some (.slice pa n c) := by rw [cellAt h]; rfl
  go_enter Tryd.func14, Tryd.ntmps14
  go_wp2
  go_ret
  exact ⟨rfl, rfl⟩
theorem Len_nil (w : World) :
    Calls Tryd.prog 14 #[.pointer none] w fun e w' => e = .returned (.int .i64 0) ∧ w = w' := by
  go_enter Tryd.func14, Tryd.ntmps14
  go_wp2
  go_ret
  exact ⟨rfl, rfl⟩

/-- a row of points -/
def PtsAt (w : World) (g : Nat) (P : List Pt) : Prop := ∀ i, i < P.length → w.cell? ⟨g, i * 2, none⟩ = some (.int .u64 ((P.getD i Rg.d0).at_ : Nat)) ∧ w.cell? ⟨g, i * 2 + 1, none⟩ = some (.int .i64 ((P.getD i Rg.d0).node : Nat))
theorem PtsAt.below {w w' : World} {g : Nat} {P : List Pt} {B : Nat} (h : PtsAt w g P) (hB : Below B w w') (hg : g < B) : PtsAt w' g P :=
  fun i hi => ⟨(hB.cell (p := ⟨g, _, none⟩) hg).trans (h i hi).1, (hB.cell (p := ⟨g, _, none⟩) hg).trans (h i hi).2⟩

theorem search_any (P : List Pt) (g c y : Nat) (w : World) (hP : P.length ≤ 1000000) (hg : g < w.heap.size) (h : PtsAt w g P) (hr : Rg.Rising P) :
    Calls Tryd.prog 49 #[.slice (some ⟨g, 0, none⟩) P.length c, .int .u64 y, .func (.func 50) #[] #[]] w fun e w' =>
      (∃ b, e = .returned (.tuple #[.int .i64 (Rg.lb P y : Nat), .bool b])) ∧ Below w.heap.size w w' := by
  replace h := Lib.hid h
  replace hr := Lib.hid hr
  go_enter Tryd.func49, Tryd.ntmps49
  go_wp2
  go_loopw [9, 10, 11] (fun a b _ wr => ∃ i j : Nat, a = .int .i64 i ∧ b = .int .i64 j ∧ i ≤ j ∧ j ≤ P.length ∧ Hid (∀ k, k < i → (P.getD k Rg.d0).at_ < y) ∧ Hid (∀ k, j ≤ k → k < P.length → y ≤ (P.getD k Rg.d0).at_) ∧ Below w.heap.size w wr)
    (fun a b _ _ => (intOf b - intOf a).toNat)
  case atStart => exact ⟨0, P.length, rfl, rfl, by omega, by omega, fun k hk => by omega, fun k hk h2 => by omega, Below.refl _ _⟩
  case round =>
    obtain ⟨i, j, rfl, rfl, hij, hj, hlo, hhi, hB⟩ := hrel
    by_cases hlt : i < j
    · have hm : (i + j) / 2 < P.length := by omega
      obtain ⟨c1, c2⟩ := (h.out.below hB hg) _ hm
      have hmi : ((i : Int) + j) / 2 < P.length := by omega
      have hmm : Hid ((i + j) / 2 < P.length) := hm
      have hpm : Hid (P.getD ((i + j) / 2) Rg.d0 = P.getD ((i + j) / 2) Rg.d0) := rfl
      have hri := hr.out
      clear hm
      generalize hp : P.getD ((i + j) / 2) Rg.d0 = p at c1 c2
      replace hp := Lib.hid hp
      replace hri := Lib.hid hri
      by_cases hy : p.at_ < y
      · go_wp2_with (go_at_call 50; refine (from11_lt hy).mono ?_; rintro e W2 ⟨rfl, h0⟩; have hB2 := Lib.hid h0; clear h0)
        go_roundw
        case rel =>
          refine ⟨(i + j) / 2 + 1, j, by go_num, rfl, by omega, hj, fun k hk => ?_, hhi, hB.trans (hB2.out.mono hB.size)⟩
          have := hri.out k ((i + j) / 2) (by omega) hmm.out
          rw [hp.out] at this; omega
        case measure => simp [intOf]; omega
      · go_wp2_with (go_at_call 50; refine (from11_ge (by omega)).mono ?_; rintro e W2 ⟨v, ⟨hv, rfl⟩, h0⟩; have hB2 := Lib.hid h0; clear h0)
        go_roundw
        case rel =>
          refine ⟨i, (i + j) / 2, rfl, by go_num, by omega, by omega, hlo, fun k hk h2 => ?_, hB.trans (hB2.out.mono hB.size)⟩
          have := hri.out ((i + j) / 2) k hk h2
          rw [hp.out] at this; omega
        case measure => simp [intOf]; omega
    · obtain rfl : i = j := by omega
      have hlb : Hid (Rg.lb P y = i) := Rg.lb_of hj hlo.out hhi.out
      by_cases hin : i < P.length
      · obtain ⟨c1, c2⟩ := (h.out.below hB hg) _ hin
        generalize P.getD i Rg.d0 = p at c1 c2
        go_wp2_with (go_at_call 50; refine (from11_any _ _ _ _).mono ?_; rintro e W2 ⟨rfl, h0⟩; have hB2 := Lib.hid h0; clear h0)
        go_ret2
        refine ⟨⟨Rg.cmpN p.at_ y == 0, ?_⟩, hB.trans (hB2.out.mono hB.size)⟩
        rw [hlb.out]; rfl
      · go_wp2
        go_ret2
        refine ⟨⟨false, ?_⟩, hB⟩
        rw [hlb.out]; rfl
/-- a slice that reads as whole numbers -/
def SlInts (w : World) (v : Value) (zs : List Int) : Prop := ∃ pa c, v = .slice pa zs.length c ∧ ∀ i, i < zs.length → ∃ b o, pa = some ⟨b, o, none⟩ ∧ w.cell? ⟨b, o + i, none⟩ = some (.int .i64 (zs.getD i 0))
theorem SlInts.below {w w' : World} {v : Value} {zs : List Int} {B : Nat} (h : SlInts w v zs) (hB : Below B w w') (hb : w.heap.size ≤ B) : SlInts w' v zs := by
  obtain ⟨pa, c, e, h⟩ := h
  refine ⟨pa, c, e, fun i hi => ?_⟩
  obtain ⟨b, o, e2, hc⟩ := h i hi
  exact ⟨b, o, e2, (hB.cell (p := ⟨b, o + i, none⟩) (Nat.lt_of_lt_of_le (block_lt_of_cell hc) hb)).trans hc⟩
theorem SlInts.nil (w : World) (pa : Option Addr) (c : Nat) : SlInts w (.slice pa 0 c) [] := ⟨pa, c, rfl, fun i hi => by simp at hi⟩
theorem SlInts.take {w : World} {pa : Option Addr} {n c : Nat} {zs : List Int} (h : SlInts w (.slice pa n c) zs) (m : Nat) (hm : m ≤ n) : SlInts w (.slice pa m c) (zs.take m) := by
  obtain ⟨pa', c', e, h⟩ := h
  cases e
  refine ⟨pa, c, by rw [List.length_take, Nat.min_eq_left hm], fun i hi => ?_⟩
  rw [List.length_take, Nat.min_eq_left hm] at hi
  obtain ⟨b, o, e2, hc⟩ := h i (by omega)
  refine ⟨b, o, e2, ?_⟩
  rw [hc, List.getD_eq_getElem?_getD, List.getD_eq_getElem?_getD, List.getElem?_take_of_lt hi]

theorem Index_any (v : Value) (zs : List Int) (x : Int) (w : World) (hz : zs.length ≤ 1000000) (h : SlInts w v zs) :
    Calls Tryd.prog 51 #[v, .int .i64 x] w fun e w' => ∃ r : Int, e = .returned (.int .i64 r) ∧ (0 ≤ r ↔ x ∈ zs) ∧ w = w' := by
  obtain ⟨pa, c, rfl, h⟩ := h
  replace h := Lib.hid h
  go_enter Tryd.func51, Tryd.ntmps51
  go_wp2
  go_loop [5, 8] (fun _ i => ∃ k : Nat, k ≤ zs.length ∧ i = .int .i64 k ∧ Hid (∀ j, j < k → zs.getD j 0 ≠ x)) (fun _ i => zs.length - (intOf i).toNat)
  case atStart => exact ⟨0, by omega, rfl, fun j hj => by omega⟩
  case round =>
    obtain ⟨k, hk, rfl, hne⟩ := hrel
    by_cases hlt : k < zs.length
    · obtain ⟨b, o, rfl, hc⟩ := h.out k hlt
      have hm : Hid (zs.getD k 0 ∈ zs) := by show _ ∈ _; rw [List.getD_eq_getElem?_getD, List.getElem?_eq_getElem hlt]; exact List.getElem_mem hlt
      have hyk : Hid (zs.getD k 0 = zs.getD k 0) := rfl
      generalize hy : zs.getD k 0 = y at hc hm
      replace hy := Lib.hid hy
      by_cases hxy : x = y
      · subst hxy
        have hb : (x == x) = true := by simp
        go_wp2
        go_ret
        exact ⟨_, rfl, ⟨fun _ => hm.out, fun _ => by omega⟩, rfl⟩
      · have hb : (x == y) = false := by simpa using hxy
        replace hxy := Lib.hid hxy
        go_wp2
        go_round
        case rel =>
          refine ⟨k + 1, by omega, by go_num, fun j hj => ?_⟩
          by_cases e : j = k
          · subst e; rw [hy.out]; exact fun h => hxy.out h.symm
          · exact hne.out j (by omega)
        case measure => simp [intOf]; omega
    · obtain rfl : k = zs.length := by omega
      go_wp2
      go_ret
      refine ⟨_, rfl, ⟨fun h0 => by omega, fun hm => ?_⟩, rfl⟩
      obtain ⟨j, hj, e⟩ := List.getElem_of_mem hm
      exact absurd (by rw [List.getD_eq_getElem?_getD, List.getElem?_eq_getElem hj]; exact e) (hne.out j hj)
theorem Contains_any (v : Value) (zs : List Int) (x : Int) (w : World) (hz : zs.length ≤ 1000000) (h : SlInts w v zs) :
    Calls Tryd.prog 34 #[v, .int .i64 x] w fun e w' => e = .returned (.bool (decide (x ∈ zs))) ∧ w = w' := by
  obtain ⟨pa, c, rfl, h⟩ := h
  replace h := Lib.hid h
  go_enter Tryd.func34, Tryd.ntmps34
  go_wp2_with (go_at_call 51; refine (Index_any _ zs x _ hz ⟨pa, c, rfl, h.out⟩).mono ?_; rintro e w' ⟨r, rfl, h0, rfl⟩; have hr := Lib.hid h0; clear h0)
  go_ret
  refine ⟨?_, rfl⟩
  show Ending.returned (.bool (decide (0 ≤ r))) = _
  rw [decide_eq_decide.2 hr.out]

theorem search_nil (y : Nat) (w : World) :
    Calls Tryd.prog 49 #[.slice none 0 0, .int .u64 y, .func (.func 50) #[] #[]] w fun e w' =>
      (∃ b, e = .returned (.tuple #[.int .i64 0, .bool b])) ∧ w = w' := by
  go_enter Tryd.func49, Tryd.ntmps49
  go_wp2
  go_loopw [9, 10, 11] (fun a b _ wr => a = .int .i64 0 ∧ b = .int .i64 0 ∧ wr = w) (fun _ _ _ _ => 0)
  case atStart => exact ⟨rfl, rfl, rfl⟩
  case round =>
    obtain ⟨rfl, rfl, rfl⟩ := hrel
    go_wp2
    go_ret2
    exact ⟨⟨_, rfl⟩, rfl⟩
end Go.Proofs.YtphhafaoccfdpaaDoor
