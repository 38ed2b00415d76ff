/- Walks: the reference's SameInts, Nodes. -/
import Derived.Test.YtphhafaoccfdpaaDoorTop5
import Derived.Test.YtphhafaoccfdpaaDoorRefQ
namespace Go.Proofs.YtphhafaoccfdpaaDoor
open Go.RowKit Go.Shelf Go.Lib
open Go.Proofs
set_option maxHeartbeats 800000
set_option maxRecDepth 100000

theorem sameInts_any (va vb : Value) (xs : List Int) (w : World) (ha : SlInts w va xs) (hb : SlInts w vb xs) (hl : xs.length ≤ 1000000) :
    Calls Tryd.prog 19 #[va, vb] w fun e w' => e = .returned (.bool true) ∧ Below w.heap.size w w' := by
  obtain ⟨pa, ca, rfl, ha⟩ := ha
  obtain ⟨pb, cb, rfl, hb⟩ := hb
  replace ha := Lib.hid ha
  replace hb := Lib.hid hb
  go_enter Tryd.func19, Tryd.ntmps19
  go_wp2
  go_loopw [5] (fun i wr => ∃ k n : Nat, k ≤ xs.length ∧ i = .int .i64 k ∧ wr = w.drewN n) (fun i _ => xs.length - (intOf i).toNat)
  case atStart => exact ⟨0, 0, by omega, rfl, rfl⟩
  case round =>
    obtain ⟨k, n, hk, rfl, rfl⟩ := hrel
    by_cases hlt : k < xs.length
    · obtain ⟨b1, o1, rfl, c1⟩ := ha.out k hlt
      obtain ⟨b2, o2, rfl, c2⟩ := hb.out k hlt
      have k0 : 0 ≤ (k : Int) := by omega
      have k1 : (k : Int) < (xs.length : Int) := by omega
      generalize xs.getD k 0 = x at *
      have hb1 : (x == x) = true := by simp
      have hb2 : (x != x) = false := by simp
      go_wp2
      go_quiet (fail)
      go_wp2
      go_roundw
      case rel => exact ⟨k + 1, _, by omega, by go_num, rfl⟩
      case measure => simp [intOf]; omega
    · go_wp2
      go_ret
      exact ⟨rfl, belowDrewN (Below.refl _ _) n⟩

theorem ivI_snoc (l : List Int) (x : Int) : ivI (l ++ [x]) = ivI l ++ [.int .i64 x] := by simp [ivI]
theorem nodesR_any (v : Value) (zs : List Int) (w : World) (hz : zs.length ≤ 1000000) (hv : SlInts w v zs) :
    Calls Tryd.prog 20 #[v] w fun e w' => ∃ v', e = .returned v' ∧ w'.ownsRow w.heap.size 3 1 v' (refNodes zs 64).length (ivI (refNodes zs 64)) ∧ Below w.heap.size w w' := by
  obtain ⟨i0, hi, hz0, hz1, hz2⟩ := info_parts info_int
  obtain ⟨pa, ca, rfl, ha⟩ := hv
  replace ha := Lib.hid ha
  go_enter Tryd.func20, Tryd.ntmps20
  go_wp2
  go_loopw [3, 4, 5] (fun v n _ wr => ∃ (k : Nat) (p : Option Addr) (c : Nat), k ≤ 64 ∧ n = .int .i64 k ∧ v = .slice p (refNodes zs k).length c ∧ Hid (wr.ownsRow w.heap.size 3 1 v (refNodes zs k).length (ivI (refNodes zs k))) ∧ Hid (Below w.heap.size w wr)) (fun _ n _ _ => 64 - (intOf n).toNat)
  case atStart => exact ⟨0, none, 0, by omega, rfl, rfl, World.ownsRow_nil _ _ _ _, Below.refl _ _⟩
  case round =>
    obtain ⟨k, p, c, hk, rfl, rfl, hO, hB⟩ := hrel
    obtain ⟨wo, rfl⟩ : ∃ wo : World, wo = wr := ⟨_, rfl⟩
    have hrl := refNodes_length zs k
    by_cases hlt : k < 64
    · go_wp2
      go_loopw [3, 5] (fun v' j wr => ∃ q : Nat, q ≤ zs.length ∧ j = .int .i64 q ∧ v' = .slice p (refNodes zs k).length c ∧ Hid (∀ i, i < q → zs.getD i 0 ≠ (k : Int)) ∧ wr = wo) (fun _ j _ => zs.length - (intOf j).toNat)
      case atStart => exact ⟨0, by omega, rfl, rfl, fun i hi => by omega, rfl⟩
      case round =>
        obtain ⟨q, hq, rfl, rfl, hne, rfl⟩ := hrel
        by_cases hlq : q < zs.length
        · obtain ⟨b1, o1, rfl, c1⟩ := ha.out q hlq
          have c1' := (hB.out.cell (p := ⟨b1, o1 + q, none⟩) (block_lt_of_cell c1)).trans c1
          clear c1
          by_cases he : zs.getD q 0 = (k : Int)
          · have hm : Hid ((k : Int) ∈ zs) := by show _ ∈ _; rw [← he]; exact gD_mem hlq
            rw [he] at c1'
            have hb1 : ((k : Int) == (k : Int)) = true := by simp
            clear he
            go_wp2_with (at_builtin; go_must (refine wpList_append_own _ rfl _ _ 22 rfl w.heap.size 3 i0 (.int .i64 0) 1 8 (by kernel_rfl) hi hz0 hz1 hz2 rfl (by decide) (.slice p (refNodes zs k).length c) (refNodes zs k).length (ivI (refNodes zs k)) rfl (hO.out.alloc _) ⟨wr.heap.size, 0, none⟩ 1 1 [.int .i64 (k : Nat)] rfl rfl (cell_one_new _ _ _) (by simp [Value.oneCell']) (by unfold maxLen; omega) (by omega) (by simp; have := hB.out.size; omega) ?_; intro v' w1 hown1 hgrow _; have hB1 := Lib.hid (hB.out.trans (grownBelow hO.out hgrow hB.out.size)); obtain ⟨p', c', rfl⟩ := ownsRow_slice hown1; have hown1' := Lib.hid hown1; clear hown1 hgrow))
            go_roundw
            case rel => exact ⟨k + 1, p', c', by omega, by go_num, by rw [refNodes_yes hm.out]; simp, by show World.ownsRow _ _ _ _ _ _ _; rw [refNodes_yes hm.out, ivI_snoc]; simpa using hown1'.out, hB1⟩
            case measure => simp [intOf]; omega
          · have hb1 : (zs.getD q 0 == (k : Int)) = false := by simpa using he
            replace he := Lib.hid he
            generalize hx : zs.getD q 0 = x at *
            replace hx := Lib.hid hx
            go_wp2
            go_roundw
            case rel => exact ⟨q + 1, by omega, by go_num, by first | rfl | trivial, fun i hi => by
              by_cases e : i = q
              · subst e; rw [hx.out]; exact he.out
              · exact hne.out i (by omega), by first | rfl | trivial⟩
            case measure => simp [intOf]; omega
        · have hm : Hid ((k : Int) ∉ zs) := by
            intro hm
            obtain ⟨i, hi, e⟩ := List.getElem_of_mem hm
            exact hne.out i (by omega) (by rw [gD hi]; exact e)
          go_wp2
          go_roundw
          case rel => exact ⟨k + 1, p, c, by omega, by go_num, by rw [refNodes_no hm.out], by show World.ownsRow _ _ _ _ _ _ _; rw [refNodes_no hm.out]; exact hO.out, hB⟩
          case measure => simp [intOf]; omega
    · obtain rfl : k = 64 := by omega
      go_wp2
      go_ret
      exact ⟨_, rfl, hO.out, hB.out⟩
end Go.Proofs.YtphhafaoccfdpaaDoor
