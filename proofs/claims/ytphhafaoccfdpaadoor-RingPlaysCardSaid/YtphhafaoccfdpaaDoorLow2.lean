/- Walks: the reference's Lower. -/
import Derived.Test.YtphhafaoccfdpaaDoorLow
namespace Go.Proofs.YtphhafaoccfdpaaDoor
open Go.RowKit
open Go.Proofs
set_option maxHeartbeats 800000
set_option maxRecDepth 100000

theorem LowerR_any (s : ByteArray) (w : World) (hs : s.size ≤ 281474976710656) :
    Calls Tryd.prog 38 #[.string s] w fun e w' => e = .returned (.string (lowS s)) ∧ Below w.heap.size w w' := by
  have hcv := fun w s => run_bytes_of_string (P := Tryd.prog) w 9 62 5 s uStr_ uBy_ uU8_
  have hnl : Hid ((nums s).length = s.size) := nums_length s
  have hlt_ : Hid (∀ x ∈ nums s, x < 256) := nums_lt s
  have hend : Hid (lowS s = strN (lowTo (nums s) s.size)) := by show _ = _; rw [← nums_length, lowTo_end]; rfl
  go_enter Tryd.func38, Tryd.ntmps38
  go_wp2
  generalize grownCap w s.size 0 5 = c
  have hA := bytesAt_new w s c
  have hB : Below w.heap.size w (w.alloc (.cells (bytesRow s c) 5 ((bytesRow s c).size, (bytesRow s c).size + 1))).drew := ((Below.refl _ _).alloc (Nat.le_refl _) _).drew
  generalize World.drew _ = W1 at *
  rw [← lowTo_zero (nums s)] at hA
  replace hA := Lib.hid hA
  replace hB := Lib.hid hB
  clear hcv
  generalize nums s = l at *
  generalize c - s.size = z at *
  go_loopw [4] (fun i wr => ∃ k : Nat, k ≤ s.size ∧ i = .int .i64 k ∧ Hid (bytesAt wr w.heap.size (lowTo l k) z) ∧ Hid (Below w.heap.size w wr)) (fun i _ => s.size - (intOf i).toNat)
  case atStart => exact ⟨0, by omega, rfl, hA, hB⟩
  case round =>
    obtain ⟨k, hk, rfl, hA', hB'⟩ := hrel
    clear hA hB
    by_cases hlt : k < s.size
    · have hkl : k < (lowTo l k).length := by rw [lowTo_length, hnl.out]; exact hlt
      have hkl' : k < l.length := by rw [hnl.out]; exact hlt
      have cc := hA'.out.cell hkl
      have cf := hA'.out.free hkl
      rw [lowTo_getD _ _ hkl'] at cc
      have e2 : Hid (lowTo l (k + 1) = (lowTo l k).set k (lowN (l.getD k 0))) := lowTo_succ l k hkl'
      have e3 : Hid (lowN (l.getD k 0) = l.getD k 0 → lowTo l (k + 1) = lowTo l k) := lowTo_same l k hkl'
      generalize l.getD k 0 = ch at *
      replace hkl := Lib.hid hkl
      clear hkl'
      by_cases h1 : 65 ≤ ch
      · by_cases h2 : ch ≤ 90
        · have e4 : Hid (lowN ch = ch + 32) := by show _ = _; simp [lowN, h1, h2]
          go_wp2
          go_roundw
          case rel => exact ⟨k + 1, by omega, by go_num, by show bytesAt _ _ _ _; rw [e2.out, e4.out]; exact hA'.out.set hkl.out _, by show Below _ _ _; exact hB'.out.setCell (Nat.le_refl _) _⟩
          case measure => simp [intOf]; omega
        · have e4 : Hid (lowN ch = ch) := by show _ = _; simp [lowN, h2]
          go_wp2
          go_roundw
          case rel => exact ⟨k + 1, by omega, by go_num, by show bytesAt _ _ _ _; rw [e3.out e4.out]; exact hA'.out, hB'⟩
          case measure => simp [intOf]; omega
      · have e4 : Hid (lowN ch = ch) := by show _ = _; simp [lowN, h1]
        go_wp2
        go_roundw
        case rel => exact ⟨k + 1, by omega, by go_num, by show bytesAt _ _ _ _; rw [e3.out e4.out]; exact hA'.out, hB'⟩
        case measure => simp [intOf]; omega
    · obtain rfl : k = s.size := by omega
      have hst := hA'.out.string c
      rw [lowTo_length, hnl.out] at hst
      go_wp2
      go_ret
      exact ⟨by show Ending.returned (.string (strN (lowTo l s.size))) = _; rw [hend.out], hB'.out⟩
end Go.Proofs.YtphhafaoccfdpaaDoor
