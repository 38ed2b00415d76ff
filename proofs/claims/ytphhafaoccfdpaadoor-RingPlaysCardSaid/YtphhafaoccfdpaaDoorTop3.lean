/- Walks: few, short. -/
import Derived.Test.YtphhafaoccfdpaaDoorTop1
namespace Go.Proofs.YtphhafaoccfdpaaDoor
open Go.RowKit Go.Shelf Go.Lib
open Go.Proofs
set_option maxHeartbeats 800000
set_option maxRecDepth 100000

theorem few_any (pa : Option Addr) (c : Nat) (zs : List Int) (w : World) (hv : SlInts w (.slice pa zs.length c) zs) (hc : zs.length ≤ c) (hz : c ≤ 9223372036854775807) :
    Calls Tryd.prog 7 #[.slice pa zs.length c] w fun e w' => e = .returned (.slice pa (zs.take 12).length c) ∧ w = w' := by
  by_cases hl : 12 < zs.length
  · have hlI : (12 : Int) < (zs.length : Int) := by omega
    have e12 : (zs.take 12).length = 12 := by rw [List.length_take]; omega
    obtain ⟨pa', c', e, h⟩ := hv
    cases e
    obtain ⟨b, o, rfl, -⟩ := h 0 (by omega)
    rw [e12]
    have hc12 : 12 ≤ c := by omega
    have hcI : (12 : Int) ≤ (c : Int) := by omega
    clear h
    go_enter Tryd.func7, Tryd.ntmps7
    go_wp2
    go_ret
    exact ⟨rfl, rfl⟩
  · have hlI : ¬ (12 : Int) < (zs.length : Int) := by omega
    rw [List.take_of_length_le (by omega)]
    go_enter Tryd.func7, Tryd.ntmps7
    go_wp2
    go_ret
    exact ⟨rfl, rfl⟩

/-- a text of at most so many bytes -/
def shortS (s : ByteArray) (n : Nat) : ByteArray := if n < s.size then s.extract 0 n else s
theorem short_size (s : ByteArray) (n : Nat) : (shortS s n).size ≤ n := by
  unfold shortS
  split
  · simp; omega
  · omega
theorem short_any (s : ByteArray) (n : Nat) (w : World) : Calls Tryd.prog 8 #[.string s, .int .i64 (n : Nat)] w fun e w' => e = .returned (.string (shortS s n)) ∧ w = w' := by
  unfold shortS
  by_cases hl : n < s.size
  · have hlI : (n : Int) < (s.size : Int) := by omega
    have hle : n ≤ s.size := by omega
    rw [if_pos hl]
    go_enter Tryd.func8, Tryd.ntmps8
    go_wp2
    go_ret
    exact ⟨rfl, rfl⟩
  · have hlI : ¬ (n : Int) < (s.size : Int) := by omega
    rw [if_neg hl]
    go_enter Tryd.func8, Tryd.ntmps8
    go_wp2
    go_ret
    exact ⟨rfl, rfl⟩
end Go.Proofs.YtphhafaoccfdpaaDoor
