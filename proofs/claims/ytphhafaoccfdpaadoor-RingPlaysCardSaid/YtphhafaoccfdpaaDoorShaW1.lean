/- Walks: rot, turned. -/
import Derived.Test.YtphhafaoccfdpaaDoorBase
import Derived.Test.YtphhafaoccfdpaaDoorSha
namespace Go.Proofs.YtphhafaoccfdpaaDoor
open Go.RowKit
open Go.Proofs
set_option maxHeartbeats 400000
set_option maxRecDepth 100000

theorem rot_gen (x n m : Nat) (w : World) (hx1 : x < 4294967296) (hm : m < 32) (hnm : Hid (n = 32 - m)) (hn : n < 32) (hb : bits .and .u64 (IntKind.u64.wrap (-(n : Int))) 31 = m) :
    Calls Tryd.prog 98 #[.int .u32 x, .int .i64 n] w fun e w' => e = .returned (.int .u32 (Sha.rotr x n : Nat)) ∧ w = w' := by
  go_enter Tryd.func98, Tryd.ntmps98
  go_wp2
  go_ret
  refine ⟨?_, rfl⟩
  have h1 : ((x : Int) * 2 ^ m % 4294967296) = ((x * 2 ^ m % 4294967296 : Nat) : Int) := by simp
  have h2 : ((x : Int) / 2 ^ (32 - m)) = ((x / 2 ^ (32 - m) : Nat) : Int) := by simp
  have h3 : 32 - n = m := by have := hnm.out; omega
  have h4 : 32 - m = n := by have := hnm.out; omega
  show Ending.returned (.int .u32 (bits .or .u32 ((x : Int) * 2 ^ m % 4294967296) ((x : Int) / 2 ^ (32 - m)))) = _
  rw [h1, h2, u32_or_nat _ _ (Nat.mod_lt _ (by omega)) (Nat.lt_of_le_of_lt (Nat.div_le_self _ _) hx1), Sha.rotr, h3, h4]

theorem rot_at {x n : Nat} {w : World} (hx1 : x < 4294967296) (h0 : 0 < n) (hn : n < 32) :
    Calls Tryd.prog 98 #[.int .u32 x, .int .i64 n] w fun e w' => e = .returned (.int .u32 (Sha.rotr x n : Nat)) ∧ w = w' := by
  refine rot_gen x n (32 - n) w hx1 (by omega) (by show n = 32 - (32 - n); omega) hn ?_
  have : ∀ n : Fin 32, 0 < n.val → bits .and .u64 (IntKind.u64.wrap (-(n.val : Int))) 31 = ((32 - n.val : Nat) : Int) := by decide
  exact this ⟨n, hn⟩ h0

theorem rot_int {x : Nat} {n : Int} {w : World} (hx1 : x < 4294967296) (h0 : 0 < n) (hn : n < 32) :
    Calls Tryd.prog 98 #[.int .u32 x, .int .i64 n] w fun e w' => e = .returned (.int .u32 (Sha.rotr x n.toNat : Nat)) ∧ w = w' := by
  obtain ⟨k, rfl⟩ := Int.eq_ofNat_of_zero_le (show 0 ≤ n by omega)
  exact rot_at hx1 (by omega) (by omega)

theorem turned_at {x a b c : Nat} {w : World} (hx1 : x < 4294967296) (ha0 : 0 < a) (ha : a < 32) (hb0 : 0 < b) (hb : b < 32) (hc0 : 0 < c) (hc : c < 32) :
    Calls Tryd.prog 84 #[.int .u32 x, .int .i64 a, .int .i64 b, .int .i64 c] w fun e w' => e = .returned (.int .u32 (Sha.turn x a b c : Nat)) ∧ w = w' := by
  go_enter Tryd.func84, Tryd.ntmps84
  go_wp2_with (go_at_call 98; refine (rot_at hx1 (by assumption) (by assumption)).mono ?_; rintro e w' ⟨rfl, rfl⟩)
  go_ret
  refine ⟨?_, rfl⟩
  have h1 := Sha.rotr_lt a hx1
  have h2 := Sha.rotr_lt b hx1
  have h3 := Sha.rotr_lt c hx1
  show Ending.returned (.int .u32 (bits .xor .u32 (bits .xor .u32 _ _) _)) = _
  rw [u32_xor_nat _ _ h1 h2, u32_xor_nat _ _ (Sha.xor_lt h1 h2) h3, Sha.turn]

theorem turned_int {x : Nat} {a b c : Int} {w : World} (hx1 : x < 4294967296) (ha0 : 0 < a) (ha : a < 32) (hb0 : 0 < b) (hb : b < 32) (hc0 : 0 < c) (hc : c < 32) :
    Calls Tryd.prog 84 #[.int .u32 x, .int .i64 a, .int .i64 b, .int .i64 c] w fun e w' => e = .returned (.int .u32 (Sha.turn x a.toNat b.toNat c.toNat : Nat)) ∧ w = w' := by
  obtain ⟨a, rfl⟩ := Int.eq_ofNat_of_zero_le (show 0 ≤ a by omega)
  obtain ⟨b, rfl⟩ := Int.eq_ofNat_of_zero_le (show 0 ≤ b by omega)
  obtain ⟨c, rfl⟩ := Int.eq_ofNat_of_zero_le (show 0 ≤ c by omega)
  exact turned_at hx1 (by omega) (by omega) (by omega) (by omega) (by omega) (by omega)
end Go.Proofs.YtphhafaoccfdpaaDoor
