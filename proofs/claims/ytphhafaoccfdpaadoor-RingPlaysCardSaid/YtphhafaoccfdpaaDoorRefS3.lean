/- Walks: the reference's Pad. -/
import Derived.Test.YtphhafaoccfdpaaDoorRefS1
import Derived.Deep.Cut
namespace Go.Proofs.YtphhafaoccfdpaaDoor
open Go.RowKit
open Go.Proofs
set_option maxHeartbeats 1600000
set_option maxRecDepth 100000

def bvs (l : List Nat) : List Value := l.map fun (x : Nat) => Value.int .u8 (x : Int)
theorem info_u8 : (Tryd.prog.info? 5).map (fun i => (i.zero, i.size, i.bytes)) = some (some (.int .u8 0), 1, 1) := by kernel_rfl
theorem bvs_length (l : List Nat) : (bvs l).length = l.length := by simp [bvs]
theorem bvs_snoc (l : List Nat) (x : Nat) : bvs (l ++ [x]) = bvs l ++ [.int .u8 (x : Int)] := by simp [bvs]
/-- one byte more -/
theorem cell_one_new' (w : World) (x y : Int) (e : TypeId) (h : x = y) : ∀ j u, [Value.int .u8 y][j]? = some u → (w.alloc (.cells #[.int .u8 x] e)).cell? ((⟨w.heap.size, 0, none⟩ : Addr).add j) = some u := by
  subst h
  exact cell_one_new _ _ _
theorem ownsRow_some' {w : World} {B : Nat} {e : TypeId} {k : Nat} {p : Option Addr} {m c : Nat} {n : Nat} {xs : List Value} (h : w.ownsRow B e k (.slice p m c) n xs) (hn : 0 < n) : ∃ g, p = some ⟨g, 0, none⟩ := by
  obtain ⟨h1, (⟨h3, h2⟩ | ⟨g, cap, cur, hv, hg, hc, rest⟩)⟩ := h
  · omega
  · cases hv; exact ⟨g, rfl⟩
theorem ownsRow_slice' {w : World} {B : Nat} {e : TypeId} {k : Nat} {v : Value} {n : Nat} {xs : List Value} (h : w.ownsRow B e k v n xs) : ∃ p c, v = .slice p n c := by
  obtain ⟨_, (⟨rfl, rfl⟩ | ⟨g, cap, cur, rfl, _⟩)⟩ := h
  · exact ⟨_, _, rfl⟩
  · exact ⟨_, _, rfl⟩
/-- a row of bytes as a string -/
theorem run_bytes_string {w : World} {B g c : Nat} {l : List Nat} (h : w.ownsRow B 5 1 (.slice (some ⟨g, 0, none⟩) l.length c) l.length (bvs l)) :
    (convert 62 9 (.slice (some ⟨g, 0, none⟩) l.length c)).run Tryd.prog w = .ok (.string (strN l)) w := by
  have h' := run_convert_bytes_arg (P := Tryd.prog) w 62 5 (by kernel_rfl) (by kernel_rfl) g 0 l.length c (l.map fun (x : Nat) => (x : Int)) (by simp) (by
    intro i hi
    obtain ⟨_, (⟨h3, _⟩ | ⟨g', cap, cur, hv, hg, hc, hn, hm, hs, ht⟩)⟩ := h
    · cases h3
    · cases hv
      rw [Nat.zero_add, cellAt hc]
      have h4 := congrArg (fun (z : List Value) => z[i]?) ht
      simp only [Nat.mul_one] at h4
      rw [List.getElem?_take_of_lt (by simpa using hi)] at h4
      rw [← Array.getElem?_toList, h4]
      simp [bvs, List.getD_eq_getElem?_getD, hi]) 9 (by kernel_rfl)
  rw [h']
  congr 2
  simp only [strOfNums, strN, List.map_map]
  congr 2

theorem padR_any (n : Nat) (hn : n ≤ 281474976710656) (w : World) :
    Calls Tryd.prog 68 #[.int .i64 n] w fun e w' => e = .returned (.string (strN (Sha.pad n))) ∧ Below w.heap.size w w' := by
  obtain ⟨i0, hi, hz0, hz1, hz2⟩ := info_parts info_u8
  have nlt := Sha.noughts_lt n
  have hno : Hid (Sha.noughts n = (119 - n % 64) % 64) := rfl
  have h0 : decide ((n : Int) < 0) = false := by simp
  have h1 : decide (1152921504606846976 < (n : Int)) = false := by simp; omega
  go_enter Tryd.func68, Tryd.ntmps68
  go_wp2
  have hown : (w.alloc (Obj.cells #[Value.int IntKind.u8 128] 5)).ownsRow w.heap.size 5 1 (.slice (some ⟨w.heap.size, 0, none⟩) 1 1) (Sha.padZ 0).length (bvs (Sha.padZ 0)) :=
    ⟨rfl, .inr ⟨w.heap.size, 1, #[Value.int IntKind.u8 128], rfl, Nat.le_refl _, heap_alloc_new _ _, Nat.le_refl _, by decide, rfl, rfl⟩⟩
  have hB : Below w.heap.size w (w.alloc (Obj.cells #[Value.int IntKind.u8 128] 5)) := (Below.refl _ _).alloc (Nat.le_refl _) _
  replace hown := Lib.hid hown
  replace hB := Lib.hid hB
  go_loopw [3] (fun v wr => ∃ z : Nat, z ≤ Sha.noughts n ∧ ∃ g c, v = .slice (some ⟨g, 0, none⟩) (z + 1) c ∧ Hid (wr.ownsRow w.heap.size 5 1 v (Sha.padZ z).length (bvs (Sha.padZ z))) ∧ Hid (Below w.heap.size w wr))
    (fun v _ => match v with | .slice _ z _ => 65 - z | _ => 0)
  case atStart => exact ⟨0, by omega, _, _, rfl, hown, hB⟩
  case round =>
    obtain ⟨z, hz, g, c, rfl, gO, gB⟩ := hrel
    clear hown hB
    by_cases hlt : z < Sha.noughts n
    · have ht : (((n : Int) % 64 + ((z : Int) + 1) + 8) % 64 == 0) = false := by
        have := hno.out
        simp; omega
      have ht2 : (((n : Int) % 64 + ((z : Int) + 1) + 8) % 64 != 0) = true := by
        have := hno.out
        simp; omega
      go_wp2_with (at_builtin; go_must (refine wpList_append_own _ rfl _ _ 62 rfl w.heap.size 5 i0 (.int .u8 0) 1 1 (by kernel_rfl) hi hz0 hz1 hz2 rfl (by decide) (.slice (some ⟨g, 0, none⟩) (z + 1) c) (Sha.padZ z).length (bvs (Sha.padZ z)) rfl (gO.out.alloc _) ⟨wr.heap.size, 0, none⟩ 1 1 [.int .u8 0] rfl rfl (cell_one_new _ _ _) (by simp [Value.oneCell']) (by rw [Sha.padZ_length]; unfold maxLen; omega) (by rw [Sha.padZ_length]; omega) (by simp; have := gB.out.size; omega) ?_; intro v' w1 hown1 hgrow _; have hB1 := Lib.hid (gB.out.trans (grownBelow gO.out hgrow gB.out.size)); rw [Sha.padZ_length] at hown1; obtain ⟨p', c', rfl⟩ := ownsRow_slice' hown1; obtain ⟨g', rfl⟩ := ownsRow_some' hown1 (by omega); have hown1' := Lib.hid hown1; clear hown1 hgrow))
      go_roundw
      case rel => exact ⟨z + 1, by omega, g', c', rfl, by show World.ownsRow _ _ _ _ _ _ _; rw [Sha.padZ_length, Sha.padZ_succ, bvs_snoc]; exact hown1'.out, hB1⟩
      case measure => simp; omega
    · obtain rfl : z = Sha.noughts n := by omega
      have ht : (((n : Int) % 64 + ((Sha.noughts n : Int) + 1) + 8) % 64 == 0) = true := by
        have := hno.out
        simp; omega
      have ht2 : (((n : Int) % 64 + ((Sha.noughts n : Int) + 1) + 8) % 64 != 0) = false := by
        have := hno.out
        simp; omega
      have gO' : Hid (wr.ownsRow w.heap.size 5 1 (.slice (some ⟨g, 0, none⟩) (Sha.padR n 0).length c) (Sha.padR n 0).length (bvs (Sha.padR n 0))) := by
        show World.ownsRow _ _ _ _ _ _ _
        rw [Sha.padR_zero, Sha.padZ_length]; have := gO.out; rw [Sha.padZ_length] at this; exact this
      clear gO
      go_wp2
      go_loopw [3, 4] (fun v k wr => ∃ z : Nat, z ≤ 8 ∧ k = .int .i64 (7 - (z : Int)) ∧ ∃ g c, v = .slice (some ⟨g, 0, none⟩) (Sha.noughts n + 1 + z) c ∧ Hid (wr.ownsRow w.heap.size 5 1 v (Sha.padR n z).length (bvs (Sha.padR n z))) ∧ Hid (Below w.heap.size w wr))
        (fun _ k _ => (intOf k + 1).toNat)
      case atStart => exact ⟨0, by omega, rfl, g, c, rfl, by have := gO'; rw [Sha.padR_length] at this ⊢; exact this, gB⟩
      case round =>
        clear gO' gB
        obtain ⟨k, hk, rfl, g2, c2, rfl, gO, gB⟩ := hrel
        by_cases hlt : k < 8
        · have hsh : (n : Int) * 8 / 2 ^ (8 * (7 - k)) % 256 = ((Sha.lenB n k : Nat) : Int) := by
            unfold Sha.lenB
            simp
          have hq : (0 : Int) ≤ 7 - (k : Int) := by omega
          have ht8 : (8 * (7 - (k : Int))).toNat = 8 * (7 - k) := by omega
          go_wp2_with (at_builtin; go_must (refine wpList_append_own _ rfl _ _ 62 rfl w.heap.size 5 i0 (.int .u8 0) 1 1 (by kernel_rfl) hi hz0 hz1 hz2 rfl (by decide) (.slice (some ⟨g2, 0, none⟩) (Sha.noughts n + 1 + k) c2) (Sha.padR n k).length (bvs (Sha.padR n k)) rfl (gO.out.alloc _) ⟨wr.heap.size, 0, none⟩ 1 1 [.int .u8 (Sha.lenB n k : Nat)] rfl rfl (cell_one_new' _ _ _ _ hsh) (by simp [Value.oneCell']) (by rw [Sha.padR_length]; unfold maxLen; omega) (by rw [Sha.padR_length]; omega) (by simp; have := gB.out.size; omega) ?_; intro v' w1 hown1 hgrow _; have hB1 := Lib.hid (gB.out.trans (grownBelow gO.out hgrow gB.out.size)); rw [Sha.padR_length] at hown1; obtain ⟨p', c', rfl⟩ := ownsRow_slice' hown1; obtain ⟨g', rfl⟩ := ownsRow_some' hown1 (by omega); have hown1' := Lib.hid hown1; clear hown1 hgrow))
          go_roundw
          case rel =>
            exact ⟨k + 1, by omega, by go_num, g', c', rfl, by show World.ownsRow _ _ _ _ _ _ _; rw [Sha.padR_length, Sha.padR_succ, bvs_snoc]; exact hown1'.out, hB1⟩
          case measure => simp [intOf]; omega
        · obtain rfl : k = 8 := by omega
          have hcv : (convert 62 9 (.slice (some ⟨g2, 0, none⟩) (Sha.noughts n + 1 + 8) c2)).run Tryd.prog wr = .ok (.string (strN (Sha.pad n))) wr := by
            have h := gO.out
            rw [Sha.padR_end, ] at h
            have hl : (Sha.pad n).length = Sha.noughts n + 1 + 8 := by rw [← Sha.padR_end, Sha.padR_length]
            rw [← hl] at h ⊢
            exact run_bytes_string h
          go_wp2
          go_ret
          exact ⟨rfl, gB.out⟩
end Go.Proofs.YtphhafaoccfdpaaDoor
