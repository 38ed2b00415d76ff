/- Walks: the key of a question, the program's and the reference's. -/
import Derived.Test.YtphhafaoccfdpaaDoorLow2
import Derived.Deep.RegionHeld3
import Derived.Deep.Cut
namespace Go.Proofs.YtphhafaoccfdpaaDoor
open Go.RowKit Go.Lib
open Go.Proofs
set_option maxHeartbeats 1600000
set_option maxRecDepth 100000

theorem lowS_size (s : ByteArray) : (lowS s).size = s.size := by unfold lowS; rw [strN_size, List.length_map, nums_length]
/-- a question's key -/
def keyS (n : ByteArray) (t c : Nat) : ByteArray := lowS n ++ strN [t / 256, t % 256, c / 256, c % 256]
theorem conv4 (a b c d : Nat) : ∀ (W : World) (g : Nat), W.cell? ⟨g, 0, none⟩ = some (.int .u8 (a : Int)) → W.cell? ⟨g, 1, none⟩ = some (.int .u8 (b : Int)) → W.cell? ⟨g, 2, none⟩ = some (.int .u8 (c : Int)) → W.cell? ⟨g, 3, none⟩ = some (.int .u8 (d : Int)) →
    (convert 62 9 (.slice (some ⟨g, 0, none⟩) 4 4)).run Tryd.prog W = .ok (.string (strN [a, b, c, d])) W := by
  intro W g h0 h1 h2 h3
  have h := run_convert_bytes_arg (P := Tryd.prog) W 62 5 (by kernel_rfl) (by kernel_rfl) g 0 4 4 [(a : Int), (b : Int), (c : Int), (d : Int)] rfl (fun i hi => by
    have : i = 0 ∨ i = 1 ∨ i = 2 ∨ i = 3 := by omega
    rcases this with rfl | rfl | rfl | rfl
    · exact h0
    · exact h1
    · exact h2
    · exact h3) 9 (by kernel_rfl)
  rw [h]
  rfl
abbrev KS (w : World) (n : ByteArray) (t c : Nat) (W' : World) : Prop :=
  Hid (Below w.heap.size w W') ∧ W'.cell? ⟨w.heap.size, 0, none⟩ = some (.string n) ∧ W'.cell? ⟨w.heap.size, 1, none⟩ = some (.int .u16 (t : Int)) ∧ W'.cell? ⟨w.heap.size, 2, none⟩ = some (.int .u16 (c : Int))
theorem KS.alloc {w : World} {n : ByteArray} {t c : Nat} {W : World} (h : KS w n t c W) (o : Obj) : KS w n t c (W.alloc o) :=
  ⟨h.1.out.alloc h.1.out.size o, cell?_alloc_some _ h.2.1, cell?_alloc_some _ h.2.2.1, cell?_alloc_some _ h.2.2.2⟩
theorem KS.ext {w : World} {n : ByteArray} {t c : Nat} {W W1 : World} (h : KS w n t c W) (hB : Below W.heap.size W W1) : KS w n t c W1 :=
  ⟨h.1.out.trans (hB.mono h.1.out.size), (hB.cell (p := ⟨w.heap.size, 0, none⟩) (block_lt_of_cell h.2.1)).trans h.2.1, (hB.cell (p := ⟨w.heap.size, 1, none⟩) (block_lt_of_cell h.2.2.1)).trans h.2.2.1, (hB.cell (p := ⟨w.heap.size, 2, none⟩) (block_lt_of_cell h.2.2.2)).trans h.2.2.2⟩
/-- four bytes that lay behind stay -/
theorem kbytes {W W1 : World} {a b c d : Value} {T : TypeId} (h : Below (W.alloc (.cells #[a, b, c, d] T)).drew.heap.size (W.alloc (.cells #[a, b, c, d] T)).drew W1) :
    W1.cell? ⟨W.heap.size, 0, none⟩ = some a ∧ W1.cell? ⟨W.heap.size, 1, none⟩ = some b ∧ W1.cell? ⟨W.heap.size, 2, none⟩ = some c ∧ W1.cell? ⟨W.heap.size, 3, none⟩ = some d := by
  have hb := (h.block W.heap.size (by simp)).trans (heap_alloc_new W (.cells #[a, b, c, d] T))
  exact ⟨cellAt hb 0, cellAt hb 1, cellAt hb 2, cellAt hb 3⟩

theorem Key_any (n : ByteArray) (t c : Nat) (ht : t < 65536) (hc : c < 65536) (w : World) (hn : n.size ≤ 281474976710656) :
    Calls Tryd.prog 17 #[.agg #[.string n, .int .u16 t, .int .u16 c]] w fun e w' => e = .returned (.string (keyS n t c)) ∧ Below w.heap.size w w' := by
  have e1 : IntKind.u8.wrap ((t : Int) / 256) = ((t / 256 : Nat) : Int) := by simp only [IntKind.wrap_u8]; omega
  have e2 : IntKind.u8.wrap (t : Int) = ((t % 256 : Nat) : Int) := by simp only [IntKind.wrap_u8]; omega
  have e3 : IntKind.u8.wrap ((c : Int) / 256) = ((c / 256 : Nat) : Int) := by simp only [IntKind.wrap_u8]; omega
  have e4 : IntKind.u8.wrap (c : Int) = ((c % 256 : Nat) : Int) := by simp only [IntKind.wrap_u8]; omega
  have hk : Hid (keyS n t c = lowS n ++ strN [t / 256, t % 256, c / 256, c % 256]) := rfl
  generalize t / 256 = t1 at *
  generalize t % 256 = t2 at *
  generalize c / 256 = c1 at *
  generalize c % 256 = c2 at *
  have hcv := conv4 t1 t2 c1 c2
  have hls : (lowS n).size ≤ 281474976710656 := by rw [lowS_size]; exact hn
  have hts : (strN [t1, t2, c1, c2]).size ≤ 4 := by rw [strN_size]; simp
  have hlow := fun w => Lower_any n w
  have hno : ¬ 9223372036854775807 < (lowS n).size + (strN [t1, t2, c1, c2]).size := by omega
  generalize lowS n = ls at *
  generalize strN [t1, t2, c1, c2] = ts at *
  replace hlow := Lib.hid hlow
  go_enter Tryd.func17, Tryd.ntmps17
  go_wp2
  generalize hW : World.alloc _ _ = W0
  have hB0 : Hid (Below w.heap.size w W0) := by rw [← hW]; exact (Below.refl _ _).alloc (Nat.le_refl _) _
  have s0 : W0.cell? ⟨w.heap.size, 0, none⟩ = some (.string n) := by rw [← hW]; simp
  have s1 : W0.cell? ⟨w.heap.size, 1, none⟩ = some (.int .u16 (t : Int)) := by rw [← hW]; simp
  have s2 : W0.cell? ⟨w.heap.size, 2, none⟩ = some (.int .u16 (c : Int)) := by rw [← hW]; simp
  have hz : w.heap.size < W0.heap.size := by rw [← hW]; simp
  clear hW
  go_region_held (fun W' => Hid (Below w.heap.size w W') ∧ W'.cell? ⟨w.heap.size, 0, none⟩ = some (.string n) ∧ W'.cell? ⟨w.heap.size, 1, none⟩ = some (.int .u16 (t : Int)) ∧ W'.cell? ⟨w.heap.size, 2, none⟩ = some (.int .u16 (c : Int)))
    (first
      | assumption
      | exact ⟨(hB0.out.drew : Below w.heap.size w W0.drew), s0, s1, s2⟩
      | exact KS.alloc (by assumption) _)
    (first
      | (go_at_call 37; refine (hlow.out _ hn).mono ?_; rintro e W1 ⟨rfl, h0⟩; have hS1 := KS.ext (by assumption) h0; try (obtain ⟨b0, b1, b2, b3⟩ := kbytes h0); clear h0))
  all_goals
    rename_i hE
    obtain ⟨hG, -⟩ := hE
    go_wp2
    go_ret
    exact ⟨by show Ending.returned (.string (ls ++ ts)) = _; rw [hk.out], hG.out⟩
theorem KeyR_any (n : ByteArray) (t c : Nat) (ht : t < 65536) (hc : c < 65536) (w : World) (hn : n.size ≤ 281474976710656) :
    Calls Tryd.prog 18 #[.agg #[.string n, .int .u16 t, .int .u16 c]] w fun e w' => e = .returned (.string (keyS n t c)) ∧ Below w.heap.size w w' := by
  have e1 : IntKind.u8.wrap ((t : Int) / 256) = ((t / 256 : Nat) : Int) := by simp only [IntKind.wrap_u8]; omega
  have e2 : IntKind.u8.wrap (t : Int) = ((t % 256 : Nat) : Int) := by simp only [IntKind.wrap_u8]; omega
  have e3 : IntKind.u8.wrap ((c : Int) / 256) = ((c / 256 : Nat) : Int) := by simp only [IntKind.wrap_u8]; omega
  have e4 : IntKind.u8.wrap (c : Int) = ((c % 256 : Nat) : Int) := by simp only [IntKind.wrap_u8]; omega
  have hk : Hid (keyS n t c = lowS n ++ strN [t / 256, t % 256, c / 256, c % 256]) := rfl
  generalize t / 256 = t1 at *
  generalize t % 256 = t2 at *
  generalize c / 256 = c1 at *
  generalize c % 256 = c2 at *
  have hcv := conv4 t1 t2 c1 c2
  have hls : (lowS n).size ≤ 281474976710656 := by rw [lowS_size]; exact hn
  have hts : (strN [t1, t2, c1, c2]).size ≤ 4 := by rw [strN_size]; simp
  have hlow := fun w => LowerR_any n w
  have hno : ¬ 9223372036854775807 < (lowS n).size + (strN [t1, t2, c1, c2]).size := by omega
  generalize lowS n = ls at *
  generalize strN [t1, t2, c1, c2] = ts at *
  replace hlow := Lib.hid hlow
  go_enter Tryd.func18, Tryd.ntmps18
  go_wp2
  generalize hW : World.alloc _ _ = W0
  have hB0 : Hid (Below w.heap.size w W0) := by rw [← hW]; exact (Below.refl _ _).alloc (Nat.le_refl _) _
  have s0 : W0.cell? ⟨w.heap.size, 0, none⟩ = some (.string n) := by rw [← hW]; simp
  have s1 : W0.cell? ⟨w.heap.size, 1, none⟩ = some (.int .u16 (t : Int)) := by rw [← hW]; simp
  have s2 : W0.cell? ⟨w.heap.size, 2, none⟩ = some (.int .u16 (c : Int)) := by rw [← hW]; simp
  have hz : w.heap.size < W0.heap.size := by rw [← hW]; simp
  clear hW
  go_region_held (fun W' => Hid (Below w.heap.size w W') ∧ W'.cell? ⟨w.heap.size, 0, none⟩ = some (.string n) ∧ W'.cell? ⟨w.heap.size, 1, none⟩ = some (.int .u16 (t : Int)) ∧ W'.cell? ⟨w.heap.size, 2, none⟩ = some (.int .u16 (c : Int)))
    (first
      | assumption
      | exact ⟨(hB0.out.drew : Below w.heap.size w W0.drew), s0, s1, s2⟩
      | exact KS.alloc (by assumption) _)
    (first
      | (go_at_call 38; refine (hlow.out _ hn).mono ?_; rintro e W1 ⟨rfl, h0⟩; have hS1 := KS.ext (by assumption) h0; try (obtain ⟨b0, b1, b2, b3⟩ := kbytes h0); clear h0))
  all_goals
    rename_i hE
    obtain ⟨hG, -⟩ := hE
    go_wp2
    go_ret
    exact ⟨by show Ending.returned (.string (ls ++ ts)) = _; rw [hk.out], hG.out⟩
end Go.Proofs.YtphhafaoccfdpaaDoor
