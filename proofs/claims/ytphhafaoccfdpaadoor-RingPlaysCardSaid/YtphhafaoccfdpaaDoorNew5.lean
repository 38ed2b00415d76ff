/- Walks: the order of points. -/
import Derived.Test.YtphhafaoccfdpaaDoorNew4
namespace Go.Proofs.YtphhafaoccfdpaaDoor
open Go.RowKit Go.Shelf Go.Lib
open Go.Proofs
set_option maxHeartbeats 800000
set_option maxRecDepth 100000
open Rg (Pt)

theorem isNaN_i64 (x : Int) (w : World) : Calls Tryd.prog 47 #[.int .i64 x] w fun e w' => e = .returned (.bool false) ∧ w = w' := by
  go_enter Tryd.func47, Tryd.ntmps47
  go_wp2
  go_ret
  exact ⟨rfl, rfl⟩
theorem cmpi_lt {x y : Int} (w : World) (h : x < y) : Calls Tryd.prog 32 #[.int .i64 x, .int .i64 y] w fun e w' => e = .returned (.int .i64 (-1)) ∧ w = w' := by
  go_enter Tryd.func32, Tryd.ntmps32
  go_wp2_with (go_at_call 47; refine (isNaN_i64 _ _).mono ?_; rintro e w' ⟨rfl, rfl⟩)
  go_ret
  exact ⟨rfl, rfl⟩
theorem cmpi_gt {x y : Int} (w : World) (h : y < x) : Calls Tryd.prog 32 #[.int .i64 x, .int .i64 y] w fun e w' => e = .returned (.int .i64 1) ∧ w = w' := by
  have h1 : ¬ x < y := by omega
  go_enter Tryd.func32, Tryd.ntmps32
  go_wp2_with (go_at_call 47; refine (isNaN_i64 _ _).mono ?_; rintro e w' ⟨rfl, rfl⟩)
  go_ret
  exact ⟨rfl, rfl⟩
theorem cmpi_eq (x : Int) (w : World) : Calls Tryd.prog 32 #[.int .i64 x, .int .i64 x] w fun e w' => e = .returned (.int .i64 0) ∧ w = w' := by
  have h1 : ¬ x < x := by omega
  go_enter Tryd.func32, Tryd.ntmps32
  go_wp2_with (go_at_call 47; refine (isNaN_i64 _ _).mono ?_; rintro e w' ⟨rfl, rfl⟩)
  go_ret
  exact ⟨rfl, rfl⟩
theorem cmp_i64 (x y : Nat) (w : World) : Calls Tryd.prog 32 #[.int .i64 x, .int .i64 y] w fun e w' => e = .returned (.int .i64 (Rg.cmpN x y)) ∧ w = w' := by
  unfold Rg.cmpN
  by_cases h : x < y
  · rw [if_pos h]; exact cmpi_lt w (by omega)
  · rw [if_neg h]
    by_cases h2 : y < x
    · rw [if_pos h2]; exact cmpi_gt w (by omega)
    · obtain rfl : x = y := by omega
      rw [if_neg h2]; exact cmpi_eq _ w


def encPt (p : Pt) : List Value := [.int .u64 (p.at_ : Nat), .int .i64 (p.node : Nat)]
def cfPt (p q : Pt) : Int := if Rg.cmpN p.at_ q.at_ ≠ 0 then Rg.cmpN p.at_ q.at_ else Rg.cmpN p.node q.node

theorem Or_ne (a b : Int) (g c : Nat) (w : World) (h : a ≠ 0) (h0 : w.cell? ⟨g, 0, none⟩ = some (.int .i64 a)) (h1 : w.cell? ⟨g, 1, none⟩ = some (.int .i64 b)) :
    Calls Tryd.prog 30 #[.slice (some ⟨g, 0, none⟩) 2 c] w fun e w' => e = .returned (.int .i64 a) ∧ w = w' := by
  go_enter Tryd.func30, Tryd.ntmps30
  go_wp2
  refine wp_loop_rounds 1 ?_
  rw [rounds_succ]
  go_wp2
  go_ret
  exact ⟨rfl, rfl⟩
theorem Or_eq (b : Int) (g c : Nat) (w : World) (h0 : w.cell? ⟨g, 0, none⟩ = some (.int .i64 0)) (h1 : w.cell? ⟨g, 1, none⟩ = some (.int .i64 b)) :
    Calls Tryd.prog 30 #[.slice (some ⟨g, 0, none⟩) 2 c] w fun e w' => e = .returned (.int .i64 b) ∧ w = w' := by
  by_cases hb : b = 0
  · subst hb
    go_enter Tryd.func30, Tryd.ntmps30
    go_wp2
    refine wp_loop_rounds 3 ?_
    rw [rounds_succ]
    go_wp2
    rw [rounds_succ]
    go_wp2
    rw [rounds_succ]
    go_wp2
    go_ret
    exact ⟨rfl, rfl⟩
  · go_enter Tryd.func30, Tryd.ntmps30
    go_wp2
    refine wp_loop_rounds 2 ?_
    rw [rounds_succ]
    go_wp2
    rw [rounds_succ]
    go_wp2
    go_ret
    exact ⟨rfl, rfl⟩
theorem Or_any (p q : Pt) (g c : Nat) (w : World) (h0 : w.cell? ⟨g, 0, none⟩ = some (.int .i64 (Rg.cmpN p.at_ q.at_))) (h1 : w.cell? ⟨g, 1, none⟩ = some (.int .i64 (Rg.cmpN p.node q.node))) :
    Calls Tryd.prog 30 #[.slice (some ⟨g, 0, none⟩) 2 c] w fun e w' => e = .returned (.int .i64 (cfPt p q)) ∧ w = w' := by
  unfold cfPt
  by_cases h : Rg.cmpN p.at_ q.at_ = 0
  · rw [if_neg (by simpa using h)]
    rw [h] at h0
    exact Or_eq _ g c w h0 h1
  · rw [if_pos h]
    exact Or_ne _ _ g c w h h0 h1

/-- a world with more drawn and more laid -/
def Gw (w w' : World) : Prop := ∃ q os, w' = Sort.grow (w.drewN q) os
theorem Gw.refl (w : World) : Gw w w := ⟨0, #[], by rw [Sort.grow_empty]; rfl⟩
theorem Gw.alloc {w w' : World} (h : Gw w w') (o : Obj) : Gw w (w'.alloc o) := by
  obtain ⟨q, os, rfl⟩ := h
  exact ⟨q, os ++ #[o], by rw [Sort.alloc_eq_grow, Sort.grow_grow]⟩
theorem Gw.drew {w w' : World} (h : Gw w w') : Gw w w'.drew := by
  obtain ⟨q, os, rfl⟩ := h
  exact ⟨q + 1, os, rfl⟩

abbrev RC (w : World) (p q : Pt) (W' : World) : Prop :=
  Hid (Gw w W') ∧ W'.cell? ⟨w.heap.size, 0, none⟩ = some (.int .u64 (p.at_ : Nat)) ∧ W'.cell? ⟨w.heap.size, 1, none⟩ = some (.int .i64 (p.node : Nat)) ∧ W'.cell? ⟨w.heap.size + 1, 0, none⟩ = some (.int .u64 (q.at_ : Nat)) ∧ W'.cell? ⟨w.heap.size + 1, 1, none⟩ = some (.int .i64 (q.node : Nat))
theorem RC.alloc {w : World} {p q : Pt} {W : World} (h : RC w p q W) (o : Obj) : RC w p q (W.alloc o) :=
  ⟨h.1.out.alloc o, Lib.cell?_alloc_some _ h.2.1, Lib.cell?_alloc_some _ h.2.2.1, Lib.cell?_alloc_some _ h.2.2.2.1, Lib.cell?_alloc_some _ h.2.2.2.2⟩

theorem New2_any (p q : Pt) (w : World) : Calls Tryd.prog 29 #[.agg (encPt p).toArray, .agg (encPt q).toArray] w fun e w' => e = .returned (.int .i64 (cfPt p q)) ∧ Gw w w' := by
  simp only [encPt]
  go_enter Tryd.func29, Tryd.ntmps29
  go_wp2
  generalize hW : World.alloc _ _ = W0
  have hS : RC w p q W0 := by
    rw [← hW]
    exact ⟨((Gw.refl w).alloc _).alloc _, by simp, by simp, by simp, by simp⟩
  clear hW
  go_region_held3 (fun W' => Hid (Gw w W') ∧ W'.cell? ⟨w.heap.size, 0, none⟩ = some (.int .u64 (p.at_ : Nat)) ∧ W'.cell? ⟨w.heap.size, 1, none⟩ = some (.int .i64 (p.node : Nat)) ∧ W'.cell? ⟨w.heap.size + 1, 0, none⟩ = some (.int .u64 (q.at_ : Nat)) ∧ W'.cell? ⟨w.heap.size + 1, 1, none⟩ = some (.int .i64 (q.node : Nat)))
    (first
      | assumption
      | exact ⟨hS.1.out.drew, hS.2⟩
      | exact RC.alloc (by assumption) _)
    (first
      | (go_at_call 31; refine (cmp_u64 _ _ _).mono ?_; rintro e W1 ⟨rfl, rfl⟩)
      | (go_at_call 32; refine (cmp_i64 _ _ _).mono ?_; rintro e W1 ⟨rfl, rfl⟩)
      | (go_at_call 30; refine (Or_any p q _ _ _ (by simp) (by simp)).mono ?_; rintro e W1 ⟨rfl, rfl⟩))
  rename_i hE
  obtain ⟨hG, -⟩ := hE
  go_wp2
  go_ret
  exact ⟨rfl, hG.out⟩
end Go.Proofs.YtphhafaoccfdpaaDoor
