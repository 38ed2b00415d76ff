/- Walks: DeleteFunc on a row of one's own, with ring.New's first closure. -/
import Derived.Test.YtphhafaoccfdpaaDoorNew3
namespace Go.Proofs.YtphhafaoccfdpaaDoor
open Go.RowKit Go.Shelf Go.Lib
open Go.Proofs
set_option maxHeartbeats 800000
set_option maxRecDepth 100000

def badNode (x : Int) : Bool := decide (x < 0) || decide (64 ≤ x)

theorem gives_bad (x : Int) (W : World) : FnGives Tryd.prog 26 #[] #[.int .i64 x] (.bool (badNode x)) W := by
  show Calls Tryd.prog 26 #[.int .i64 x] W _
  go_enter Tryd.func26, Tryd.ntmps26
  go_wp2
  all_goals (go_ret; exact ⟨by simp [badNode]; try omega, 0, rfl⟩)

theorem IndexFunc_none : ∀ (w : World), Calls Tryd.prog 42 #[.slice none 0 0, .func (.func 26) #[] #[]] w fun e w' => e = .returned (.int .i64 (-1)) ∧ w' = w := by
  intro w
  go_enter Tryd.func42, Tryd.ntmps42
  go_wp2
  go_loopw [5, 8] (fun s5 s8 wr => s8 = .int .i64 0 ∧ wr = w) (fun s5 s8 wr => 0)
  case atStart => exact ⟨rfl, rfl⟩
  case round =>
    obtain ⟨rfl, rfl⟩ := hrel
    go_wp2
    go_ret
    exact ⟨rfl, rfl⟩

theorem DeleteFunc_none (w : World) : Calls Tryd.prog 25 #[.slice none 0 0, .func (.func 26) #[] #[]] w fun e w' => e = .returned (.slice none 0 0) ∧ w' = w := by
  go_enter Tryd.func25, Tryd.ntmps25
  go_wp2_with (go_at_call 42; refine (IndexFunc_none _).mono ?_; rintro e w' ⟨rfl, rfl⟩)
  go_ret
  exact ⟨rfl, rfl⟩

theorem Delete_own (r : Value) (zs : List Int) (w : World) (B : Nat) (hz : zs.length ≤ 1000000) (h : w.ownsRow B 3 1 r zs.length (ivI zs)) (hB : B ≤ w.heap.size) :
    Calls Tryd.prog 25 #[r, .func (.func 26) #[] #[]] w fun e w' => ∃ r', e = .returned r' ∧ w'.ownsRow B 3 1 r' (zs.filter fun x => !badNode x).length (ivI (zs.filter fun x => !badNode x)) ∧ RowKit.Below B w w' ∧ w.grownBy w' r.ownBlock ∧ r'.ownBlock = r.ownBlock := by
  obtain ⟨hl, (⟨rfl, h0⟩ | ⟨g, cap, cur, rfl, hg, hc, hn, hm, hs, ht⟩)⟩ := h
  · obtain rfl : zs = [] := List.length_eq_zero_iff.1 h0
    refine (DeleteFunc_none w).mono ?_
    rintro e w' ⟨rfl, rfl⟩
    exact ⟨_, rfl, World.ownsRow_nil _ _ _ _, RowKit.Below.refl _ _, ⟨rfl, rfl, rfl, Nat.le_refl _, fun _ _ _ => rfl⟩, rfl⟩
  · have hH : Go.Sort.Holds (Value.int .i64) w g 0 zs.toArray := holds_of_blockI hc (by simpa [ivI] using ht)
    have eg : ∀ args w, (callFunc 26 args).run Tryd.prog w = .ok (.enter 26 args) w := enters_of Tryd.func26 (by kernel_rfl) rfl
    have hcon := AnyE.slices_DeleteFunc Tryd.delP (Value.int .i64) (fun _ => rfl) badNode 26 #[] eg 0 (fun _ => rfl) g 0 cap zs.toArray w (fun W x _ => gives_bad x W) (fun n os dk x _ => gives_bad x _) hH (by simp; omega) (by simpa using hn)
    simp only [List.size_toArray] at hcon
    refine hcon.mono ?_
    rintro e w' ⟨rfl, n, rfl⟩
    have hle : (zs.filter fun x => !badNode x).length ≤ zs.length := List.length_filter_le _ _
    exact ⟨_, rfl, ownsRow_cut hg hc (by omega) hm hs (by simp; omega) (by simp), belowPut _ hg hB, (by have := grownBy_sortedI (w := w) (g := g) (n := n) (os := #[]) ((zs.filter fun x => !badNode x) ++ List.replicate (zs.length - (zs.filter fun x => !badNode x).length) 0).toArray; rwa [Sort.grow_empty] at this), rfl⟩
end Go.Proofs.YtphhafaoccfdpaaDoor
