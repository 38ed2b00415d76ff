/- Walks: At inside the ring. -/
import Derived.Test.YtphhafaoccfdpaaDoorTop6
namespace Go.Proofs.YtphhafaoccfdpaaDoor
open Go.RowKit Go.Shelf Go.Lib
open Go.Proofs
set_option maxHeartbeats 800000
set_option maxRecDepth 100000
open Rg (Pt)

theorem At_in (pr : Option Addr) (ns : List Int) (i : Nat) (w : World) (h : RSt w pr ns) (hl : ns.length ≤ 10000) (hi : i < ns.length * 16) :
    Calls Tryd.prog 13 #[.pointer pr, .int .i64 (i : Nat)] w fun e w' =>
      e = .returned (.tuple #[.int .u64 (((sortPts (ptsUp ns ns.length)).getD i Rg.d0).at_ : Nat), .int .i64 (((sortPts (ptsUp ns ns.length)).getD i Rg.d0).node : Nat)]) ∧ Below w.heap.size w w' := by
  have h' := Lib.hid h
  rcases h.cases with ⟨rfl, _⟩ | ⟨hne, rb, vn, gp, c, rfl, hR⟩
  · simp at hi
  · have hPl : (sortPts (ptsUp ns ns.length)).length = ns.length * 16 := by rw [sortPts_length, ptsUp_length]
    have hc := cellAt hR.blk 1
    have hi' : i < (sortPts (ptsUp ns ns.length)).length := by omega
    obtain ⟨c0, c1⟩ := hR.pts i hi'
    clear h hR
    generalize sortPts (ptsUp ns ns.length) = P at *
    generalize (P.getD i Rg.d0).at_ = x at *
    generalize (P.getD i Rg.d0).node = y at *
    have hc1 : w.cell? ⟨rb, 1, none⟩ = some (.slice (some ⟨gp, 0, none⟩) P.length c) := by rw [hc]; rfl
    replace hPl := Lib.hid hPl
    have i0 : 0 ≤ (i : Int) := by omega
    have i1 : (i : Int) < (P.length : Int) := by omega
    have i2 : ¬ ((ns.length * 16 : Nat) : Int) ≤ (i : Int) := by omega
    have i3 : decide ((i : Int) < 0) = false := by simp
    have i4 : decide ((ns.length * 16 : Nat) ≤ i) = false := by simp; omega
    clear hc
    go_enter Tryd.func13, Tryd.ntmps13
    go_wp2_with (go_at_call 14; refine (Len_st _ ns _ h'.out).mono ?_; rintro e w' ⟨rfl, rfl⟩)
    go_quiet (fail)
    go_wp2
    go_ret2
    exact ⟨rfl, belowDrewN (Below.refl _ _) _⟩
end Go.Proofs.YtphhafaoccfdpaaDoor
