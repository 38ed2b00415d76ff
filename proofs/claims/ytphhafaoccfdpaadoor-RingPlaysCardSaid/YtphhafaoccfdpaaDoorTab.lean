/- The laid table, opened. -/
import Derived.Test.YtphhafaoccfdpaaDoorTop4
import Derived.Test.YtphhafaoccfdpaaDoorRows
import Derived.ProofKit
import Derived.LaidMore
import Derived.OpenShut
import Derived.Stop.Joined
namespace Go.Proofs.YtphhafaoccfdpaaDoor
open Go.ChangeShapes Go.WideShapes Go.ChangeAt Go.WideMaps Go.WideElems Go.RowKit
set_option maxRecDepth 100000

theorem gTab : Tryd.prog.globalNamed "fingerpost/sha.table" = some 0 := by kernel_rfl
theorem tTab : (Tryd.prog.globals[0]?).map (·.type) = some 121 := by kernel_rfl
theorem uTab : Tryd.prog.underlying 121 = some (.array 64 92) := by kernel_rfl
theorem uU32 : Tryd.prog.underlying 92 = some (.int .u32) := by kernel_rfl
theorem cU32 : Tryd.prog.cellsOf 92 = 1 := by kernel_rfl
abbrev tabLaid : List (String × DataW Unit) := [("fingerpost/sha.table", Rows.laid_fingerpost_sha_table)]
theorem laidList : (Rows.laid_fingerpost_sha_table : DataW Unit) = .agg (Sha.table.map fun n => .lit (.int .u32 (n : Nat))) := by kernel_rfl

theorem of_laid {W : World} (h : laidMetH Tryd.prog tabLaid W) : TableOk W := by
  rw [MakeChecks.laidMetH_plain _ _ _ (by kernel_rfl)] at h
  obtain ⟨ps, ⟨g0, t0, cs0, f0, p0, q0, hg0, ht0, hv0, hd0, _, _⟩, _, _⟩ := h
  obtain rfl := Option.some.inj (gTab.symm.trans hg0)
  obtain rfl := Option.some.inj (tTab.symm.trans ht0)
  obtain ⟨xs, m1, rfl, hx1, hlen, hn3, hel⟩ := DataW.trod_array uTab hd0
  have hcell : ∀ j, j < 64 → W.cell? ⟨0, j, none⟩ = some (.int .u32 ((Sha.table.getD j 0 : Nat) : Int)) := by
    intro j hj
    have h0 := hel j hj
    rw [cU32, Nat.mul_one, List.getElem?_eq_getElem (by rw [hn3]; exact hj)] at h0
    obtain ⟨k, e1, e2, _⟩ := DataW.trod_int uU32 h0
    rw [World.var?_cell gTab hv0 j]
    have hx2 : (Rows.laid_fingerpost_sha_table : DataW Unit) = .agg (xs.map (·.1)) := congrArg Prod.fst hx1
    rw [laidList] at hx2
    have hx3 : Sha.table.map (fun n => (DataW.lit (.int .u32 (n : Nat)) : DataW Unit)) = xs.map (·.1) := by injection hx2
    have hx4 := congrArg (fun l => l[j]?) hx3
    have hjt : j < Sha.table.length := by have : Sha.table.length = 64 := by decide
                                          omega
    simp only [List.getElem?_map, List.getElem?_eq_getElem hjt, List.getElem?_eq_getElem (show j < xs.length by rw [hn3]; exact hj), Option.map_some, e2, Option.some.injEq, DataW.lit.injEq, Lit.int.injEq, true_and] at hx4
    have e3 : cs0.toList[j]? = some (.int .u32 k) := by
      have := congrArg (fun l => l[0]?) e1
      simpa using this
    rw [Array.getElem?_toList] at e3
    rw [e3, gD hjt, ← hx4]
  exact ⟨block_lt_of_cell (hcell 0 (by decide)), hcell⟩
end Go.Proofs.YtphhafaoccfdpaaDoor
