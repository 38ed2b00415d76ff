/- What a row's arguments read as: a slice of whole numbers. The laid table at the door. -/
import Derived.Test.YtphhafaoccfdpaaDoorTab
import Derived.Test.YtphhafaoccfdpaaDoorRow0
import Derived.WalkKit
namespace Go.Proofs.YtphhafaoccfdpaaDoor
open Go.ChangeShapes Go.WideShapes Go.ChangeAt Go.WideMaps Go.WideElems Go.RowKit
set_option maxRecDepth 100000

theorem own_ : ownKnob Tryd.prog.godebug = none := by kernel_rfl
theorem door_met_ (os : Os) (args : Array Value) : laidMetH Tryd.prog tabLaid ((World.doorLaid Tryd.prog 400 os).forCall (fun _ _ => 0) ⟨#[], args, []⟩).memory :=
  laidMetH_of_parts3 (fuel := 8) (laidMet_of_run' 8 (by kernel_rfl) (by kernel_rfl)) (by kernel_rfl) (by kernel_rfl)
theorem uBool' : Tryd.prog.underlying 4 = some .bool := by kernel_rfl
theorem uStr' : Tryd.prog.underlying 9 = some .string := by kernel_rfl
theorem uInts' : Tryd.prog.underlying 22 = some (.slice 3) := by kernel_rfl
theorem uInt' : Tryd.prog.underlying 3 = some (.int .i64) := by kernel_rfl
theorem cInt' : Tryd.prog.cellsOf 3 = 1 := by kernel_rfl
theorem sizeOfReach {n : Nat} (h : n ≤ reachBytes) : n ≤ 281474976710656 := by
  have : reachBytes < 2 ^ 47 := by decide
  omega
/-- a slice of whole numbers that came in, by its cells -/
theorem ints_cells {H : Type} {enc : TypeId × Value → H} {W : World} {cs : List Value} {d : DataW H} {p : List MemPlace} {a0 : Option Addr} {len cap fuel : Nat} (hc : cs = [.slice a0 len cap])
    (h : DataW.trod enc Tryd.prog W 0 (fun _ => true) true fuel 22 cs = some (d, p)) : ∃ zs : List Int, len = zs.length ∧ SlInts W (.slice a0 zs.length cap) zs ∧ zs.length ≤ cap ∧ cap ≤ 9223372036854775807 := by
  rcases open_ints uInts' uInt' cInt' h with ⟨hcs, hx⟩ | ⟨a, len', cap', zs, hcs, _, hl, hm, hz, hx, hcell, _⟩
  · rw [hc] at hcs
    simp at hcs
    obtain ⟨rfl, rfl, rfl⟩ := hcs
    exact ⟨[], rfl, SlInts.nil _ _ _, Nat.le_refl _, by omega⟩
  · rw [hc] at hcs
    simp at hcs
    obtain ⟨rfl, rfl, rfl⟩ := hcs
    simp only [if_true] at hz
    have e : (zs.take len).length = len := by rw [List.length_take]; omega
    refine ⟨zs.take len, e.symm, ⟨_, _, rfl, fun i hi => ?_⟩, by omega, by unfold maxLen at hm; omega⟩
    rw [e] at hi
    obtain ⟨b, off, rfl, hcc⟩ := ints_at hcell (by omega)
    refine ⟨b, off, rfl, ?_⟩
    rw [hcc i (by omega), List.getD_eq_getElem?_getD, List.getD_eq_getElem?_getD, List.getElem?_take_of_lt hi]
theorem ints_arg {H : Type} {enc : TypeId × Value → H} {W : World} {base : Nat} {v : Value} {d : DataW H} {p : List MemPlace} (h : DataW.Trod enc Tryd.prog W 0 (fun _ => true) true 22 v d p)
    (hok : Value.okWide Tryd.prog W .any base 22 v) : ∃ pa c zs, v = .slice pa zs.length c ∧ SlInts W (.slice pa zs.length c) zs ∧ zs.length ≤ c ∧ c ≤ 9223372036854775807 := by
  obtain ⟨a0, len, cap, rfl⟩ := okWide_slice uInts' hok
  obtain ⟨fuel, hf⟩ := h
  obtain ⟨zs, rfl, h1, h2, h3⟩ := ints_cells (a0 := a0) (len := len) (cap := cap) rfl hf
  exact ⟨_, _, zs, rfl, h1, h2, h3⟩
end Go.Proofs.YtphhafaoccfdpaaDoor
