/- The law RingAlive of the chapter on rings holds: for all nodes, all that are alive and every key, who is asked for is the first one alive from the key on.
   Conditions: none but those of the given row (the listed table of the package sha reads as its initialiser lays it; the card ties that). -/
import Derived.Test.YtphhafaoccfdpaaDoorTop6
import Derived.Test.YtphhafaoccfdpaaDoorRow1
import Derived.Test.YtphhafaoccfdpaaDoorCards
import Derived.Test.YtphhafaoccfdpaaDoorTie
import Derived.SevenTiedAt
namespace Go.Proofs.YtphhafaoccfdpaaDoor.ringAlive
open Go.ChangeShapes Go.WideShapes Go.ChangeAt Go.WideMaps Go.WideElems Go.RowKit
open Go.ChangeMaps (open_string shut_string)
set_option maxRecDepth 100000

theorem walk (pn : Option Addr) (cn : Nat) (ns0 : List Int) (pa : Option Addr) (ca : Nat) (al : List Int) (key : ByteArray) (w : World)
    (hn : SlInts w (.slice pn ns0.length cn) ns0) (hnc : ns0.length ≤ cn) (hcn : cn ≤ 9223372036854775807)
    (ha : SlInts w (.slice pa al.length ca) al) (hac : al.length ≤ ca) (hca : ca ≤ 9223372036854775807) (hk : key.size ≤ 281474976710656) (hT : TableOk w) :
    Calls Tryd.prog 3 #[.slice pn ns0.length cn, .slice pa al.length ca, .string key] w fun e w' => e = .returned (.bool true) ∧ Below w.heap.size w w' := by
  cases hF : Rg.firstOf (ringL (goodNodes (ns0.take 12)) (shortS key 100)) (al.take 12) with
  | none => exact alive_none pn cn ns0 pa ca al key w hn hnc hcn ha hac hca hk hT hF
  | some a => exact alive_some pn cn ns0 pa ca al key w hn hnc hcn ha hac hca hk hT a hF

theorem lifted (os : Os) (started : os.Started) (H : Type) (enc : TypeId × Value → H) :
    ReturnsInHanded {} Tryd.checked os 3 .any (fun w args => (Rows.ringAliveSpec.pre enc Tryd.prog Tryd.f3 [] false w args ∧ laidMetH Tryd.prog tabLaid w) ∧ sizedMet enc Tryd.prog Tryd.f3 (OpenSpec.ofChange Rows.ringAliveSpec) false w args)
      (Rows.ringAliveSpec.post enc Tryd.prog Tryd.f3 false true false false) := by
  refine returnsInHanded_of_change_and (C := Tryd.checked) (X := fun w _ => laidMetH Tryd.prog tabLaid w) (fun _ _ _ hh h => h.of_heap hh) own_ started (by kernel_rfl) Tryd.func3
    (ChangeSpec.witness_shaped (enc := enc) (C := Tryd.checked) (os := os) (X := fun w _ => laidMetH Tryd.prog tabLaid w) false (World.doorLaid Tryd.prog 400 os) #[.slice none 0 0, .slice none 0 0, .string ByteArray.empty] 8 rfl (World.shaped_of_RefB (by kernel_rfl) (by kernel_rfl)) (by kernel_rfl) (by kernel_rfl) (by kernel_rfl) (door_met_ os _)) ?_
  intro W base args ds gs before hval0 hW _ hsz hL _
  have hval : ∀ (j : Nat) t v, Tryd.f3.params[j]? = some t → args[j]? = some v → Value.okWide Tryd.prog W .any base t v := hval0
  have hW' := hW
  obtain ⟨p, q, hA0, hV, rfl, hfz, hnd⟩ := hW
  have hA : DataW.TrodAll enc Tryd.prog W 0 (fun _ => true) true Tryd.f3.params.toList args.toList ds p := hA0
  rw [Tryd.params3] at hA hval
  obtain ⟨v0, v1, v2, d0, d1, d2, p0, p1, p2, rfl, rfl, rfl, h0, h1, h2⟩ := trodAll_three hA
  obtain ⟨rfl, rfl⟩ := trodVars_none hV
  obtain ⟨pn, cn, ns0, rfl, hn, hnc, hcn⟩ := ints_arg h0 (hval 0 22 v0 rfl rfl)
  obtain ⟨pa, ca, al, rfl, ha, hac, hca⟩ := ints_arg h1 (hval 1 22 v1 rfl rfl)
  obtain ⟨a0, rfl, rfl, rfl, w0⟩ := open_string uStr' (hval 2 9 v2 rfl rfl) h2
  have hz : a0.size ≤ 281474976710656 := by
    have h := sized_string hsz (j := 2) (by rw [Tryd.params3]; rfl) rfl
    have e : a0.data.toList.length = a0.size := Array.length_toList
    rw [e] at h
    exact sizeOfReach h
  clear hA0 hval0
  refine (walk pn cn ns0 pa ca al a0 W hn hnc hcn ha hac hca hz (of_laid hL)).mono fun e W' ⟨he, hb⟩ => ?_
  subst he
  exact ⟨_, rfl, post_law (tb := 4) (by kernel_rfl) (by kernel_rfl) rfl hW' rfl rfl rfl (by kernel_rfl) uBool' hb⟩

theorem row_holds : Rows.RingAliveSaid :=
  OpenClaim.holds_of_wide 3 Tryd.f3 rfl rfl rfl rfl rfl rfl rfl ⟨rfl, rfl, rfl, rfl, rfl⟩ rfl rfl rfl rfl rfl (by kernel_rfl) Tryd.func3 (by kernel_rfl)
    (of_decide_eq_true (by kernel_rfl)) (by unfold Func.isWrapper; first | (rw [if_pos (by decide +kernel)]; kernel_rfl) | (rw [if_neg (by decide +kernel)]; exact ⟨rfl, rfl⟩))
    (fun os started H enc _ => lifted os started H enc)

/-- THE STATEMENT. -/
theorem card_holds : Rows.RingAliveCardSaid :=
  Claim7.holds_tied_plain_at .later [] [.data] true (true, "55220b80acd2514912badb11731b603fe857e40d10c66d515b3b1ebe310bd7e0") false
    row_holds (fun _ h => by cases h) (by kernel_rfl) (fun _ h => by cases h) ringAlive_row_tie rfl ⟨rfl, rfl⟩ (by kernel_rfl) rfl
    (fun f fn hf hfn => by
      obtain rfl : f = 3 := Option.some.inj ((show Tryd.prog.funcNamed "fingerpost/fingerpostlaw14.RingAlive" = some 3 by kernel_rfl).symm.trans hf) |>.symm
      obtain rfl : fn = Tryd.f3 := (Option.some.inj (Tryd.func3.symm.trans hfn)).symm
      exact ⟨by kernel_rfl, fun j t ht => by
        have hm : t ∈ Tryd.f3.params.toList := by
          have := Array.mem_of_getElem? ht
          exact Array.mem_def.1 this
        have hall : (Tryd.f3.params.toList.all fun u => !Tryd.prog.wantsStandIn u) = true := by kernel_rfl
        exact (show Tryd.prog.wantsStandIn t = false by simpa using List.all_eq_true.1 hall t hm)⟩)
    (by kernel_rfl)
#print axioms card_holds
end Go.Proofs.YtphhafaoccfdpaaDoor.ringAlive
