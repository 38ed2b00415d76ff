/- The law RingPlays of the chapter on rings holds: for all nodes, every question and every list of those alive, points, keys and owners are as the document's reference says.
   Conditions: none but those of the given row (the listed table of the package sha reads as its initialiser lays it; the card ties that). -/
import Derived.Test.YtphhafaoccfdpaaDoorPlay2
import Derived.Test.YtphhafaoccfdpaaDoorRow1
import Derived.Test.YtphhafaoccfdpaaDoorCards
import Derived.Test.YtphhafaoccfdpaaDoorTie
import Derived.SevenTiedAt
import Derived.Lib.SmallJoins
namespace Go.Proofs.YtphhafaoccfdpaaDoor.ringPlays
open Go.Joins Go.ChangeShapes Go.WideShapes Go.ChangeAt Go.WideMaps Go.WideElems Go.RowKit
open Go.ChangeMaps (open_string shut_string)
set_option maxRecDepth 100000

theorem uU16' : Tryd.prog.underlying 42 = some (.int .u16) := by kernel_rfl
theorem u16_nat {n : Int} (h : (Lit.int .u16 n).wf = true) : ∃ k : Nat, n = (k : Int) ∧ k < 65536 := by
  have h' : 0 ≤ n ∧ n ≤ 65535 := by
    simp [Lit.wf, IntKind.min, IntKind.max, IntKind.bits, IntKind.signed] at h
    omega
  exact ⟨n.toNat, by omega, by omega⟩
theorem lifted (os : Os) (started : os.Started) (H : Type) (enc : TypeId × Value → H) :
    ReturnsInHanded {} Tryd.checked os 5 .any (fun w args => (Rows.ringPlaysSpec.pre enc Tryd.prog Tryd.f5 [] false w args ∧ laidMetH Tryd.prog tabLaid w) ∧ sizedMet enc Tryd.prog Tryd.f5 (OpenSpec.ofChange Rows.ringPlaysSpec) false w args)
      (Rows.ringPlaysSpec.post enc Tryd.prog Tryd.f5 false true false false) := by
  refine returnsInHanded_of_change_and (C := Tryd.checked) (X := fun w _ => laidMetH Tryd.prog tabLaid w) (fun _ _ _ hh h => h.of_heap hh) own_ started (by kernel_rfl) Tryd.func5
    (ChangeSpec.witness_shaped (enc := enc) (C := Tryd.checked) (os := os) (X := fun w _ => laidMetH Tryd.prog tabLaid w) false (World.doorLaid Tryd.prog 400 os) #[.slice none 0 0, .agg #[.string ByteArray.empty, .int .u16 0, .int .u16 0], .agg #[.int .i64 0, .slice none 0 0]] 8 rfl (World.shaped_of_RefB (by kernel_rfl) (by kernel_rfl)) (by kernel_rfl) (by kernel_rfl) (by kernel_rfl) (door_met_ os _)) ?_
  intro W base args ds gs before hval0 hW _ hsz hL _
  have hval : ∀ (j : Nat) t v, Tryd.f5.params[j]? = some t → args[j]? = some v → Value.okWide Tryd.prog W .any base t v := hval0
  have hW' := hW
  obtain ⟨p, q, hA0, hV, rfl, hfz, hnd⟩ := hW
  have hA : DataW.TrodAll enc Tryd.prog W 0 (fun _ => true) true Tryd.f5.params.toList args.toList ds p := hA0
  rw [Tryd.params5] at hA hval
  obtain ⟨v0, v1, v2, d0, d1, d2, p0, p1, p2, rfl, rfl, rfl, h0, h1, h2⟩ := trodAll_three hA
  obtain ⟨rfl, rfl⟩ := trodVars_none hV
  obtain ⟨pn, cn, ns0, rfl, hn, hnc, hcn⟩ := ints_arg h0 (hval 0 22 v0 rfl rfl)
  obtain ⟨q0, q1, q2, y0, y1, y2, m1, rfl, rfl, rfl, hy0, hy1, hy2⟩ := open_agg3 Tryd.underlying44 (by kernel_rfl) (by kernel_rfl) (hval 1 44 v1 rfl rfl) h1
  obtain ⟨nm, e0, rfl, wn⟩ := DataW.trod_string uStr' hy0
  obtain ⟨tt, e1, rfl, wt⟩ := DataW.trod_int uU16' hy1
  obtain ⟨cc, e2, rfl, wc⟩ := DataW.trod_int uU16' hy2
  obtain ⟨k0, k1, z0, z1, m2, rfl, rfl, rfl, hz0, hz1⟩ := open_agg2 Tryd.underlying46 (by kernel_rfl) (by kernel_rfl) (hval 2 46 v2 rfl rfl) h2
  obtain ⟨most, e3, rfl, _⟩ := DataW.trod_int uInt' hz0
  simp only [List.cons.injEq, and_true] at e0 e1 e2 e3
  subst e0 e1 e2 e3
  obtain ⟨pl, len, cl, rfl⟩ : ∃ a n c, k1 = .slice a n c := by
    rcases open_ints uInts' uInt' cInt' hz1 with ⟨hcs, _⟩ | ⟨a, len', cap', zs, hcs, _⟩
    · exact ⟨none, 0, 0, by simpa using hcs⟩
    · exact ⟨_, _, _, by simpa using hcs⟩
  obtain ⟨al, rfl, ha, hac, hca⟩ := ints_cells (d := z1.1) (p := z1.2) rfl hz1
  obtain ⟨tN, rfl, htN⟩ := u16_nat wt
  obtain ⟨cN, rfl, hcN⟩ := u16_nat wc
  clear hA0 hval0
  refine (plays_start pn cn ns0 nm tN cN most pl cl al W hn hnc hcn ha hac hca htN hcN (by unfold maxLen at wn; omega) (of_laid hL)).mono fun e W' ⟨he, hb⟩ => ?_
  subst he
  exact ⟨_, rfl, post_law (tb := 4) (by kernel_rfl) (by kernel_rfl) rfl hW' rfl rfl rfl (by kernel_rfl) uBool' hb⟩

theorem row_holds : Rows.RingPlaysSaid :=
  OpenClaim.holds_of_wide 5 Tryd.f5 rfl rfl rfl rfl rfl rfl rfl ⟨rfl, rfl, rfl, rfl, rfl⟩ rfl rfl rfl rfl rfl (by kernel_rfl) Tryd.func5 (by kernel_rfl)
    (of_decide_eq_true (by kernel_rfl)) (by unfold Func.isWrapper; first | (rw [if_pos (by decide +kernel)]; kernel_rfl) | (rw [if_neg (by decide +kernel)]; exact ⟨rfl, rfl⟩))
    (fun os started H enc _ => lifted os started H enc)

/-- THE STATEMENT. -/
theorem card_holds : Rows.RingPlaysCardSaid :=
  Claim7.holds_tied_plain_at .later [] [.data] true (true, "55220b80acd2514912badb11731b603fe857e40d10c66d515b3b1ebe310bd7e0") false
    row_holds (fun _ h => by cases h) (by kernel_rfl) (fun _ h => by cases h) ringPlays_row_tie rfl ⟨rfl, rfl⟩ (by kernel_rfl) rfl
    (fun f fn hf hfn => by
      obtain rfl : f = 5 := Option.some.inj ((show Tryd.prog.funcNamed "fingerpost/fingerpostlaw14.RingPlays" = some 5 by kernel_rfl).symm.trans hf) |>.symm
      obtain rfl : fn = Tryd.f5 := (Option.some.inj (Tryd.func5.symm.trans hfn)).symm
      exact ⟨by kernel_rfl, fun j t ht => by
        have hm : t ∈ Tryd.f5.params.toList := by
          have := Array.mem_of_getElem? ht
          exact Array.mem_def.1 this
        have hall : (Tryd.f5.params.toList.all fun u => !Tryd.prog.wantsStandIn u) = true := by kernel_rfl
        exact (show Tryd.prog.wantsStandIn t = false by simpa using List.all_eq_true.1 hall t hm)⟩)
    (by kernel_rfl)
#print axioms card_holds
end Go.Proofs.YtphhafaoccfdpaaDoor.ringPlays
