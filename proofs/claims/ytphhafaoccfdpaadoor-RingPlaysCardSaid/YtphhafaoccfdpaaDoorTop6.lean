/- Walk: RingAlive, where one is found. -/
import Derived.Test.YtphhafaoccfdpaaDoorTop5
import Derived.Deep.DeepFit
import Derived.Deep.DeepMust
namespace Go.Proofs.YtphhafaoccfdpaaDoor
open Go.RowKit Go.Shelf Go.Lib
open Go.Proofs
set_option maxHeartbeats 1600000
set_option maxRecDepth 100000

theorem alive_some (pn : Option Addr) (cn : Nat) (ns0 : List Int) (pa : Option Addr) (ca : Nat) (al : List Int) (key : ByteArray) (w : World)
    (hn : SlInts w (.slice pn ns0.length cn) ns0) (hnc : ns0.length ≤ cn) (hcn : cn ≤ 9223372036854775807)
    (ha : SlInts w (.slice pa al.length ca) al) (hac : al.length ≤ ca) (hca : ca ≤ 9223372036854775807) (hk : key.size ≤ 281474976710656) (hT : TableOk w) (a : Nat)
    (hF : Rg.firstOf (ringL (goodNodes (ns0.take 12)) (shortS key 100)) (al.take 12) = some a) :
    Calls Tryd.prog 3 #[.slice pn ns0.length cn, .slice pa al.length ca, .string key] w fun e w' => e = .returned (.bool true) ∧ Below w.heap.size w w' := by
  obtain ⟨zs, hzs⟩ : ∃ zs, zs = al.take 12 := ⟨_, rfl⟩
  obtain ⟨ms, hms⟩ : ∃ ms, ms = ns0.take 12 := ⟨_, rfl⟩
  have hml : ms.length ≤ 12 := by rw [hms, List.length_take]; omega
  have hnm : Hid (SlInts w (.slice pn ms.length cn) ms) := by rw [hms]; exact slInts_take12 hn
  rw [← hms] at hF
  replace hms := Lib.hid hms
  have hzl : zs.length ≤ 12 := by rw [hzs, List.length_take]; omega
  have haz : Hid (SlInts w (.slice pa zs.length ca) zs) := by rw [hzs]; exact slInts_take12 ha
  have hzc : zs.length ≤ ca := by rw [hzs, List.length_take]; omega
  rw [← hzs] at hF
  obtain ⟨ks, hks⟩ : ∃ ks, ks = shortS key 100 := ⟨_, rfl⟩
  have hksz : ks.size ≤ 281474976710656 := by rw [hks]; exact Nat.le_trans (short_size key 100) (by decide)
  rw [← hks] at hF
  replace hn := Lib.hid hn
  replace ha := Lib.hid ha
  replace hT := Lib.hid hT
  replace hzs := Lib.hid hzs
  replace hks := Lib.hid hks
  obtain ⟨ns, hns⟩ : ∃ ns, ns = goodNodes ms := ⟨_, rfl⟩
  rw [← hns] at hF
  obtain ⟨M, hM⟩ : ∃ M, M = Rg.nextOf (ringL ns ks) 64 := ⟨_, rfl⟩
  replace hns := Lib.hid hns
  replace hM := Lib.hid hM
  have haz' : (a : Int) ∈ zs := firstOf_some_mem hF
  have hMne := nextOf_head (ringL ns ks) 64 (by omega) (firstOf_some_ne hF)
  rw [← hM.out] at hMne
  obtain ⟨y, hMy, hMF⟩ := hMne
  have hMl : 0 < M.length := by cases M with | nil => simp at hMy | cons _ _ => simp
  have hz0 : 0 < zs.length := List.length_pos_of_mem haz'
  -- the tail
  have htail : Hid (a = zs.getD 0 0 ∨ Rg.firstOf (ringL ns ks) zs.tail = some a) := firstOf_tail hF
  replace hF := Lib.hid hF
  replace hMF := Lib.hid hMF
  replace hMy := Lib.hid hMy
  obtain ⟨tl, htl⟩ : ∃ tl, tl = zs.tail := ⟨_, rfl⟩
  have htll : Hid (zs.length = tl.length + 1) := by show _ = _; rw [htl, List.length_tail]; omega
  have htl1 : tl.length + 1 ≤ zs.length := by have := htll.out; omega
  have htl2 : zs.length ≤ tl.length + 1 := by have := htll.out; omega
  rw [← htl] at htail
  replace htl := Lib.hid htl
  have hMl64 : M.length ≤ 64 := by rw [hM.out]; unfold Rg.nextOf; rw [List.length_take]; have : (64 : Int).toNat = 64 := rfl; omega
  have hz1 : ((zs.length : Int) == 0) = false := by simpa using (by omega : zs.length ≠ 0)
  have hx2 : ∃ r, Rg.firstOf (ringL ns ks) tl = r := ⟨_, rfl⟩
  obtain ⟨r2, hr2⟩ := hx2
  have htail' : Hid (((a : Nat) : Int) = zs.getD 0 0 ∨ r2 = some a) := by rw [← hr2]; exact htail.out
  clear htail
  replace hr2 := Lib.hid hr2
  obtain ⟨b0, o0, hpa, _⟩ := slInts_at haz.out 0 hz0
  subst hpa
  obtain ⟨z0, hz0e⟩ : ∃ z0, z0 = zs.getD 0 0 := ⟨_, rfl⟩
  have hcz : Hid (∀ w', SlInts w' (.slice (some ⟨b0, o0, none⟩) zs.length ca) zs → w'.cell? ⟨b0, o0, none⟩ = some (.int .i64 z0)) := by
    intro w' h
    obtain ⟨b, o, e, hc⟩ := slInts_at h 0 hz0
    cases e
    rw [hz0e]; simpa using hc
  rw [← hz0e] at htail'
  have hsub : (∃ b, r2 = some b ∧ (a : Int) = (b : Int) ∧ ((a : Int) == z0) = false ∧ ((a : Int) == (b : Int)) = true) ∨ (((a : Int) == z0) = true) := by
    by_cases e : (a : Int) = z0
    · exact .inr (by simpa using e)
    · rcases htail'.out with h | h
      · exact absurd h e
      · exact .inl ⟨a, h, rfl, by simpa using e, by simp⟩
  have hyM : Hid (y = M.getD 0 0) := by
    show _ = _
    have := hMy.out
    cases M with
    | nil => simp at this
    | cons m t => simp at this; simp [this]
  have htaS : Hid (∀ w' c', ca ≠ 1 → SlInts w' (.slice (some ⟨b0, o0, none⟩) zs.length ca) zs → SlInts w' (.slice (some ⟨b0, o0 + 1, none⟩) (zs.length - 1) c') tl) := by
    intro w' c' _ h
    refine ⟨_, c', by rw [show zs.length - 1 = tl.length by have := htll.out; omega], fun i hi => ⟨b0, o0 + 1, rfl, ?_⟩⟩
    obtain ⟨b, o, e, hc⟩ := slInts_at h (i + 1) (by have := htll.out; omega)
    cases e
    rw [show o0 + 1 + i = o0 + (i + 1) by omega, hc, htl.out]
    simp [List.getD_eq_getElem?_getD]
  have htaE : Hid (∀ w' p' c', ca = 1 → SlInts w' (.slice p' 0 c') tl) := by
    intro w' p' c' h
    have : tl = [] := List.length_eq_zero_iff.1 (by have := htll.out; omega)
    subst this
    exact SlInts.nil _ _ _
  clear hz0e htail'
  have hcc : ca = 1 ∨ ca ≠ 1 := by omega
  have hsub2 : (∃ b, r2 = some b) ∨ r2 = none := by cases r2 with | none => exact .inr rfl | some b => exact .inl ⟨b, rfl⟩
  have hone : (1 : Int) ≤ (zs.length : Int) := by omega
  rcases hcc with rfl | hc1
  all_goals
    rcases hsub with ⟨b, rfl, hab, he1, he2⟩ | he1
    all_goals
      try (rcases hsub2 with ⟨b, rfl⟩ | rfl)
      all_goals
        try (replace hab := Lib.hid hab)
        try (clear hsub2)
        go_enter Tryd.func3, Tryd.ntmps3
        go_upto_region 2 with ((go_at_call 6; refine (awake_any w hT.out).mono ?_; rintro e w1 ⟨rfl, h2⟩; have hB1 := Lib.hid h2; clear h2))
        go_upto_region 3 with ((go_at_call 7; go_must (refine (few_any pn cn ns0 w1 (hn.out.below hB1.out (Nat.le_refl _)) hnc hcn).mono ?_; rintro e w1' ⟨h1, rfl⟩; rw [← hms.out] at h1; subst h1)))
        go_upto_region 4 with ((go_at_call 7; refine (few_any _ _ al w1 (ha.out.below hB1.out (Nat.le_refl _)) hac hca).mono ?_; rintro e w1' ⟨h1, rfl⟩; rw [← hzs.out] at h1; subst h1))
        go_upto_region 5 with ((go_at_call 8; refine (short_any key 100 w1).mono ?_; rintro e w1' ⟨h1, rfl⟩; rw [← hks.out] at h1; subst h1))
        go_upto_region 6 with ((go_at_call 9; refine (New_any _ ms w1 (by omega) (hnm.out.below hB1.out (Nat.le_refl _)) (hT.out.below hB1.out (Nat.le_refl _))).mono ?_; rintro e w2 ⟨r, rfl, h1, h2⟩; have hB2 := Lib.hid (hB1.out.trans (h1.mono hB1.out.size)); have hr : Hid (RSt w2 r ns) := (by rw [hns.out]; exact ⟨_, h2⟩); clear h1 h2))
        go_upto_region 7 with ((go_at_call 10; refine (Next_st r ns ks 64 w2 hr.out hksz (hT.out.below hB2.out (Nat.le_refl _))).mono ?_; rintro e w3 ⟨v3, rfl, h1, h2⟩; rw [← hM.out] at h1; obtain ⟨p3, c3, rfl⟩ := ownsRow_slice h1; have hB3 := Lib.hid (hB2.out.trans (h2.mono hB2.out.size)); have hr3 := Lib.hid (hr.out.below h2); have ho3 := Lib.hid (slInts_own (iv_own h1)); clear h1 h2))
        go_upto_region 8 with ((go_at_call 11; refine (First_st r ns ks _ zs (by omega) w3 hr3.out hksz (hT.out.below hB3.out (Nat.le_refl _)) (haz.out.below hB3.out (Nat.le_refl _))).mono ?_; rintro e w4 ⟨h1, h2⟩; rw [hF.out] at h1; simp only [firstV] at h1; subst h1; have hB4 := Lib.hid (hB3.out.trans (h2.mono hB3.out.size)); have hr4 := Lib.hid (hr3.out.below h2); have ho4 := Lib.hid (ho3.out.below h2 (Nat.le_refl _)); clear h2))
        go_upto_region 18 with (fail)
        go_upto_region 19 with ((go_at_call 11; go_must (refine (First_st r ns ks _ tl (by omega) w4 hr4.out hksz (hT.out.below hB4.out (Nat.le_refl _)) (by first | exact htaS.out _ _ hc1 (haz.out.below hB4.out (Nat.le_refl _)) | exact htaE.out _ _ _ (by first | rfl | trivial))).mono ?_; rintro e w5 ⟨h1, h2⟩; rw [hr2.out] at h1; simp only [firstV] at h1; subst h1; have hB5 := Lib.hid (hB4.out.trans (h2.mono hB4.out.size)); have hr5 := Lib.hid (hr4.out.below h2); have ho5 := Lib.hid (ho4.out.below h2 (Nat.le_refl _)); clear h2)))
        have c0 := hcz.out w5 (haz.out.below hB5.out (Nat.le_refl _))
        go_upto_region 20 with ((go_at_call 11; refine (First_st r ns ks _ (M.map fun (n : Nat) => (n : Int)) (by rw [List.length_map]; omega) w5 hr5.out hksz (hT.out.below hB5.out (Nat.le_refl _)) ho5.out).mono ?_; rintro e w6 ⟨h1, h2⟩; rw [hMF.out] at h1; simp only [firstV] at h1; subst h1; have hB6 := Lib.hid (hB5.out.trans (h2.mono hB5.out.size)); have ho6 := Lib.hid (ho5.out.below h2 (Nat.le_refl _)); have c6 := (h2.cell (p := ⟨b0, o0, none⟩) (block_lt_of_cell c0)).trans c0; clear h2 c0))
        obtain ⟨b3, o3, rfl, c7⟩ := slInts_at ho6.out 0 (by simpa using hMl)
        have c7' : w6.cell? ⟨b3, o3, none⟩ = some (.int .i64 (y : Int)) := by
          rw [Nat.add_zero] at c7
          rw [c7, hyM.out]
          cases M with
          | nil => simp at hMl
          | cons m t => simp
        clear c7
        have hyy : ((y : Int) == (y : Int)) = true := by simp
        have hMI : (0 : Int) < (M.length : Int) := by omega
        have hzI : (0 : Int) < (zs.length : Int) := by omega
        go_wp2
        go_ret
        exact ⟨rfl, hB6.out⟩
end Go.Proofs.YtphhafaoccfdpaaDoor
