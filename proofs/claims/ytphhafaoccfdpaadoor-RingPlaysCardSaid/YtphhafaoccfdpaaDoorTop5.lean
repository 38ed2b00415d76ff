/- Walk: RingAlive. -/
import Derived.Test.YtphhafaoccfdpaaDoorTop2
import Derived.Test.YtphhafaoccfdpaaDoorTop3
namespace Go.Proofs.YtphhafaoccfdpaaDoor
open Go.RowKit Go.Shelf Go.Lib
open Go.Proofs
set_option maxHeartbeats 1600000
set_option maxRecDepth 100000

theorem iv_eq (l : List Nat) : iv l = ivI (l.map fun (n : Nat) => (n : Int)) := by simp [iv, ivI, List.map_map, Function.comp_def]
theorem slInts_own {w : World} {B : Nat} {e : TypeId} {v : Value} {zs : List Int} (h : w.ownsRow B e 1 v zs.length (ivI zs)) : SlInts w v zs := by
  obtain ⟨p, c, rfl⟩ := ownsRow_slice h
  refine ⟨p, c, rfl, fun i hi => ?_⟩
  obtain ⟨g, rfl⟩ := ownsRow_some h (by omega)
  exact ⟨g, 0, rfl, by rw [Nat.zero_add]; exact ownInt h hi⟩
theorem iv_own {w : World} {B : Nat} {e : TypeId} {v : Value} {l : List Nat} (h : w.ownsRow B e 1 v l.length (iv l)) : w.ownsRow B e 1 v (l.map fun (n : Nat) => (n : Int)).length (ivI (l.map fun (n : Nat) => (n : Int))) := by
  rw [← iv_eq, List.length_map]; exact h
theorem slInts_at {w : World} {p : Option Addr} {n c : Nat} {zs : List Int} (h : SlInts w (.slice p n c) zs) (i : Nat) (hi : i < zs.length) : ∃ b o, p = some ⟨b, o, none⟩ ∧ w.cell? ⟨b, o + i, none⟩ = some (.int .i64 (zs.getD i 0)) := by
  obtain ⟨pa, c', e, h⟩ := h
  cases e
  exact h i hi
theorem firstOf_some_mem {l : List Nat} {zs : List Int} {a : Nat} (h : Rg.firstOf l zs = some a) : (a : Int) ∈ zs := by
  have := List.find?_some h
  simpa using this
theorem firstOf_some_ne {l : List Nat} {zs : List Int} {a : Nat} (h : Rg.firstOf l zs = some a) : l ≠ [] := by
  intro e; subst e; simp [Rg.firstOf] at h
theorem nextOf_head (l : List Nat) (m : Int) (hm : 0 < m) (h : l ≠ []) : ∃ y, (Rg.nextOf l m).head? = some y ∧ Rg.firstOf l ((Rg.nextOf l m).map fun (n : Nat) => (n : Int)) = some y := by
  cases l with
  | nil => exact absurd rfl h
  | cons y t =>
    obtain ⟨k, hk⟩ : ∃ k, m.toNat = k + 1 := ⟨m.toNat - 1, by omega⟩
    refine ⟨y, ?_, ?_⟩
    · simp [Rg.nextOf, hk]
    · simp [Rg.nextOf, Rg.firstOf, hk]
theorem firstOf_tail {l : List Nat} {zs : List Int} {a : Nat} (h : Rg.firstOf l zs = some a) : ((a : Nat) : Int) = zs.getD 0 0 ∨ Rg.firstOf l zs.tail = some a := by
  cases zs with
  | nil => exact absurd (firstOf_some_mem h) (by simp)
  | cons z t =>
    by_cases e : (a : Int) = z
    · left; simpa using e
    · right
      unfold Rg.firstOf at h ⊢
      rw [List.find?_eq_some_iff_append] at h ⊢
      obtain ⟨h1, l1, l2, rfl, h2⟩ := h
      refine ⟨?_, l1, l2, rfl, fun y hy => ?_⟩
      · simp [e] at h1; exact decide_eq_true h1
      · have := h2 y hy; simp at this; show (!decide ((y : Int) ∈ t)) = true; rw [decide_eq_false this.2]; rfl
theorem slInts_take12 {w : World} {p : Option Addr} {c : Nat} {zs : List Int} (h : SlInts w (.slice p zs.length c) zs) : SlInts w (.slice p (zs.take 12).length c) (zs.take 12) := by
  have h' := h.take (min 12 zs.length) (by omega)
  rw [List.length_take]
  rwa [show zs.take (min 12 zs.length) = zs.take 12 by rw [List.take_eq_take_iff]; omega] at h'
theorem nextOf_sub {l : List Nat} {m : Int} : ∀ x ∈ Rg.nextOf l m, x ∈ l := fun _ h => List.mem_of_mem_take h
theorem firstOf_none_out {l : List Nat} {zs : List Int} (h : Rg.firstOf l zs = none) : ∀ y ∈ l, ((y : Nat) : Int) ∉ zs := by
  intro y hy
  have := List.find?_eq_none.1 h y hy
  simpa using this

theorem alive_none (pn : Option Addr) (cn : Nat) (ns0 : List Int) (pa : Option Addr) (ca : Nat) (al : List Int) (key : ByteArray) (w : World)
    (hn : SlInts w (.slice pn ns0.length cn) ns0) (hnc : ns0.length ≤ cn) (hcn : cn ≤ 9223372036854775807)
    (ha : SlInts w (.slice pa al.length ca) al) (hac : al.length ≤ ca) (hca : ca ≤ 9223372036854775807) (hk : key.size ≤ 281474976710656) (hT : TableOk w)
    (hF : Rg.firstOf (ringL (goodNodes (ns0.take 12)) (shortS key 100)) (al.take 12) = none) :
    Calls Tryd.prog 3 #[.slice pn ns0.length cn, .slice pa al.length ca, .string key] w fun e w' => e = .returned (.bool true) ∧ Below w.heap.size w w' := by
  obtain ⟨zs, hzs⟩ : ∃ zs, zs = al.take 12 := ⟨_, rfl⟩
  obtain ⟨ms, hms⟩ : ∃ ms, ms = ns0.take 12 := ⟨_, rfl⟩
  have hml : ms.length ≤ 12 := by rw [hms, List.length_take]; omega
  have hnm : Hid (SlInts w (.slice pn ms.length cn) ms) := by rw [hms]; exact slInts_take12 hn
  rw [← hms] at hF
  replace hms := Lib.hid hms
  have hzl : zs.length ≤ 12 := by rw [hzs, List.length_take]; omega
  have haz : Hid (SlInts w (.slice pa zs.length ca) zs) := by rw [hzs]; exact slInts_take12 ha
  rw [← hzs] at hF
  obtain ⟨ks, hks⟩ : ∃ ks, ks = shortS key 100 := ⟨_, rfl⟩
  have hksz : ks.size ≤ 281474976710656 := by rw [hks]; exact Nat.le_trans (short_size key 100) (by decide)
  rw [← hks] at hF
  have hno := Lib.hid (firstOf_none_out hF)
  replace hn := Lib.hid hn
  replace ha := Lib.hid ha
  replace hT := Lib.hid hT
  replace hzs := Lib.hid hzs
  replace hks := Lib.hid hks
  obtain ⟨ns, hns⟩ : ∃ ns, ns = goodNodes ms := ⟨_, rfl⟩
  rw [← hns] at hF hno
  obtain ⟨M, hM⟩ : ∃ M, M = Rg.nextOf (ringL ns ks) 64 := ⟨_, rfl⟩
  replace hns := Lib.hid hns
  replace hM := Lib.hid hM
  replace hF := Lib.hid hF
  have hMl : M.length ≤ 64 := by rw [hM.out]; unfold Rg.nextOf; rw [List.length_take]; have : (64 : Int).toNat = 64 := rfl; omega
  have hMno : Hid (∀ x ∈ M, (x : Int) ∉ zs) := by rw [hM.out]; exact fun x hx => hno.out x (nextOf_sub x hx)
  have hx : zs.length ≤ 0 ∨ 0 < zs.length := by omega
  rcases hx with hz0 | hz0
  all_goals
    first | (have hz1 : ((zs.length : Int) == 0) = false := beq_eq_false_iff_ne.2 (by omega)) | (have hz1 : ((zs.length : Int) == 0) = true := beq_iff_eq.2 (by omega))
    go_enter Tryd.func3, Tryd.ntmps3
    go_upto_region 2 with ((go_at_call 6; refine (awake_any w hT.out).mono ?_; rintro e w1 ⟨rfl, h2⟩; have hB1 := Lib.hid h2; clear h2))
    go_upto_region 3 with ((go_at_call 7; refine (few_any pn cn ns0 w1 (hn.out.below hB1.out (Nat.le_refl _)) hnc hcn).mono ?_; rintro e w1' ⟨h1, rfl⟩; rw [← hms.out] at h1; subst h1))
    go_upto_region 4 with ((go_at_call 7; refine (few_any pa ca al w1 (ha.out.below hB1.out (Nat.le_refl _)) hac hca).mono ?_; rintro e w1' ⟨h1, rfl⟩; rw [← hzs.out] at h1; subst h1))
    go_upto_region 5 with ((go_at_call 8; refine (short_any key 100 w1).mono ?_; rintro e w1' ⟨h1, rfl⟩; rw [← hks.out] at h1; subst h1))
    go_upto_region 6 with ((go_at_call 9; refine (New_any _ ms w1 (by omega) (hnm.out.below hB1.out (Nat.le_refl _)) (hT.out.below hB1.out (Nat.le_refl _))).mono ?_; rintro e w2 ⟨r, rfl, h1, h2⟩; have hB2 := Lib.hid (hB1.out.trans (h1.mono hB1.out.size)); have hr : Hid (RSt w2 r ns) := (by rw [hns.out]; exact ⟨_, h2⟩); clear h1 h2))
    go_upto_region 7 with ((go_at_call 10; refine (Next_st r ns ks 64 w2 hr.out hksz (hT.out.below hB2.out (Nat.le_refl _))).mono ?_; rintro e w3 ⟨v3, rfl, h1, h2⟩; rw [← hM.out] at h1; obtain ⟨p3, c3, rfl⟩ := ownsRow_slice h1; have hB3 := Lib.hid (hB2.out.trans (h2.mono hB2.out.size)); have hr3 := Lib.hid (hr.out.below h2); have ho3 := Lib.hid h1; clear h1 h2))
    go_upto_region 8 with ((go_at_call 11; refine (First_st r ns ks _ _ (by first | exact Nat.zero_le _ | omega) w3 hr3.out hksz (hT.out.below hB3.out (Nat.le_refl _)) (haz.out.below hB3.out (Nat.le_refl _))).mono ?_; rintro e w4 ⟨h1, h2⟩; rw [hF.out] at h1; simp only [firstV] at h1; subst h1; have hB4 := Lib.hid (hB3.out.trans (h2.mono hB3.out.size)); have hB34 := Lib.hid h2; clear h2))
    have ho4 := Lib.hid (slInts_own (iv_own ho3.out))
    have ho4' : Hid (SlInts w4 (.slice p3 M.length c3) (M.map fun (n : Nat) => (n : Int))) := ho4.out.below hB34.out (Nat.le_refl _)
    clear ho4 ho3 hr3
    have hz4 := Lib.hid (haz.out.below hB4.out (Nat.le_refl _))
    go_wp2
    go_loopw [12, 13] (fun i _ wr => ∃ k : Nat, k ≤ M.length ∧ i = .int .i64 k ∧ Hid (Below w4.heap.size w4 wr)) (fun i _ _ => M.length - (intOf i).toNat)
    case atStart => exact ⟨0, by omega, rfl, Below.refl _ _⟩
    case round =>
      obtain ⟨k, hkk, rfl, hJ⟩ := hrel
      obtain ⟨wo, rfl⟩ : ∃ wo : World, wo = wr := ⟨_, rfl⟩
      by_cases hlt : k < M.length
      · go_wp2
        go_loopw [13] (fun j wr => ∃ q : Nat, q ≤ zs.length ∧ j = .int .i64 q ∧ Hid (Below w4.heap.size w4 wr)) (fun j _ => zs.length - (intOf j).toNat)
        case atStart => exact ⟨0, by omega, rfl, hJ⟩
        case round =>
          clear hJ
          obtain ⟨q, hq, rfl, hJ⟩ := hrel
          by_cases hlq : q < zs.length
          · obtain ⟨b1, o1, rfl, c1⟩ := slInts_at (hz4.out.below hJ.out (Nat.le_refl _)) q hlq
            obtain ⟨b2, o2, rfl, c2⟩ := slInts_at (ho4'.out.below hJ.out (Nat.le_refl _)) k (by simpa using hlt)
            have hne : Hid (zs.getD q 0 ≠ (M.map fun (n : Nat) => (n : Int)).getD k 0) := by
              intro e
              refine hMno.out (M.getD k 0) (gD_mem hlt) ?_
              have : (M.map fun (n : Nat) => (n : Int)).getD k 0 = ((M.getD k 0 : Nat) : Int) := by simp [List.getD_eq_getElem?_getD, hlt]
              rw [← this, ← e]; exact gD_mem hlq
            generalize zs.getD q 0 = x1 at *
            generalize (M.map fun (n : Nat) => (n : Int)).getD k 0 = x2 at *
            have hb : (x1 == x2) = false := by simpa using hne.out
            have q0 : 0 ≤ (q : Int) := by omega
            have q1 : (q : Int) < (zs.length : Int) := by omega
            have k0 : 0 ≤ (k : Int) := by omega
            have k1 : (k : Int) < (M.length : Int) := by omega
            go_wp2
            go_quiet (fail)
            go_wp2
            go_roundw
            case rel => exact ⟨q + 1, by omega, by go_num, belowDrewN hJ.out _⟩
            case measure => simp [intOf]; omega
          · go_wp2
            go_roundw
            case rel => exact ⟨k + 1, by omega, by go_num, hJ⟩
            case measure => simp [intOf]; omega
      · go_wp2
        go_ret
        exact ⟨rfl, hB4.out.trans (hJ.out.mono hB4.out.size)⟩

end Go.Proofs.YtphhafaoccfdpaaDoor
