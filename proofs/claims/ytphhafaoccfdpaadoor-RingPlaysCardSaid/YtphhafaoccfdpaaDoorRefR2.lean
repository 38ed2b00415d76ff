/- Walks: the reference's Next. -/
import Derived.Test.YtphhafaoccfdpaaDoorRefR1
import Derived.Test.YtphhafaoccfdpaaDoorRefS5
import Derived.Deep.Cut
namespace Go.Proofs.YtphhafaoccfdpaaDoor
open Go.RowKit Go.Shelf Go.Lib
open Go.Proofs
set_option maxHeartbeats 1600000
set_option maxRecDepth 100000
open Rg (Pt)

theorem lb_first {P : List Pt} {h i : Nat} (hi : i ≤ P.length) (hlo : ∀ k, k < i → (P.getD k Rg.d0).at_ < h) (hhi : i < P.length → h ≤ (P.getD i Rg.d0).at_) : Rg.lb P h = i := by
  unfold Rg.lb
  by_cases he : i < P.length
  · rw [List.findIdx_eq he]
    have h1 := hhi he
    rw [gD he] at h1
    refine ⟨by simpa using h1, fun j hj => ?_⟩
    have h2 := hlo j hj
    rw [gD (by omega)] at h2
    simpa using h2
  · have : i = P.length := by omega
    subst this
    rw [List.findIdx_eq_length]
    intro x hx
    obtain ⟨j, hj, rfl⟩ := List.getElem_of_mem hx
    have h2 := hlo j hj
    rw [gD hj] at h2
    simpa using h2
/-- a slice that reads as points -/
def SlPts (w : World) (v : Value) (P : List Pt) : Prop := ∃ pa c, v = .slice pa P.length c ∧ (P = [] ∨ ∃ g, pa = some ⟨g, 0, none⟩ ∧ PtsAt w g P ∧ g < w.heap.size)
theorem SlPts.below {w w' : World} {v : Value} {P : List Pt} (h : SlPts w v P) (hB : Below w.heap.size w w') : SlPts w' v P := by
  obtain ⟨pa, c, e, h⟩ := h
  refine ⟨pa, c, e, h.imp id ?_⟩
  rintro ⟨g, e2, hp, hg⟩
  exact ⟨g, e2, hp.below hB hg, Nat.lt_of_lt_of_le hg hB.size⟩
theorem iv_snoc (l : List Nat) (x : Nat) : iv (l ++ [x]) = iv l ++ [.int .i64 (x : Int)] := by simp [iv]
theorem ivAt {w : World} {B g c n : Nat} {e : TypeId} {l : List Nat} (h : w.ownsRow B e 1 (.slice (some ⟨g, 0, none⟩) n c) l.length (iv l)) {i : Nat} (hi : i < l.length) : w.cell? ⟨g, i, none⟩ = some (.int .i64 ((l.getD i 0 : Nat) : Int)) := by
  have h' := iv_own h
  have := ownInt h' (i := i) (by simpa using hi)
  rw [this]
  simp [List.getD_eq_getElem?_getD, hi]

theorem nextR_some (g c : Nat) (P : List Pt) (key : ByteArray) (most : Int) (w : World) (hP : P.length ≤ 1000000) (hpt : PtsAt w g P) (hg : g < w.heap.size) (hk : key.size ≤ 281474976710656) :
    Calls Tryd.prog 21 #[.slice (some ⟨g, 0, none⟩) P.length c, .string key, .int .i64 most] w fun e w' =>
      ∃ v', e = .returned v' ∧ w'.ownsRow w.heap.size 3 1 v' (Rg.nextOf (Rg.met P (ptS key)) most).length (iv (Rg.nextOf (Rg.met P (ptS key)) most)) ∧ Below w.heap.size w w' := by
  obtain ⟨i0, hi, hz0, hz1, hz2⟩ := info_parts info_int
  replace hpt := Lib.hid hpt
  go_enter Tryd.func21, Tryd.ntmps21
  go_wp2_with (go_at_call 36; refine (pointR_any key _ hk).mono ?_; rintro e w1 ⟨rfl, h1⟩; have hB1 := Lib.hid h1; clear h1)
  obtain ⟨y, hy⟩ : ∃ y, y = ptS key := ⟨_, rfl⟩
  rw [← hy]
  replace hy := Lib.hid hy
  have hp1 : Hid (PtsAt w1 g P) := hpt.out.below hB1.out hg
  clear hpt
  go_loopw [8] (fun i wr => ∃ k : Nat, k ≤ P.length ∧ i = .int .i64 k ∧ Hid (∀ j, j < k → (P.getD j Rg.d0).at_ < y) ∧ wr = w1) (fun i _ => P.length - (intOf i).toNat)
  case atStart => exact ⟨0, by omega, rfl, fun j hj => by omega, rfl⟩
  case round =>
    obtain ⟨k, hkk, rfl, hlo, rfl⟩ := hrel
    have hstep : Hid (k < P.length → ∃ a, (P.getD k Rg.d0).at_ = a ∧ wr.cell? ⟨g, k * 2, none⟩ = some (.int .u64 (a : Nat))) := fun h => ⟨_, rfl, (hp1.out k h).1⟩
    by_cases hc : k < P.length ∧ (P.getD k Rg.d0).at_ < y
    · obtain ⟨hlt, hlty⟩ := hc
      obtain ⟨a, ha, cc⟩ := hstep.out hlt
      rw [ha] at hlty
      replace ha := Lib.hid ha
      have k0 : (k : Int) < (P.length : Int) := by omega
      go_wp2
      go_roundw
      case rel => exact ⟨k + 1, by omega, by go_num, fun j hj => by
        by_cases e : j = k
        · subst e; rw [ha.out]; exact hlty
        · exact hlo.out j (by omega), by first | rfl | trivial⟩
      case measure => simp [intOf]; omega
    · have hs : Hid (Rg.lb P y = k) := lb_first hkk hlo.out (fun h => by
        rcases Nat.lt_or_ge (P.getD k Rg.d0).at_ y with h' | h'
        · exact absurd ⟨h, h'⟩ hc
        · exact h')
      have hend : Hid (k < P.length → ∃ a, wr.cell? ⟨g, k * 2, none⟩ = some (.int .u64 (a : Nat)) ∧ ¬ a < y) := fun h => by
        obtain ⟨a, ha, cc⟩ := hstep.out h
        exact ⟨a, cc, fun h' => hc ⟨h, by omega⟩⟩
      clear hc hstep hlo
      by_cases hlt : k < P.length
      · obtain ⟨a, cc, hna⟩ := hend.out hlt
        have k0 : (k : Int) < (P.length : Int) := by omega
        have hna' : y ≤ a := by omega
        go_upto_region 5 with (fail)
        clear cc hend
        have e0 : Hid (refNext P k most 0 = []) := refNext_zero _ _ _
        go_wp2
        go_loopw [9, 10, 11, 12, 13] (fun v i _ _ _ wr' => ∃ (q : Nat) (p : Option Addr) (c' : Nat), q ≤ P.length ∧ i = .int .i64 q ∧ v = .slice p (refNext P k most q).length c' ∧ Hid (wr'.ownsRow w.heap.size 3 1 v (refNext P k most q).length (iv (refNext P k most q))) ∧ Hid (Below w.heap.size w wr')) (fun _ i _ _ _ _ => P.length - (intOf i).toNat)
        case atStart => exact ⟨0, none, 0, by omega, rfl, by rw [e0.out]; rfl, by rw [e0.out]; exact World.ownsRow_nil _ _ _ _, hB1⟩
        case round =>
          obtain ⟨q, p, c', hq, rfl, rfl, hO, hB⟩ := hrel
          have hrl := refNext_length P k most q
          by_cases hlq : q < P.length
          · have hmod : (k + q) % P.length < P.length := Nat.mod_lt _ (by omega)
            have hnd : (P.getD ((k + q) % P.length) Rg.d0).node = Rg.nodeAt P k q := rfl
            have p2 := (hp1.out _ hmod).2
            have p2' := ((hB.out.cell (p := ⟨g, (k + q) % P.length * 2 + 1, none⟩) hg).trans (hB1.out.cell (p := ⟨g, (k + q) % P.length * 2 + 1, none⟩) hg).symm).trans p2
            rw [hnd] at p2'
            clear hnd p2
            have hd1 : Hid (Rg.nodeAt P k q ∈ refNext P k most q → refNext P k most (q + 1) = refNext P k most q) := refNext_had
            have hd2 : Hid (most ≤ (refNext P k most q).length → refNext P k most (q + 1) = refNext P k most q) := refNext_full
            have hd3 : Hid (Rg.nodeAt P k q ∉ refNext P k most q → ((refNext P k most q).length : Int) < most → refNext P k most (q + 1) = refNext P k most q ++ [Rg.nodeAt P k q]) := refNext_new
            generalize Rg.nodeAt P k q = x at *
            generalize refNext P k most q = out at *
            have q0 : 0 ≤ ((k : Int) + q) % P.length := Int.emod_nonneg _ (by omega)
            have q1 : ((k : Int) + q) % P.length < P.length := Int.emod_lt_of_pos _ (by omega)
            have q2 : (((k : Int) + q) % P.length).toNat = (k + q) % P.length := by rw [← Int.natCast_add, ← Int.natCast_emod]; exact Int.toNat_natCast _
            go_wp2
            obtain ⟨wo, rfl⟩ : ∃ wo : World, wo = wr := ⟨_, rfl⟩
            go_loopw [12, 13] (fun b j wi => ∃ (u : Nat), u ≤ out.length ∧ j = .int .i64 u ∧ b = .bool (decide (x ∈ out.take u)) ∧ wi = wo) (fun _ j _ => out.length - (intOf j).toNat)
            case atStart => exact ⟨0, by omega, rfl, by simp, rfl⟩
            case round =>
              obtain ⟨u, hu, rfl, rfl, rfl⟩ := hrel
              by_cases hlu : u < out.length
              · obtain ⟨go_, rfl⟩ := ownsRow_some hO.out (by omega)
                have cu := ivAt hO.out hlu
                have htk : Hid (x ∈ out.take (u + 1) ↔ x ∈ out.take u ∨ x = out.getD u 0) := by
                  show _ ↔ _
                  rw [List.take_succ_eq_append_getElem hlu, List.mem_append, gD hlu]; simp
                generalize out.getD u 0 = z at *
                by_cases hin : x ∈ out.take u
                · have hb : decide (x ∈ out.take u) = true := decide_eq_true hin
                  have hb' : Hid (decide (x ∈ out.take (u + 1)) = true) := decide_eq_true (htk.out.2 (.inl hin))
                  clear hin
                  go_wp2
                  go_roundw
                  case rel => exact ⟨u + 1, by omega, by go_num, by rw [hb'.out], by first | rfl | trivial⟩
                  case measure => simp [intOf]; omega
                · have hb : decide (x ∈ out.take u) = false := decide_eq_false hin
                  by_cases hz : x = z
                  · subst hz
                    have hb' : Hid (decide (x ∈ out.take (u + 1)) = true) := decide_eq_true (htk.out.2 (.inr rfl))
                    have he : ((x : Int) == (x : Int)) = true := by simp
                    clear hin
                    go_wp2
                    go_roundw
                    case rel => exact ⟨u + 1, by omega, by go_num, by rw [hb'.out], by first | rfl | trivial⟩
                    case measure => simp [intOf]; omega
                  · have hb' : Hid (decide (x ∈ out.take (u + 1)) = false) := decide_eq_false (fun h => (htk.out.1 h).elim hin hz)
                    have he : ((z : Int) == (x : Int)) = false := by simp; omega
                    clear hin hz
                    go_wp2
                    go_roundw
                    case rel => exact ⟨u + 1, by omega, by go_num, by rw [hb'.out], by first | rfl | trivial⟩
                    case measure => simp [intOf]; omega
              · obtain rfl : u = out.length := by omega
                rw [List.take_length]
                by_cases hin : x ∈ out
                · have hb : decide (x ∈ out) = true := decide_eq_true hin
                  have e1 := Lib.hid (hd1.out hin)
                  clear hin
                  go_wp2
                  go_roundw
                  case rel => exact ⟨q + 1, p, c', by omega, by go_num, by rw [e1.out], by show World.ownsRow _ _ _ _ _ _ _; rw [e1.out]; exact hO.out, hB⟩
                  case measure => simp [intOf]; omega
                · have hb : decide (x ∈ out) = false := decide_eq_false hin
                  by_cases hm : (out.length : Int) < most
                  · have e1 := Lib.hid (hd3.out hin hm)
                    clear hin
                    go_wp2_with (at_builtin; go_must (refine wpList_append_own _ rfl _ _ 22 rfl w.heap.size 3 i0 (.int .i64 0) 1 8 (by kernel_rfl) hi hz0 hz1 hz2 rfl (by decide) (.slice p out.length c') out.length (iv out) rfl (hO.out.alloc _) ⟨wr.heap.size, 0, none⟩ 1 1 [.int .i64 (x : Nat)] rfl rfl (cell_one_new _ _ _) (by simp [Value.oneCell']) (by unfold maxLen; omega) (by omega) (by simp; have := hB.out.size; omega) ?_; intro v' w2 hown1 hgrow _; have hB2 := Lib.hid (hB.out.trans (grownBelow hO.out hgrow hB.out.size)); obtain ⟨p', c2, rfl⟩ := ownsRow_slice hown1; have hown1' := Lib.hid hown1; clear hown1 hgrow))
                    go_roundw
                    case rel => exact ⟨q + 1, p', c2, by omega, by go_num, by rw [e1.out]; simp, by show World.ownsRow _ _ _ _ _ _ _; rw [e1.out, iv_snoc]; simpa using hown1'.out, hB2⟩
                    case measure => simp [intOf]; omega
                  · have e1 := Lib.hid (hd2.out (by omega))
                    clear hin
                    go_wp2
                    go_roundw
                    case rel => exact ⟨q + 1, p, c', by omega, by go_num, by rw [e1.out], by show World.ownsRow _ _ _ _ _ _ _; rw [e1.out]; exact hO.out, hB⟩
                    case measure => simp [intOf]; omega
          · obtain rfl : q = P.length := by omega
            have e9 : Hid (refNext P k most P.length = Rg.nextOf (Rg.met P (ptS key)) most) := by
              show _ = _; rw [← hs.out, hy.out]; rfl
            go_wp2
            go_ret
            rw [← e9.out]
            exact ⟨_, rfl, hO.out, hB.out⟩
      · have k0 : ¬ (k : Int) < (P.length : Int) := by omega
        go_upto_region 5 with (fail)
        clear hend
        have e0 : Hid (refNext P k most 0 = []) := refNext_zero _ _ _
        go_wp2
        go_loopw [9, 10, 11, 12, 13] (fun v i _ _ _ wr' => ∃ (q : Nat) (p : Option Addr) (c' : Nat), q ≤ P.length ∧ i = .int .i64 q ∧ v = .slice p (refNext P k most q).length c' ∧ Hid (wr'.ownsRow w.heap.size 3 1 v (refNext P k most q).length (iv (refNext P k most q))) ∧ Hid (Below w.heap.size w wr')) (fun _ i _ _ _ _ => P.length - (intOf i).toNat)
        case atStart => exact ⟨0, none, 0, by omega, rfl, by rw [e0.out]; rfl, by rw [e0.out]; exact World.ownsRow_nil _ _ _ _, hB1⟩
        case round =>
          obtain ⟨q, p, c', hq, rfl, rfl, hO, hB⟩ := hrel
          have hrl := refNext_length P k most q
          by_cases hlq : q < P.length
          · have hmod : (k + q) % P.length < P.length := Nat.mod_lt _ (by omega)
            have hnd : (P.getD ((k + q) % P.length) Rg.d0).node = Rg.nodeAt P k q := rfl
            have p2 := (hp1.out _ hmod).2
            have p2' := ((hB.out.cell (p := ⟨g, (k + q) % P.length * 2 + 1, none⟩) hg).trans (hB1.out.cell (p := ⟨g, (k + q) % P.length * 2 + 1, none⟩) hg).symm).trans p2
            rw [hnd] at p2'
            clear hnd p2
            have hd1 : Hid (Rg.nodeAt P k q ∈ refNext P k most q → refNext P k most (q + 1) = refNext P k most q) := refNext_had
            have hd2 : Hid (most ≤ (refNext P k most q).length → refNext P k most (q + 1) = refNext P k most q) := refNext_full
            have hd3 : Hid (Rg.nodeAt P k q ∉ refNext P k most q → ((refNext P k most q).length : Int) < most → refNext P k most (q + 1) = refNext P k most q ++ [Rg.nodeAt P k q]) := refNext_new
            generalize Rg.nodeAt P k q = x at *
            generalize refNext P k most q = out at *
            have q0 : 0 ≤ ((k : Int) + q) % P.length := Int.emod_nonneg _ (by omega)
            have q1 : ((k : Int) + q) % P.length < P.length := Int.emod_lt_of_pos _ (by omega)
            have q2 : (((k : Int) + q) % P.length).toNat = (k + q) % P.length := by rw [← Int.natCast_add, ← Int.natCast_emod]; exact Int.toNat_natCast _
            go_wp2
            obtain ⟨wo, rfl⟩ : ∃ wo : World, wo = wr := ⟨_, rfl⟩
            go_loopw [12, 13] (fun b j wi => ∃ (u : Nat), u ≤ out.length ∧ j = .int .i64 u ∧ b = .bool (decide (x ∈ out.take u)) ∧ wi = wo) (fun _ j _ => out.length - (intOf j).toNat)
            case atStart => exact ⟨0, by omega, rfl, by simp, rfl⟩
            case round =>
              obtain ⟨u, hu, rfl, rfl, rfl⟩ := hrel
              by_cases hlu : u < out.length
              · obtain ⟨go_, rfl⟩ := ownsRow_some hO.out (by omega)
                have cu := ivAt hO.out hlu
                have htk : Hid (x ∈ out.take (u + 1) ↔ x ∈ out.take u ∨ x = out.getD u 0) := by
                  show _ ↔ _
                  rw [List.take_succ_eq_append_getElem hlu, List.mem_append, gD hlu]; simp
                generalize out.getD u 0 = z at *
                by_cases hin : x ∈ out.take u
                · have hb : decide (x ∈ out.take u) = true := decide_eq_true hin
                  have hb' : Hid (decide (x ∈ out.take (u + 1)) = true) := decide_eq_true (htk.out.2 (.inl hin))
                  clear hin
                  go_wp2
                  go_roundw
                  case rel => exact ⟨u + 1, by omega, by go_num, by rw [hb'.out], by first | rfl | trivial⟩
                  case measure => simp [intOf]; omega
                · have hb : decide (x ∈ out.take u) = false := decide_eq_false hin
                  by_cases hz : x = z
                  · subst hz
                    have hb' : Hid (decide (x ∈ out.take (u + 1)) = true) := decide_eq_true (htk.out.2 (.inr rfl))
                    have he : ((x : Int) == (x : Int)) = true := by simp
                    clear hin
                    go_wp2
                    go_roundw
                    case rel => exact ⟨u + 1, by omega, by go_num, by rw [hb'.out], by first | rfl | trivial⟩
                    case measure => simp [intOf]; omega
                  · have hb' : Hid (decide (x ∈ out.take (u + 1)) = false) := decide_eq_false (fun h => (htk.out.1 h).elim hin hz)
                    have he : ((z : Int) == (x : Int)) = false := by simp; omega
                    clear hin hz
                    go_wp2
                    go_roundw
                    case rel => exact ⟨u + 1, by omega, by go_num, by rw [hb'.out], by first | rfl | trivial⟩
                    case measure => simp [intOf]; omega
              · obtain rfl : u = out.length := by omega
                rw [List.take_length]
                by_cases hin : x ∈ out
                · have hb : decide (x ∈ out) = true := decide_eq_true hin
                  have e1 := Lib.hid (hd1.out hin)
                  clear hin
                  go_wp2
                  go_roundw
                  case rel => exact ⟨q + 1, p, c', by omega, by go_num, by rw [e1.out], by show World.ownsRow _ _ _ _ _ _ _; rw [e1.out]; exact hO.out, hB⟩
                  case measure => simp [intOf]; omega
                · have hb : decide (x ∈ out) = false := decide_eq_false hin
                  by_cases hm : (out.length : Int) < most
                  · have e1 := Lib.hid (hd3.out hin hm)
                    clear hin
                    go_wp2_with (at_builtin; go_must (refine wpList_append_own _ rfl _ _ 22 rfl w.heap.size 3 i0 (.int .i64 0) 1 8 (by kernel_rfl) hi hz0 hz1 hz2 rfl (by decide) (.slice p out.length c') out.length (iv out) rfl (hO.out.alloc _) ⟨wr.heap.size, 0, none⟩ 1 1 [.int .i64 (x : Nat)] rfl rfl (cell_one_new _ _ _) (by simp [Value.oneCell']) (by unfold maxLen; omega) (by omega) (by simp; have := hB.out.size; omega) ?_; intro v' w2 hown1 hgrow _; have hB2 := Lib.hid (hB.out.trans (grownBelow hO.out hgrow hB.out.size)); obtain ⟨p', c2, rfl⟩ := ownsRow_slice hown1; have hown1' := Lib.hid hown1; clear hown1 hgrow))
                    go_roundw
                    case rel => exact ⟨q + 1, p', c2, by omega, by go_num, by rw [e1.out]; simp, by show World.ownsRow _ _ _ _ _ _ _; rw [e1.out, iv_snoc]; simpa using hown1'.out, hB2⟩
                    case measure => simp [intOf]; omega
                  · have e1 := Lib.hid (hd2.out (by omega))
                    clear hin
                    go_wp2
                    go_roundw
                    case rel => exact ⟨q + 1, p, c', by omega, by go_num, by rw [e1.out], by show World.ownsRow _ _ _ _ _ _ _; rw [e1.out]; exact hO.out, hB⟩
                    case measure => simp [intOf]; omega
          · obtain rfl : q = P.length := by omega
            have e9 : Hid (refNext P k most P.length = Rg.nextOf (Rg.met P (ptS key)) most) := by
              show _ = _; rw [← hs.out, hy.out]; rfl
            go_wp2
            go_ret
            rw [← e9.out]
            exact ⟨_, rfl, hO.out, hB.out⟩
theorem metEmpty (h : Nat) : Rg.met [] h = [] := rfl
theorem nextR_nil (pp : Option Addr) (c : Nat) (key : ByteArray) (most : Int) (w : World) (hk : key.size ≤ 281474976710656) :
    Calls Tryd.prog 21 #[.slice pp 0 c, .string key, .int .i64 most] w fun e w' => e = .returned (.slice none 0 0) ∧ Below w.heap.size w w' := by
  go_enter Tryd.func21, Tryd.ntmps21
  go_wp2_with (go_at_call 36; refine (pointR_any key _ hk).mono ?_; rintro e w1 ⟨rfl, h1⟩; have hB1 := Lib.hid h1; clear h1)
  refine wp_loop_rounds 1 ?_
  rw [rounds_succ]
  go_wp2
  refine wp_loop_rounds 1 ?_
  rw [rounds_succ]
  go_wp2
  go_ret
  exact ⟨rfl, hB1.out⟩
theorem nextR_any (v : Value) (P : List Pt) (key : ByteArray) (most : Int) (w : World) (hP : P.length ≤ 1000000) (hv : SlPts w v P) (hk : key.size ≤ 281474976710656) :
    Calls Tryd.prog 21 #[v, .string key, .int .i64 most] w fun e w' =>
      ∃ v', e = .returned v' ∧ w'.ownsRow w.heap.size 3 1 v' (Rg.nextOf (Rg.met P (ptS key)) most).length (iv (Rg.nextOf (Rg.met P (ptS key)) most)) ∧ Below w.heap.size w w' := by
  obtain ⟨pa, c, rfl, rfl | ⟨g, rfl, hp, hg⟩⟩ := hv
  · refine (nextR_nil pa c key most w hk).mono ?_
    rintro e w' ⟨rfl, hB⟩
    exact ⟨_, rfl, by rw [metEmpty]; simpa [Rg.nextOf, iv] using World.ownsRow_nil w' w.heap.size 3 1, hB⟩
  · exact nextR_some g c P key most w hP hp hg hk
end Go.Proofs.YtphhafaoccfdpaaDoor
