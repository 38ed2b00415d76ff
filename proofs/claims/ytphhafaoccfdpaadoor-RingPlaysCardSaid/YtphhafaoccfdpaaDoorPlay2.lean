/- Walk: RingPlays. -/
import Derived.Test.YtphhafaoccfdpaaDoorPlay1
import Derived.Test.YtphhafaoccfdpaaDoorRefR3
namespace Go.Proofs.YtphhafaoccfdpaaDoor
open Go.RowKit Go.Shelf Go.Lib
open Go.Proofs
set_option maxHeartbeats 3200000
set_option maxRecDepth 100000
open Rg (Pt)

/-- the question and the list that lie in the law's own blocks -/
structure PB (w W : World) (nm : ByteArray) (t c : Nat) (most : Int) (va : Value) : Prop where
  below : RowKit.Below w.heap.size w W
  q : W.heap[w.heap.size]? = some (.cells #[.string nm, .int .u16 t, .int .u16 c] 44 (0, 0))
  a : W.heap[w.heap.size + 1]? = some (.cells #[.int .i64 most, va] 46 (0, 0))
theorem PB.ext {w W W' : World} {nm : ByteArray} {t c : Nat} {most : Int} {va : Value} (h : PB w W nm t c most va) (hB : RowKit.Below W.heap.size W W') : PB w W' nm t c most va :=
  ⟨h.below.trans (hB.mono h.below.size), (hB.block _ (block_lt_of_heap h.q)).trans h.q, (hB.block _ (block_lt_of_heap h.a)).trans h.a⟩
theorem PB.set {w W : World} {nm : ByteArray} {t c : Nat} {most : Int} {va : Value} (h : PB w W nm t c most va) (s : ByteArray) : PB w (W.setCell ⟨w.heap.size, 0, none⟩ (.string s)) s t c most va :=
  ⟨h.below.setCell (Nat.le_refl _) _, heap_setCell_same _ _ _ _ _ _ h.q, (Below.heap_setCell _ _ _ _ (by simp)).trans h.a⟩
theorem slPts_own {W : World} {B : Nat} {T : TypeId} {v : Value} {Q : List Pt} (h : W.ownsRow B T 2 v Q.length (flatPt Q)) : SlPts W v Q := by
  obtain ⟨p, c, rfl⟩ := ownsRow_slice h
  refine ⟨p, c, rfl, ?_⟩
  rcases Nat.eq_zero_or_pos Q.length with h0 | h0
  · exact .inl (List.length_eq_zero_iff.1 h0)
  · obtain ⟨g, cur, rfl, hb, ht, _⟩ := own_parts h h0
    exact .inr ⟨g, rfl, ptsAt_of (holdsPt hb ht), block_lt_of_heap hb⟩
theorem keyS_size (n : ByteArray) (t c : Nat) : (keyS n t c).size = n.size + 4 := by
  unfold keyS
  rw [ByteArray.size_append, lowS_size, strN_size]; rfl
theorem SlInts.setOld {w W : World} {v : Value} {zs : List Int} (h : SlInts w v zs) {B : Nat} (hB : RowKit.Below B w W) (hb : w.heap.size ≤ B) : SlInts W v zs := h.below hB hb

abbrev QB (wA : World) (p : Addr) (v : Value) (W : World) : Prop := Hid (RowKit.Below wA.heap.size wA W) ∧ W.cell? p = some v
theorem QB.out {wA W : World} {p : Addr} {v : Value} (h : QB wA p v W) : RowKit.Below wA.heap.size wA W := h.1
theorem QB.ext {wA W W1 : World} {p : Addr} {v : Value} (h : QB wA p v W) (hB : RowKit.Below W.heap.size W W1) : QB wA p v W1 :=
  ⟨h.1.out.trans (hB.mono h.1.out.size), (hB.cell (block_lt_of_cell h.2)).trans h.2⟩
theorem plays_ends (L : List Nat) (zs : List Int) : ∃ (ov : Int) (ob : Bool) (fv : Int) (fb : Bool), firstV L.head? = .tuple #[.int .i64 ov, .bool ob] ∧ firstV (Rg.firstOf L zs) = .tuple #[.int .i64 fv, .bool fb] ∧
    ((L.length ≤ 0 ∧ ov = -1 ∧ ob = false ∧ fv = -1 ∧ fb = false) ∨ (∃ y : Nat, 0 < L.length ∧ L.getD 0 0 = y ∧ ov = (y : Int) ∧ ob = true ∧ ((fv = -1 ∧ fb = false) ∨ ∃ f : Nat, fv = (f : Int) ∧ fb = true))) ∧ wantOf L zs 0 = fv := by
  have hw : ∀ o : Option Nat, Rg.firstOf L zs = o → wantOf L zs 0 = (match o with | some x => (x : Int) | none => -1) := fun o h => by
    unfold wantOf; rw [List.drop_zero, h]; cases o <;> rfl
  cases L with
  | nil => exact ⟨-1, false, -1, false, rfl, rfl, .inl ⟨by simp, rfl, rfl, rfl, rfl⟩, hw none rfl⟩
  | cons y tl =>
    cases hf : Rg.firstOf (y :: tl) zs with
    | none => exact ⟨y, true, -1, false, rfl, rfl, .inr ⟨y, by simp, by simp, rfl, rfl, .inl ⟨rfl, rfl⟩⟩, hw none hf⟩
    | some f => exact ⟨y, true, f, true, rfl, rfl, .inr ⟨y, by simp, by simp, rfl, rfl, .inr ⟨f, rfl, rfl⟩⟩, hw (some f) hf⟩
def pickW (x : Int) (l : List Int) (wk : Int) : Int := if x ∈ l then x else wk
theorem pickW_nil (x wk : Int) : pickW x [] wk = wk := by simp [pickW]
theorem pickW_yes {x : Int} {l : List Int} {wk : Int} (h : x ∈ l) : pickW x l wk = x := by simp [pickW, h]
theorem pickW_no {x : Int} {l : List Int} {wk : Int} (h : x ∉ l) : pickW x l wk = wk := by simp [pickW, h]
theorem pickW_same {x : Int} {l m : List Int} {wk : Int} (h : x ∈ l ↔ x ∈ m) : pickW x l wk = pickW x m wk := by simp [pickW, h]
theorem plays_start (pn : Option Addr) (cn : Nat) (ns0 : List Int) (nm : ByteArray) (t c : Nat) (most : Int) (pl : Option Addr) (cl : Nat) (al : List Int) (w : World)
    (hn : SlInts w (.slice pn ns0.length cn) ns0) (hnc : ns0.length ≤ cn) (hcn : cn ≤ 9223372036854775807)
    (ha : SlInts w (.slice pl al.length cl) al) (hac : al.length ≤ cl) (hca : cl ≤ 9223372036854775807)
    (ht : t < 65536) (hc : c < 65536) (hk : nm.size ≤ 9223372036854775807) (hT : TableOk w) :
    Calls Tryd.prog 5 #[.slice pn ns0.length cn, .agg #[.string nm, .int .u16 t, .int .u16 c], .agg #[.int .i64 most, .slice pl al.length cl]] w fun e w' => e = .returned (.bool true) ∧ Below w.heap.size w w' := by
  obtain ⟨zs, hzs⟩ : ∃ zs, zs = al.take 12 := ⟨_, rfl⟩
  have hzl : zs.length ≤ 12 := by rw [hzs, List.length_take]; omega
  have hzal : zs.length ≤ al.length := by rw [hzs, List.length_take]; omega
  have hzg : Hid (∀ i, i < zs.length → al.getD i 0 = zs.getD i 0) := fun i hi => by
    rw [hzs, List.getD_eq_getElem?_getD, List.getD_eq_getElem?_getD, List.getElem?_take_of_lt (by omega)]
  have haz : Hid (SlInts w (.slice pl zs.length cl) zs) := by rw [hzs]; exact slInts_take12 ha
  obtain ⟨ms, hms⟩ : ∃ ms, ms = ns0.take 12 := ⟨_, rfl⟩
  have hml : ms.length ≤ 12 := by rw [hms, List.length_take]; omega
  have hnm : Hid (SlInts w (.slice pn ms.length cn) ms) := by rw [hms]; exact slInts_take12 hn
  obtain ⟨ns, hns⟩ : ∃ ns, ns = goodNodes ms := ⟨_, rfl⟩
  have hnsl : ns.length ≤ 12 := by rw [hns]; exact goodNodes_length hml
  obtain ⟨nm3, hnm3⟩ : ∃ s, s = shortS nm 300 := ⟨_, rfl⟩
  have hnm3z : nm3.size ≤ 281474976710656 := by rw [hnm3]; exact Nat.le_trans (short_size nm 300) (by decide)
  obtain ⟨key, hkey⟩ : ∃ s, s = keyS nm3 t c := ⟨_, rfl⟩
  have hkz : key.size ≤ 281474976710656 := by rw [hkey, keyS_size, hnm3]; have := short_size nm 300; omega
  obtain ⟨P, hP⟩ : ∃ P, P = sortPts (ptsUp ns ns.length) := ⟨_, rfl⟩
  have hPl : Hid (P.length = ns.length * 16) := by show _ = _; rw [hP, sortPts_length, ptsUp_length]
  have hPl1 : P.length ≤ 192 := by have := hPl.out; omega
  obtain ⟨L, hL⟩ : ∃ L, L = ringL ns key := ⟨_, rfl⟩
  have hLm : Hid (Rg.met P (ptS key) = L) := by show _ = _; rw [hP, hL]; rfl
  have hLl : L.length ≤ 12 := by rw [hL]; exact Nat.le_trans (ringL_length ns key) hnsl
  have hLall : Hid (Rg.nextOf L 64 = L) := Rg.nextOf_all (.inr (by omega))
  replace hn := Lib.hid hn
  replace ha := Lib.hid ha
  replace hT := Lib.hid hT
  replace hzs := Lib.hid hzs
  replace hms := Lib.hid hms
  replace hns := Lib.hid hns
  replace hnm3 := Lib.hid hnm3
  replace hkey := Lib.hid hkey
  replace hP := Lib.hid hP
  replace hL := Lib.hid hL
  go_enter Tryd.func5, Tryd.ntmps5
  go_upto_region 1 with (fail)
  generalize hW : World.alloc _ _ = W0
  have hPB : Hid (PB w W0 nm t c most (.slice pl al.length cl)) := by
    rw [← hW]
    refine ⟨((Below.refl _ _).alloc (Nat.le_refl _) _).alloc (by simp) _, ?_, ?_⟩
    · rw [Below.heap_alloc _ _ _ (by simp)]; exact heap_alloc_new _ _
    · have h0 := heap_alloc_new (w.alloc (.cells #[.string nm, .int .u16 t, .int .u16 c] 44)) (.cells #[.int .i64 most, .slice pl al.length cl] 46)
      simp only [World.size_alloc] at h0
      exact h0
  clear hW
  go_upto_region 2 with ((go_at_call 6; refine (awake_any _ (hT.out.below hPB.out.below (Nat.le_refl _))).mono ?_; rintro e w1 ⟨rfl, h2⟩; have hPB1 := Lib.hid (hPB.out.ext h2); clear h2))
  go_upto_region 3 with ((go_at_call 7; refine (few_any pn cn ns0 w1 (hn.out.below hPB1.out.below (Nat.le_refl _)) hnc hcn).mono ?_; rintro e w1' ⟨h1, rfl⟩; rw [← hms.out] at h1; subst h1))
  have cq0 : w1.cell? ⟨w.heap.size, 0, none⟩ = some (.string nm) := by rw [cellAt hPB1.out.q]; rfl
  have fq0 := freeAt hPB1.out.q 0
  go_upto_region 4 with ((go_at_call 8; refine (short_any nm 300 w1).mono ?_; rintro e w1' ⟨h1, rfl⟩; rw [← hnm3.out] at h1; subst h1))
  have hPB2 := Lib.hid (hPB1.out.set nm3)
  generalize World.setCell w1 _ _ = w2 at *
  clear cq0 fq0 hPB1 hPB
  go_upto_region 5 with ((go_at_call 9; refine (New_any _ ms w2 (by omega) (hnm.out.below hPB2.out.below (Nat.le_refl _)) (hT.out.below hPB2.out.below (Nat.le_refl _))).mono ?_; rintro e w3 ⟨r, rfl, h1, h2⟩; have hPB3 := Lib.hid (hPB2.out.ext h1); have hr3 : Hid (RSt w3 r ns) := (by rw [hns.out]; exact ⟨_, h2⟩); clear h1 h2))
  go_upto_region 6 with ((go_at_call 16; refine (pointsR_any _ ms w3 (by omega) (hnm.out.below hPB3.out.below (Nat.le_refl _))).mono ?_; rintro e w4 ⟨v4, rfl, h1, h2⟩; rw [← good_ref, ← hns.out, ← hP.out] at h1; obtain ⟨p4, c4, rfl⟩ := ownsRow_slice h1; have hPB4 := Lib.hid (hPB3.out.ext h2); have hr4 := Lib.hid (hr3.out.below h2); have hp4 := Lib.hid (slPts_own h1); clear h1 h2 hr3))
  clear hPB2 hPB3
  have hne : ((P.length : Int) != (P.length : Int)) = false := by simp
  go_upto_region 8 with ((go_at_call 14; refine (Len_st r ns w4 hr4.out).mono ?_; rintro e w4' ⟨h1, rfl⟩; rw [← hPl.out] at h1; subst h1))
  go_wp2
  go_loopw [10, 11, 12] (fun i _ _ wr => ∃ k : Nat, k ≤ P.length ∧ i = .int .i64 k ∧ Hid (Below w4.heap.size w4 wr)) (fun i _ _ _ => P.length - (intOf i).toNat)
  case atStart => exact ⟨0, by omega, rfl, Below.refl _ _⟩
  case round =>
    obtain ⟨k, hk', rfl, hB⟩ := hrel
    by_cases hlt : k < P.length
    · obtain ⟨pa4, ca4, e4, hor⟩ := hp4.out
      cases e4
      obtain ⟨g4, rfl, hpt4, hg4⟩ := hor.resolve_left (by intro e; subst e; simp at hlt)
      obtain ⟨c0, c1⟩ := hpt4 k hlt
      have hAt := fun w h => At_in r ns k w h (by omega) (by have := hPl.out; omega)
      rw [← hP.out] at hAt
      generalize (P.getD k Rg.d0).at_ = y at *
      generalize (P.getD k Rg.d0).node = yn at *
      have c0' := (hB.out.cell (p := ⟨g4, k * 2, none⟩) hg4).trans c0
      have c1' := (hB.out.cell (p := ⟨g4, k * 2 + 1, none⟩) hg4).trans c1
      have hgr : g4 < wr.heap.size := Nat.lt_of_lt_of_le hg4 hB.out.size
      replace hAt := Lib.hid hAt
      have n1 : ((y : Int) != (y : Int)) = false := by simp
      have n2 : ((yn : Int) != (yn : Int)) = false := by simp
      clear hpt4 hor c0 c1
      have k0 : 0 ≤ (k : Int) := by omega
      have k1 : (k : Int) < (P.length : Int) := by omega
      go_upto_region 12 with ((go_at_call 13; refine (hAt.out wr (hr4.out.below hB.out)).mono ?_; rintro e w5 ⟨rfl, h2⟩; have d0 := (h2.cell (p := ⟨g4, k * 2, none⟩) hgr).trans c0'; have d1 := (h2.cell (p := ⟨g4, k * 2 + 1, none⟩) hgr).trans c1'; have hB5 := Lib.hid (hB.out.trans (h2.mono hB.out.size)); clear h2))
      go_wp2
      go_roundw
      case rel => exact ⟨k + 1, by omega, by go_num, hB5⟩
      case measure => simp [intOf]; omega
    · obtain rfl : k = P.length := by omega
      have hPBr := Lib.hid (hPB4.out.ext hB.out)
      have hrr := Lib.hid (hr4.out.below hB.out)
      have hpr := Lib.hid (hp4.out.below hB.out)
      clear hB hPB4 hr4 hp4
      have hPI : (ns.length : Int) * 16 ≤ (P.length : Int) := by have := hPl.out; omega
      go_upto_region 15 with ((go_at_call 13; refine (At_out r ns _ wr hrr.out (by omega) (.inr hPI)).mono ?_; rintro e w5 ⟨rfl, rfl⟩))
      go_upto_region 16 with ((go_at_call 13; refine (At_out r ns _ wr hrr.out (by omega) (.inl (by decide))).mono ?_; rintro e w5 ⟨rfl, rfl⟩))
      have cq0 : wr.cell? ⟨w.heap.size, 0, none⟩ = some (.string nm3) := by rw [cellAt hPBr.out.q]; rfl
      have cq1 : wr.cell? ⟨w.heap.size, 1, none⟩ = some (.int .u16 t) := by rw [cellAt hPBr.out.q]; rfl
      have cq2 : wr.cell? ⟨w.heap.size, 2, none⟩ = some (.int .u16 c) := by rw [cellAt hPBr.out.q]; rfl
      go_upto_region 17 with ((go_at_call 17; go_must (refine (Key_any nm3 t c ht hc _ hnm3z).mono ?_; rintro e w6 ⟨h1, h2⟩; rw [← hkey.out] at h1; subst h1; have hPB6 := Lib.hid (hPBr.out.ext h2); have hr6 := Lib.hid (hrr.out.below h2); have hp6 := Lib.hid (hpr.out.below h2); clear h2)))
      clear cq0 cq1 cq2 hPBr hrr hpr
      have cq0 : w6.cell? ⟨w.heap.size, 0, none⟩ = some (.string nm3) := by rw [cellAt hPB6.out.q]; rfl
      have cq1 : w6.cell? ⟨w.heap.size, 1, none⟩ = some (.int .u16 t) := by rw [cellAt hPB6.out.q]; rfl
      have cq2 : w6.cell? ⟨w.heap.size, 2, none⟩ = some (.int .u16 c) := by rw [cellAt hPB6.out.q]; rfl
      go_upto_region 19 with ((go_at_call 18; go_must (refine (KeyR_any nm3 t c ht hc _ hnm3z).mono ?_; rintro e w7 ⟨h1, h2⟩; rw [← hkey.out] at h1; subst h1; have hPB7 := Lib.hid (hPB6.out.ext h2); have hr7 := Lib.hid (hr6.out.below h2); have hp7 := Lib.hid (hp6.out.below h2); clear h2)))
      clear cq0 cq1 cq2 hPB6 hr6 hp6
      go_upto_region 20 with (first
        | (go_at_call 15; refine (Nodes_st r ns w7 (by omega) hr7.out).mono ?_; rintro e w8 ⟨v8, rfl, h1, h2⟩; have hPB8 := Lib.hid (hPB7.out.ext h2); have hr8 := Lib.hid (hr7.out.below h2); have hp8 := Lib.hid (hp7.out.below h2); have hv8 := Lib.hid (slInts_own h1); clear h1 h2)
        | (go_at_call 20; refine (nodesR_any _ ms w8 (by omega) (hnm.out.below hPB8.out.below (Nat.le_refl _))).mono ?_; rintro e w9 ⟨v9, rfl, h1, h2⟩; rw [← good_ref, ← hns.out] at h1; have hPB9 := Lib.hid (hPB8.out.ext h2); have hr9 := Lib.hid (hr8.out.below h2); have hp9 := Lib.hid (hp8.out.below h2); have hv8' := Lib.hid (hv8.out.below h2 (Nat.le_refl _)); have hv9 := Lib.hid (slInts_own h1); clear h1 h2)
        | (go_at_call 19; refine (sameInts_any v8 v9 ns w9 hv8'.out hv9.out (by omega)).mono ?_; rintro e wA ⟨rfl, h2⟩; have hPBA := Lib.hid (hPB9.out.ext h2); have hrA := Lib.hid (hr9.out.below h2); have hpA := Lib.hid (hp9.out.below h2); clear h2))
      clear hPB7 hr7 hp7 hPB8 hr8 hp8 hv8 hPB9 hr9 hp9 hv8' hv9
      obtain ⟨xs, hxs⟩ : ∃ xs, xs = (Rg.nextOf L most).map (fun (n : Nat) => (n : Int)) := ⟨_, rfl⟩
      have hxl : xs.length ≤ 12 := by rw [hxs, List.length_map, Rg.nextOf, List.length_take]; omega
      replace hxs := Lib.hid hxs
      have ca0 : wA.cell? ⟨w.heap.size + 1, 0, none⟩ = some (.int .i64 most) := by rw [cellAt hPBA.out.a]; rfl
      go_cut [19] (fun s19 wx => s19 = .bool true ∧ Hid (Below wA.heap.size wA wx))
      case first =>
        go_region_held3 (fun W' => Hid (Below wA.heap.size wA W') ∧ W'.cell? ⟨w.heap.size + 1, 0, none⟩ = some (.int .i64 most))
          (first
            | assumption
            | exact ⟨((Below.refl _ _).drew : Below wA.heap.size wA wA.drew), ca0⟩)
          (first
            | (go_at_call 10; refine (Next_st r ns key most _ (hrA.out.below (QB.out (by assumption))) hkz (hT.out.below (hPBA.out.below.trans ((QB.out (by assumption)).mono hPBA.out.below.size)) (Nat.le_refl _))).mono ?_; rintro e W1 ⟨v1, rfl, h1, h2⟩; rw [← hL.out] at h1; have hx1 : Hid (SlInts W1 v1 xs) := (by rw [hxs.out]; exact slInts_own (iv_own h1)); have hS1 := QB.ext (by assumption) h2; clear h1 h2)
            | (go_at_call 21; refine (nextR_any _ P key most _ (by omega) (hpA.out.below (QB.out (by assumption))) hkz).mono ?_; rintro e W2 ⟨v2, rfl, h1, h2⟩; rw [hLm.out] at h1; have hx2 : Hid (SlInts W2 v2 xs) := (by rw [hxs.out]; exact slInts_own (iv_own h1)); have hS2 := QB.ext (by assumption) h2; (first | (have hx1' := Lib.hid (hx1.out.below h2 (Nat.le_refl _))) | skip); clear h1 h2)
            | (go_at_call 19; refine (sameInts_any _ _ xs _ hx1'.out hx2.out (by omega)).mono ?_; rintro e W3 ⟨rfl, h2⟩; have hS3 := QB.ext (by assumption) h2; clear h2))
        all_goals
          rename_i hE
          obtain ⟨hG, -⟩ := hE
          go_wp2_with fail
          go_meet
          exact ⟨rfl, hG⟩
      case rest =>
        obtain ⟨rfl, hBc⟩ := hcut
        have hPBc := Lib.hid (hPBA.out.ext hBc.out)
        have hrc := Lib.hid (hrA.out.below hBc.out)
        have hpc := Lib.hid (hpA.out.below hBc.out)
        clear hPBA hrA hpA hBc ca0 hxs
        go_upto_region 21 with (fail)
        go_upto_region 22 with ((go_at_call 21; go_must (refine (nextR_any _ P key 64 wc (by omega) hpc.out hkz).mono ?_; rintro e wD ⟨vD, rfl, h1, h2⟩; rw [hLm.out, hLall.out] at h1; obtain ⟨pD, cD, rfl⟩ := ownsRow_slice h1; have hPBD := Lib.hid (hPBc.out.ext h2); have hrD := Lib.hid (hrc.out.below h2); have hvD := Lib.hid (slInts_own (iv_own h1)); clear h1 h2)))
        clear hPBc hrc hpc
        obtain ⟨ov, ob, fv, fb, ho, hf, hfin, hwant⟩ := plays_ends L zs
        replace ho := Lib.hid ho
        replace hf := Lib.hid hf
        replace hfin := Lib.hid hfin
        replace hwant := Lib.hid hwant
        go_upto_region 23 with ((go_at_call 12; go_must (refine (Owner_st r ns key wD hrD.out hkz (hT.out.below hPBD.out.below (Nat.le_refl _))).mono ?_; rintro e wE ⟨h1, h2⟩; rw [← hL.out, ho.out] at h1; subst h1; have hPBE := Lib.hid (hPBD.out.ext h2); have hrE := Lib.hid (hrD.out.below h2); have hvE := Lib.hid (hvD.out.below h2 (Nat.le_refl _)); clear h2)))
        clear hPBD hrD hvD
        have ca1 : wE.cell? ⟨w.heap.size + 1, 1, none⟩ = some (.slice pl al.length cl) := by rw [cellAt hPBE.out.a]; rfl
        go_upto_region 24 with (first
          | (go_at_call 7; go_must (refine (few_any pl cl al wE (ha.out.below hPBE.out.below (Nat.le_refl _)) hac hca).mono ?_; rintro e w1' ⟨h1, rfl⟩; rw [← hzs.out] at h1; subst h1))
          | (go_at_call 11; go_must (refine (First_st r ns key _ zs (by omega) wE hrE.out hkz (hT.out.below hPBE.out.below (Nat.le_refl _)) (haz.out.below hPBE.out.below (Nat.le_refl _))).mono ?_; rintro e wF ⟨h1, h2⟩; rw [← hL.out, hf.out] at h1; subst h1; have hPBF := Lib.hid (hPBE.out.ext h2); have hvF := Lib.hid (hvE.out.below h2 (Nat.le_refl _)); clear h2)))
        clear ca1 hPBE hrE hvE ho hf
        have hw1 : Hid ((-1 : Int) = wantOf L zs L.length) := (wantOf_end L zs).symm
        go_wp2
        go_loopw [25, 26, 27] (fun u i _ wr => ∃ k : Nat, k ≤ L.length ∧ i = .int .i64 ((k : Int) - 1) ∧ u = .int .i64 (wantOf L zs k) ∧ Hid (Below wF.heap.size wF wr)) (fun _ i _ _ => (intOf i + 1).toNat)
        case atStart => exact ⟨L.length, Nat.le_refl _, rfl, by rw [← hw1.out], Below.refl _ _⟩
        case round =>
          obtain ⟨k, hk2, rfl, rfl, hBG⟩ := hrel
          obtain ⟨wo, rfl⟩ : ∃ wo : World, wo = wr := ⟨_, rfl⟩
          by_cases hk1 : 1 ≤ k
          · have k0 : 0 ≤ (k : Int) - 1 := by omega
            have k1 : 1 ≤ (k : Int) := by omega
            have k2 : (k : Int) - 1 < (L.length : Int) := by omega
            have k3 : ((k : Int) - 1).toNat = k - 1 := by omega
            have hlk : k - 1 < L.length := by omega
            have hyes : Hid (((L.getD (k - 1) 0 : Nat) : Int) ∈ zs → wantOf L zs (k - 1) = ((L.getD (k - 1) 0 : Nat) : Int)) := wantOf_yes hlk
            have hnot : Hid (((L.getD (k - 1) 0 : Nat) : Int) ∉ zs → wantOf L zs (k - 1) = wantOf L zs k) := fun h => by
              have := wantOf_no hlk h
              rwa [show k - 1 + 1 = k by omega] at this
            have hgl : Hid ((L.map (fun (n : Nat) => (n : Int))).getD (k - 1) 0 = ((L.getD (k - 1) 0 : Nat) : Int)) := by
              show _ = _; simp [List.getD_eq_getElem?_getD, hlk]
            generalize wantOf L zs k = wk at *
            generalize L.getD (k - 1) 0 = xk at *
            go_wp2
            go_loopw [25, 27] (fun u j wr => ∃ q : Nat, q ≤ zs.length ∧ j = .int .i64 q ∧ u = .int .i64 (pickW xk (zs.take q) wk) ∧ Hid (Below wF.heap.size wF wr)) (fun _ j _ => zs.length - (intOf j).toNat)
            case atStart => exact ⟨0, by omega, rfl, by rw [List.take_zero, pickW_nil], hBG⟩
            case round =>
              clear hBG
              obtain ⟨q, hq, rfl, rfl, hBG⟩ := hrel
              have ca1 : wr.cell? ⟨w.heap.size + 1, 1, none⟩ = some (.slice pl al.length cl) := by rw [cellAt ((hPBF.out.ext hBG.out).a)]; rfl
              have haR := Lib.hid (ha.out.below (hPBF.out.ext hBG.out).below (Nat.le_refl _))
              by_cases hqz : q < zs.length
              · obtain ⟨b1, o1, hb1e, d1⟩ := slInts_at haR.out q (by omega)
                obtain ⟨b2, o2, hb2e, d2⟩ := slInts_at (hvF.out.below hBG.out (Nat.le_refl _)) (k - 1) (by simpa using hlk)
                rw [hgl.out] at d2
                rw [hzg.out q hqz] at d1
                have htk : Hid ((xk : Int) ∈ zs.take (q + 1) ↔ (xk : Int) ∈ zs.take q ∨ (xk : Int) = zs.getD q 0) := by
                  show _ ↔ _
                  rw [List.take_succ_eq_append_getElem hqz, List.mem_append, gD hqz]; simp
                generalize zs.getD q 0 = z at *
                have q0 : 0 ≤ (q : Int) := by omega
                have q1 : (q : Int) < (al.length : Int) := by omega
                subst hb1e
                cases hb2e
                by_cases hz : z = (xk : Int)
                · have hb : (z == (xk : Int)) = true := by simpa using hz
                  have hpk : Hid (pickW xk (zs.take (q + 1)) wk = xk) := pickW_yes (htk.out.2 (.inr hz.symm))
                  replace hz := Lib.hid hz
                  go_wp2_with (go_at_call 7; go_must (refine (few_any _ cl al wr haR.out hac hca).mono ?_; rintro e w1' ⟨h1, rfl⟩; rw [← hzs.out] at h1; subst h1))
                  go_quiet (fail)
                  go_wp2
                  go_roundw
                  case rel => exact ⟨q + 1, by omega, by go_num, by rw [hpk.out], belowDrewN hBG.out _⟩
                  case measure => simp [intOf]; omega
                · have hb : (z == (xk : Int)) = false := by simpa using hz
                  have hpk : Hid (pickW xk (zs.take (q + 1)) wk = pickW xk (zs.take q) wk) := pickW_same ⟨fun h => (htk.out.1 h).elim id (fun e => absurd e.symm hz), fun h => htk.out.2 (.inl h)⟩
                  replace hz := Lib.hid hz
                  go_wp2_with (go_at_call 7; go_must (refine (few_any _ cl al wr haR.out hac hca).mono ?_; rintro e w1' ⟨h1, rfl⟩; rw [← hzs.out] at h1; subst h1))
                  go_quiet (fail)
                  go_wp2
                  go_roundw
                  case rel => exact ⟨q + 1, by omega, by go_num, by rw [hpk.out], belowDrewN hBG.out _⟩
                  case measure => simp [intOf]; omega
              · obtain rfl : q = zs.length := by omega
                have hpk : Hid (wantOf L zs (k - 1) = pickW xk (zs.take zs.length) wk) := by
                  show _ = _
                  rw [List.take_length]
                  by_cases h : (xk : Int) ∈ zs
                  · rw [hyes.out h, pickW_yes h]
                  · rw [hnot.out h, pickW_no h]
                have hi1 : Hid ((k : Int) - 1 - 1 = ((k - 1 : Nat) : Int) - 1) := by show _ = _; omega
                generalize pickW xk (zs.take zs.length) wk = pk at *
                go_wp2_with (go_at_call 7; go_must (refine (few_any _ cl al wr haR.out hac hca).mono ?_; rintro e w1' ⟨h1, rfl⟩; rw [← hzs.out] at h1; subst h1))
                go_roundw
                case rel => exact ⟨k - 1, by omega, by rw [← hi1.out], by rw [hpk.out], hBG⟩
                case measure => simp [intOf]; omega
          · obtain rfl : k = 0 := by omega
            have hBend := Lib.hid ((hPBF.out.ext hBG.out).below)
            have hvR := Lib.hid (hvF.out.below hBG.out (Nat.le_refl _))
            rw [hwant.out]
            rcases hfin.out with ⟨hL0, rfl, rfl, rfl, rfl⟩ | ⟨y, hL0, hy, rfl, rfl, ⟨rfl, rfl⟩ | ⟨f, rfl, rfl⟩⟩
            · have hL0I : ¬ (0 : Int) < (L.length : Int) := by omega
              go_wp2
              go_ret
              exact ⟨by show Ending.returned (.bool (!decide (0 < L.length))) = _; rw [decide_eq_false (by omega)]; rfl, hBend.out⟩
            · obtain ⟨b2, o2, hb2e, d2⟩ := slInts_at hvR.out 0 (by simpa using hL0)
              rw [Nat.add_zero, show (L.map (fun (n : Nat) => (n : Int))).getD 0 0 = (y : Int) by rw [← hy]; simp [List.getD_eq_getElem?_getD, hL0]] at d2
              cases hb2e
              have hL0I : (0 : Int) < (L.length : Int) := by omega
              have hyy : ((y : Int) == (y : Int)) = true := by simp
              replace hy := Lib.hid hy
              go_wp2
              go_ret
              exact ⟨rfl, hBend.out⟩
            · obtain ⟨b2, o2, hb2e, d2⟩ := slInts_at hvR.out 0 (by simpa using hL0)
              rw [Nat.add_zero, show (L.map (fun (n : Nat) => (n : Int))).getD 0 0 = (y : Int) by rw [← hy]; simp [List.getD_eq_getElem?_getD, hL0]] at d2
              cases hb2e
              have hL0I : (0 : Int) < (L.length : Int) := by omega
              have hyy : ((y : Int) == (y : Int)) = true := by simp
              have hff : ((f : Int) == (f : Int)) = true := by simp
              have hf0 : (0 : Int) ≤ (f : Int) := by omega
              replace hy := Lib.hid hy
              go_wp2
              go_ret
              exact ⟨rfl, hBend.out⟩
end Go.Proofs.YtphhafaoccfdpaaDoor
