/- Walks: the ring's iterator. -/
import Derived.Test.YtphhafaoccfdpaaDoorRing1
import Derived.Test.YtphhafaoccfdpaaDoorRange
import Derived.Deep.RegionHeld3
import Derived.Deep.Cut
namespace Go.Proofs.YtphhafaoccfdpaaDoor
open Go.RowKit Go.Shelf
open Go.Proofs
set_option maxHeartbeats 800000
set_option maxRecDepth 100000
open Rg (Pt)
attribute [local go_sem] Oper.semAt_some

theorem zero_x64b (w : World) : (zeroValue 85).run Tryd.prog w = .ok (.agg (Array.replicate 64 (.bool false))) w := by kernel_rfl

/-- what the iterator reads -/
structure RingIn (br bk rb g c : Nat) (P : List Pt) (key : ByteArray) (W : World) : Prop where
  r : W.cell? ⟨br, 0, none⟩ = some (.pointer (some ⟨rb, 0, none⟩))
  k : W.cell? ⟨bk, 0, none⟩ = some (.string key)
  p : W.cell? ⟨rb, 1, none⟩ = some (.slice (some ⟨g, 0, none⟩) P.length c)
  pts : PtsAt W g P
  lt : g < W.heap.size
  tab : TableOk W
theorem RingIn.ext {br bk rb g c : Nat} {P : List Pt} {key : ByteArray} {W W' : World} (h : RingIn br bk rb g c P key W) (hB : Below W.heap.size W W') : RingIn br bk rb g c P key W' :=
  ⟨(hB.cell (p := ⟨br, 0, none⟩) (block_lt_of_cell h.r)).trans h.r, (hB.cell (p := ⟨bk, 0, none⟩) (block_lt_of_cell h.k)).trans h.k, (hB.cell (p := ⟨rb, 1, none⟩) (block_lt_of_cell h.p)).trans h.p,
   h.pts.below hB h.lt, Nat.lt_of_lt_of_le h.lt hB.size, h.tab.below hB (Nat.le_refl _)⟩

abbrev RS (w : World) (br bk rb g c n : Nat) (key : ByteArray) (W' : World) : Prop :=
  Hid (Below w.heap.size w W') ∧ W'.cell? ⟨br, 0, none⟩ = some (.pointer (some ⟨rb, 0, none⟩)) ∧ W'.cell? ⟨bk, 0, none⟩ = some (.string key) ∧ W'.cell? ⟨rb, 1, none⟩ = some (.slice (some ⟨g, 0, none⟩) n c)
theorem RS.ext {w : World} {br bk rb g c n : Nat} {key : ByteArray} {W W' : World} (h : RS w br bk rb g c n key W) (hB : Below W.heap.size W W') : RS w br bk rb g c n key W' :=
  ⟨h.1.out.trans (hB.mono h.1.out.size), (hB.cell (p := ⟨br, 0, none⟩) (block_lt_of_cell h.2.1)).trans h.2.1, (hB.cell (p := ⟨bk, 0, none⟩) (block_lt_of_cell h.2.2.1)).trans h.2.2.1, (hB.cell (p := ⟨rb, 1, none⟩) (block_lt_of_cell h.2.2.2)).trans h.2.2.2⟩
theorem RS.tab {w : World} {br bk rb g c n : Nat} {key : ByteArray} {W : World} (h : RS w br bk rb g c n key W) (ht : TableOk w) : TableOk W := ht.below h.1.out (Nat.le_refl _)

theorem RS.ltg {w : World} {br bk rb g c n : Nat} {key : ByteArray} {W : World} (h : RS w br bk rb g c n key W) (hg : g < w.heap.size) : g < W.heap.size := Nat.lt_of_lt_of_le hg h.1.out.size
theorem RS.pts {w : World} {br bk rb g c n : Nat} {key : ByteArray} {W : World} (h : RS w br bk rb g c n key W) (hg : g < w.heap.size) {P : List Pt} (hp : PtsAt w g P) : PtsAt W g P := hp.below h.1.out hg
def bls (l : List Bool) : Array Value := (l.map Value.bool).toArray
theorem zero_bls (w : World) : (zeroValue 85).run Tryd.prog w = .ok (.agg (bls (Rg.bools []))) w := by
  rw [Rg.bools_nil]; exact zero_x64b w
theorem bls_size (l : List Bool) : (bls l).size = l.length := by simp [bls]
theorem bls_at (l : List Bool) (j : Nat) (h : j < l.length) : (bls l)[j]? = some (Value.bool (l.getD j false)) := by
  rw [List.getD_eq_getElem?_getD, List.getElem?_eq_getElem h]; simp [bls, h]
theorem bls_set (l : List Bool) (j : Nat) (x : Bool) : (bls l).setIfInBounds j (.bool x) = bls (l.set j x) := by
  simp [bls, List.map_set]

theorem from1_any (P : List Pt) (key : ByteArray) (l br bk rb g c : Nat) (hP0 : P ≠ []) (hP : P.length ≤ 1000000) (hn : ∀ i, i < P.length → (P.getD i Rg.d0).node < 64) (hr : Rg.Rising P) (hk : key.size ≤ 281474976710656)
    (J Jx : List Nat → World → Prop) (w : World) (hJ : ∀ pre W, J pre W → RingIn br bk rb g c P key W)
    (hJb : ∀ pre W W', J pre W → Below W.heap.size W W' → J pre W')
    (hJm : ∀ pre W b i v (cs : Array Value), J pre W → w.heap.size ≤ b → W.heap[b]? = some (Obj.cells cs 85 (0, 0)) → J pre (W.setCell ⟨b, i, none⟩ v))
    (hY : ∀ pre x W, J pre W → pre ++ [x] <+: Rg.met P (ptS key) → YieldAt Fence.wide 4 Tryd.prog l #[.int .i64 (x : Nat)] W fun (e : Ending) (W' : World) =>
      ((e = .returned (.bool true) ∧ J (pre ++ [x]) W') ∨ (e = .returned (.bool false) ∧ Jx (pre ++ [x]) W')) ∧ (∀ (b : Nat) (cs : Array Value), W.heap[b]? = some (Obj.cells cs 85 (0, 0)) → W'.heap[b]? = W.heap[b]?))
    (h0 : J [] w) :
    Calls Tryd.prog 48 #[.func (.yield l) #[] #[], .pointer (some ⟨br, 0, none⟩), .pointer (some ⟨bk, 0, none⟩)] w fun e W' => (∃ v, e = .returned v) ∧
      (J (Rg.met P (ptS key)) W' ∨ ∃ pre x, pre ++ [x] <+: Rg.met P (ptS key) ∧ Jx (pre ++ [x]) W') := by
  unfold Rg.met at hY ⊢
  have R0 := hJ _ _ h0
  have c1 := R0.r
  have c2 := R0.k
  have c3 := R0.p
  have hr_ := Lib.hid hr
  have hn_ := Lib.hid hn
  have hP0_ := Lib.hid hP0
  have R0_ := Lib.hid R0
  have hJ_ := Lib.hid hJ
  have hJb_ := Lib.hid hJb
  have hJm_ := Lib.hid hJm
  have hY_ := Lib.hid hY
  have h0_ := Lib.hid h0
  clear hr hn hP0 R0 hJ hJb hJm hY h0
  go_enter Tryd.func48, Tryd.ntmps48
  go_wp2
  go_region_held3 (fun W' => Hid (Below w.heap.size w W') ∧ W'.cell? ⟨br, 0, none⟩ = some (.pointer (some ⟨rb, 0, none⟩)) ∧ W'.cell? ⟨bk, 0, none⟩ = some (.string key) ∧ W'.cell? ⟨rb, 1, none⟩ = some (.slice (some ⟨g, 0, none⟩) P.length c))
    (first
      | assumption
      | exact ⟨((Below.refl _ _).drew : Below w.heap.size w w.drew), c1, c2, c3⟩
      | exact RS.ext (by assumption) (Below.alloc (Below.refl _ _) (Nat.le_refl _) _))
    (first
      | (go_at_call 27; refine (Point_any key _ _ _ hk (by simp) (RS.tab (by assumption) R0_.out.tab)).mono ?_; rintro e W1 ⟨rfl, h0⟩; have hS1 := RS.ext (by assumption) h0; clear h0)
      | (go_at_call 49; refine (search_any P g c (ptS key) _ hP (RS.ltg (by assumption) R0_.out.lt) (RS.pts (by assumption) R0_.out.lt R0_.out.pts) hr_.out).mono ?_; rintro e W2 ⟨⟨b, rfl⟩, h0⟩; have hS2 := RS.ext (by assumption) h0; clear h0))
  have hlb := Rg.lb_le P (ptS key)
  generalize hs : Rg.lb P (ptS key) = s at *
  replace hs := Lib.hid hs
  have hJd : Hid (∀ pre W, J pre W → J pre W.drew) := fun pre W h => hJb_.out _ _ _ h ((Below.refl _ _).drew)
  go_wp2_with (refine wpListAllocAbs 6 rfl rfl 85 rfl (.agg (bls (Rg.bools []))) zero_bls ?_; intro W3 h0; have hS3 : RS w br bk rb g c P.length key W3 := (by rw [← h0]; exact RS.ext hS2 (Below.alloc (Below.refl _ _) (Nat.le_refl _) _)); obtain ⟨hB3, d1, d2, d3⟩ := hS3; have hM3 : W3.heap[W2.heap.size]? = some (.cells (bls (Rg.bools (Rg.metTo P s 0))) 85 (0, 0)) := (by rw [← h0]; exact heap_alloc_new _ _); clear h0)
  have z2 : w.heap.size ≤ W2.heap.size := hS2.1.out.size
  have J3 := hJb_.out _ _ _ h0_.out hB3.out
  clear c1 c2 c3 d1 d2 d3 hS1 hS2 h0_ hJb_
  replace J3 := Lib.hid J3
  generalize W2.heap.size = bm at *
  go_loopw [7, 8, 27] (fun _ _ i wr => ∃ k : Nat, k ≤ P.length ∧ i = .int .i64 k ∧ Hid (J (Rg.metTo P s k) wr) ∧ wr.heap[bm]? = some (.cells (bls (Rg.bools (Rg.metTo P s k))) 85 (0, 0)))
    (fun _ _ i _ => P.length - (intOf i).toNat)
  case atStart => exact ⟨0, by omega, rfl, J3, hM3⟩
  case round =>
    obtain ⟨k, hk, rfl, hJk, hM⟩ := hrel
    clear J3 hM3
    by_cases hlt : k < P.length
    · have hR := hJ_.out _ _ hJk.out
      have c1 := hR.r
      have c3 := hR.p
      have hmod : (s + k) % P.length < P.length := Nat.mod_lt _ (by omega)
      obtain ⟨p1, p2⟩ := hR.pts _ hmod
      have hnd : (P.getD ((s + k) % P.length) Rg.d0).node = Rg.nodeAt P s k := rfl
      have hn64 := hn_.out _ hmod
      rw [hnd] at hn64 p2
      have hRk := Lib.hid hR
      have hnx : Hid (Rg.metTo P s (k + 1) = if Rg.nodeAt P s k ∈ Rg.metTo P s k then Rg.metTo P s k else Rg.metTo P s k ++ [Rg.nodeAt P s k]) := rfl
      have hpre : Hid (Rg.metTo P s (k + 1) <+: Rg.metTo P s P.length) := Rg.metTo_prefix P s hlt
      clear p1 hnd hR
      generalize hx : Rg.nodeAt P s k = x at *
      replace hx := Lib.hid hx
      generalize hpr : Rg.metTo P s k = pre at *
      replace hpr := Lib.hid hpr
      have q0 : 0 ≤ ((s : Int) + k) % P.length := Int.emod_nonneg _ (by omega)
      have q1 : ((s : Int) + k) % P.length < P.length := Int.emod_lt_of_pos _ (by omega)
      have q2 : (((s : Int) + k) % P.length).toNat = (s + k) % P.length := by rw [← Int.natCast_add, ← Int.natCast_emod]; exact Int.toNat_natCast _
      go_wp2
      go_region
      have cm := cellAt hM x
      rw [bls_at _ _ (by rw [Rg.bools_length]; exact hn64), Rg.bools_getD _ _ hn64] at cm
      have cf := freeAt hM x
      have hx64 : (x : Int) < 64 := by omega
      by_cases hin : x ∈ pre
      · rw [decide_eq_true hin] at cm
        have e1 : Hid (Rg.metTo P s (k + 1) = pre) := by show _ = _; rw [hnx.out, if_pos hin]
        have e2 : Hid ((Rg.bools pre).set x true = Rg.bools pre) := Rg.bools_same _ _ hn64 hin
        replace hin := Lib.hid hin
        go_wp2
        go_roundw
        case rel =>
          refine ⟨k + 1, by omega, by go_num, ?_, ?_⟩
          · show J _ _; rw [e1.out]
            exact hJd.out _ _ (hJm_.out _ _ bm x _ _ hJk.out z2 hM)
          · refine (heap_setCell_same wr _ _ _ _ _ hM).trans ?_
            rw [bls_set, e2.out, e1.out]
        case measure => simp [intOf]; omega
      · rw [decide_eq_false hin] at cm
        have e1 : Hid (Rg.metTo P s (k + 1) = pre ++ [x]) := by show _ = _; rw [hnx.out, if_neg hin]
        have e2 : Hid ((Rg.bools pre).set x true = Rg.bools (pre ++ [x])) := Rg.bools_set _ _ hn64
        obtain ⟨fn, tmps, assign, body, hy, hRd⟩ := hY_.out pre x wr.drew (hJd.out _ _ hJk.out) (by rw [← e1.out]; exact hpre.out)
        go_upto_region 7 with (fail)
        refine (wpIn_wide (n := 5)).1 ?_
        gi_wp2
        have hkeep : Hid (∀ (e : Ending) (W' : World), ((e = .returned (.bool true) ∧ J (pre ++ [x]) W') ∨ (e = .returned (.bool false) ∧ Jx (pre ++ [x]) W')) ∧ (∀ (b : Nat) (cs : Array Value), wr.drew.heap[b]? = some (Obj.cells cs 85 (0, 0)) → W'.heap[b]? = wr.drew.heap[b]?) → W'.heap[bm]? = some (.cells (bls (Rg.bools pre)) 85 (0, 0))) :=
          fun e W' h => (h.2 bm _ hM).trans hM
        refine hRd.mono ?_
        intro e W5 h5
        have hM5 := hkeep.out e W5 h5
        obtain ⟨(⟨rfl, hJ5⟩ | ⟨rfl, hJ5⟩), _⟩ := h5
        · replace hJ5 := Lib.hid hJ5
          have cm5 := cellAt hM5 x
          rw [bls_at _ _ (by rw [Rg.bools_length]; exact hn64), Rg.bools_getD _ _ hn64, decide_eq_false hin] at cm5
          have cf5 := freeAt hM5 x
          replace hin := Lib.hid hin
          clear cm cf hRd hy
          gi_wp2
          go_wp2
          refine ⟨⟨k + 1, by omega, by go_num, ?_, ?_⟩, by simp [intOf]; omega⟩
          · show J _ _; rw [e1.out]
            exact hJm_.out _ _ bm x _ _ hJ5.out z2 hM5
          · refine (heap_setCell_same W5 _ _ _ _ _ hM5).trans ?_
            rw [bls_set, e2.out, e1.out]
        · replace hJ5 := Lib.hid hJ5
          gi_wp2
          go_wp2
          refine bodyPost_ret (results_none rfl _ _ _) rfl ?_
          refine ⟨⟨_, rfl⟩, .inr ⟨pre, x, ?_, hJ5.out⟩⟩
          rw [hs.out, ← e1.out]; exact hpre.out
    · obtain rfl : k = P.length := by omega
      go_wp2
      go_end0
      refine ⟨⟨_, rfl⟩, .inl ?_⟩
      rw [hs.out]; exact hJk.out
end Go.Proofs.YtphhafaoccfdpaaDoor
