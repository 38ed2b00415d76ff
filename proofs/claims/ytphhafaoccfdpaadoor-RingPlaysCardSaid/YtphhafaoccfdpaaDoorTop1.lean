/- The ring's methods on what ring.New gives. -/
import Derived.Test.YtphhafaoccfdpaaDoorNew7
import Derived.Test.YtphhafaoccfdpaaDoorRing5
import Derived.Test.YtphhafaoccfdpaaDoorRing6
namespace Go.Proofs.YtphhafaoccfdpaaDoor
open Go.RowKit Go.Shelf Go.Lib
open Go.Proofs
set_option maxHeartbeats 800000
set_option maxRecDepth 100000
open Rg (Pt)

def ringL (ns : List Int) (key : ByteArray) : List Nat := Rg.met (sortPts (ptsUp ns ns.length)) (ptS key)
def RSt (w : World) (pr : Option Addr) (ns : List Int) : Prop := ∃ B, NewOk B w pr ns
theorem RSt.below {w w' : World} {pr : Option Addr} {ns : List Int} (h : RSt w pr ns) (hB : Below w.heap.size w w') : RSt w' pr ns := by
  obtain ⟨B, rb, vn, rfl, hb, hn, hnb, hh⟩ := h
  refine ⟨B, rb, vn, rfl, hb, ownsRow_ext hn hB, hnb, ?_⟩
  rcases hh with ⟨e, h⟩ | ⟨e, gp, c, h⟩
  · exact .inl ⟨e, (hB.block _ (block_lt_of_heap h)).trans h⟩
  · exact .inr ⟨e, gp, c, h.below hB (Nat.le_refl _)⟩
theorem RSt.cases {w : World} {pr : Option Addr} {ns : List Int} (h : RSt w pr ns) : (ns = [] ∧ NoRing w pr) ∨ (ns ≠ [] ∧ ∃ rb vn gp c, pr = some ⟨rb, 0, none⟩ ∧ IsRing w rb vn (sortPts (ptsUp ns ns.length)) gp c) := by
  obtain ⟨B, rb, vn, rfl, hb, hn, hnb, hh⟩ := h
  rcases hh with ⟨e, h⟩ | ⟨e, gp, c, h⟩
  · exact .inl ⟨e, .inr ⟨rb, vn, rfl, h⟩⟩
  · exact .inr ⟨e, rb, vn, gp, c, rfl, h⟩
theorem ringL_nil (key : ByteArray) : ringL [] key = [] := by
  have : sortPts (ptsUp [] ([] : List Int).length) = [] := by simp [ptsUp, sortPts]
  unfold ringL
  rw [this]; rfl

theorem Owner_st (pr : Option Addr) (ns : List Int) (key : ByteArray) (w : World) (h : RSt w pr ns) (hk : key.size ≤ 281474976710656) (ht : TableOk w) :
    Calls Tryd.prog 12 #[.pointer pr, .string key] w fun e w' => e = .returned (firstV (ringL ns key).head?) ∧ Below w.heap.size w w' := by
  rcases h.cases with ⟨rfl, hR⟩ | ⟨hne, rb, vn, gp, c, rfl, hR⟩
  · rw [ringL_nil]; exact Owner_no pr key w hR hk ht
  · refine (Owner_any _ rb gp c vn key w hR hk ht).mono ?_
    rintro e w' ⟨rfl, hB⟩
    refine ⟨?_, hB⟩
    have := Rg.met_ne hR.ne (ptS key)
    unfold ringL
    cases hm : Rg.met (sortPts (ptsUp ns ns.length)) (ptS key) with
    | nil => exact absurd hm this
    | cons a t => rfl
theorem First_st (pr : Option Addr) (ns : List Int) (key : ByteArray) (va : Value) (zs : List Int) (hzl : zs.length ≤ 1000000) (w : World) (h : RSt w pr ns) (hk : key.size ≤ 281474976710656) (ht : TableOk w) (hz : SlInts w va zs) :
    Calls Tryd.prog 11 #[.pointer pr, .string key, va] w fun e w' => e = .returned (firstV (Rg.firstOf (ringL ns key) zs)) ∧ Below w.heap.size w w' := by
  obtain ⟨pa, c0, rfl, _⟩ := id hz
  rcases h.cases with ⟨rfl, hR⟩ | ⟨hne, rb, vn, gp, c, rfl, hR⟩
  · rw [ringL_nil]; exact First_no pr key pa _ c0 w hR hk ht
  · exact First_any _ rb gp c vn key _ zs rfl hzl w hR hk ht hz
theorem Next_st (pr : Option Addr) (ns : List Int) (key : ByteArray) (most : Int) (w : World) (h : RSt w pr ns) (hk : key.size ≤ 281474976710656) (ht : TableOk w) :
    Calls Tryd.prog 10 #[.pointer pr, .string key, .int .i64 most] w fun e w' =>
      ∃ v, e = .returned v ∧ w'.ownsRow w.heap.size 3 1 v (Rg.nextOf (ringL ns key) most).length (iv (Rg.nextOf (ringL ns key) most)) ∧ Below w.heap.size w w' := by
  rcases h.cases with ⟨rfl, hR⟩ | ⟨hne, rb, vn, gp, c, rfl, hR⟩
  · rw [ringL_nil]
    refine (Next_no pr key most w hR hk ht).mono ?_
    rintro e w' ⟨rfl, hB⟩
    exact ⟨_, rfl, by simpa [Rg.nextOf, iv] using World.ownsRow_nil w' w.heap.size 3 1, hB⟩
  · exact Next_any _ rb gp c vn key most w hR hk ht
theorem Len_st (pr : Option Addr) (ns : List Int) (w : World) (h : RSt w pr ns) :
    Calls Tryd.prog 14 #[.pointer pr] w fun e w' => e = .returned (.int .i64 ((ns.length * 16 : Nat) : Int)) ∧ w = w' := by
  obtain ⟨B, rb, vn, rfl, hb, hn, hnb, hh⟩ := h
  rcases hh with ⟨rfl, h⟩ | ⟨e, gp, c, h⟩
  · exact Len_at h
  · have := Len_at h.blk
    rwa [sortPts_length, ptsUp_length] at this

theorem Clone_own (v : Value) (ns : List Int) (B : Nat) (w : World) (hz : ns.length ≤ 1000000) (h : w.ownsRow B 3 1 v ns.length (ivI ns)) :
    Calls Tryd.prog 35 #[v] w fun e w' => ∃ v', e = .returned v' ∧ w'.ownsRow w.heap.size 3 1 v' ns.length (ivI ns) ∧ Below w.heap.size w w' := by
  obtain ⟨hl, (⟨rfl, h0⟩ | ⟨g, cap, cur, rfl, hg, hc, hn, hm, hs, ht⟩)⟩ := id h
  · obtain rfl : ns = [] := List.length_eq_zero_iff.1 h0
    have he : ∀ w : World, (binOp .eql 22 (.slice none 0 0) (.slice none 0 0)).run Tryd.prog w = .ok (.bool true) w := fun _ => by kernel_rfl
    go_enter Tryd.func35, Tryd.ntmps35
    go_wp2
    go_ret
    exact ⟨_, rfl, World.ownsRow_nil _ _ _ _, Below.refl _ _⟩
  · obtain ⟨i0, hi, hz0, hz1, hz2⟩ := info_parts info_int
    have hcells : Hid (∀ j u, (ivI ns)[j]? = some u → (w.alloc (.cells #[] 3)).cell? ((⟨g, 0, none⟩ : Addr).add j) = some u) := by
      intro j u hj
      have hj' : j < ns.length := by
        rcases Nat.lt_or_ge j ns.length with h | h
        · exact h
        · simp [ivI, List.getElem?_eq_none h] at hj
      have hcell := ownInt h hj'
      have e : (⟨g, 0, none⟩ : Addr).add j = ⟨g, j, none⟩ := by unfold Addr.add; split <;> simp_all
      rw [e]
      refine Lib.cell?_alloc_some _ ?_
      rw [hcell]
      simp [ivI, hj'] at hj
      rw [gD hj', hj]
    have hw0 : Hid ((w.alloc (.cells #[] 3)).ownsRow w.heap.size 3 1 (.slice (some ⟨w.heap.size, 0, none⟩) 0 0) 0 []) :=
      ⟨rfl, .inr ⟨w.heap.size, 0, #[], rfl, Nat.le_refl _, heap_alloc_new _ _, Nat.le_refl _, Nat.zero_le _, rfl, rfl⟩⟩
    replace hl := Lib.hid hl
    replace ht := Lib.hid ht
    replace hs := Lib.hid hs
    replace h := Lib.hid h
    replace hc := Lib.hid hc
    have he : ∀ w : World, (binOp .eql 22 (.slice (some ⟨g, 0, none⟩) ns.length cap) (.slice none 0 0)).run Tryd.prog w = .ok (.bool false) w := fun _ => rfl
    go_enter Tryd.func35, Tryd.ntmps35
    go_wp2_with (at_builtin; go_must (refine wpList_append_own _ rfl _ _ 22 rfl w.heap.size 3 i0 (.int .i64 0) 1 8 (by kernel_rfl) hi hz0 hz1 hz2 rfl (by decide) (.slice (some ⟨w.heap.size, 0, none⟩) 0 0) 0 [] rfl hw0.out ⟨g, 0, none⟩ ns.length cap (ivI ns) rfl (by simp [ivI]) hcells.out (by intro u hu; simp [ivI] at hu; obtain ⟨a, _, rfl⟩ := hu; rfl) (by unfold maxLen; omega) (by omega) (by simp) ?_; intro v' w1 hown1 hgrow _; obtain ⟨p', c', rfl⟩ := ownsRow_slice hown1; have hown1' := Lib.hid hown1; have hgrow' := Lib.hid hgrow; clear hown1 hgrow))
    go_ret
    refine ⟨_, rfl, by simpa using hown1'.out, ?_⟩
    exact ((Below.refl _ w).alloc (Nat.le_refl _) _).grown hgrow'.out (by simp) (fun k hk => by cases hk; exact Nat.le_refl _)

theorem Nodes_st (pr : Option Addr) (ns : List Int) (w : World) (hz : ns.length ≤ 1000000) (h : RSt w pr ns) :
    Calls Tryd.prog 15 #[.pointer pr] w fun e w' => ∃ v', e = .returned v' ∧ w'.ownsRow w.heap.size 3 1 v' ns.length (ivI ns) ∧ Below w.heap.size w w' := by
  obtain ⟨B, rb, vn, rfl, hb, hn, hnb, hh⟩ := h
  obtain ⟨vp, hbl⟩ : ∃ vp, w.heap[rb]? = some (.cells #[vn, vp] 34 (0, 0)) := by
    rcases hh with ⟨_, h⟩ | ⟨_, gp, c, h⟩
    · exact ⟨_, h⟩
    · exact ⟨_, h.blk⟩
  have c0 : w.cell? ⟨rb, 0, none⟩ = some vn := by rw [cellAt hbl]; rfl
  obtain ⟨pn, kn, rfl⟩ := ownsRow_slice hn
  replace hn := Lib.hid hn
  clear hnb hh
  replace hbl := Lib.hid hbl
  go_enter Tryd.func15, Tryd.ntmps15
  go_wp2_with (go_at_call 35; refine (Clone_own _ ns B _ hz hn.out).mono ?_; rintro e w' ⟨v', rfl, h1, h2⟩; have h1' := Lib.hid h1; have h2' := Lib.hid h2; clear h1 h2)
  go_ret
  exact ⟨_, rfl, h1'.out, h2'.out⟩
theorem Nodes_nil (w : World) : Calls Tryd.prog 15 #[.pointer none] w fun e w' => e = .returned (.slice none 0 0) ∧ w = w' := by
  go_enter Tryd.func15, Tryd.ntmps15
  go_wp2
  go_ret
  exact ⟨rfl, rfl⟩
/-- At outside the ring -/
theorem At_out (pr : Option Addr) (ns : List Int) (i : Int) (w : World) (h : RSt w pr ns) (hl : ns.length ≤ 1000000) (hi : i < 0 ∨ (ns.length : Int) * 16 ≤ i) :
    Calls Tryd.prog 13 #[.pointer pr, .int .i64 i] w fun e w' => e = .returned (.tuple #[.int .u64 0, .int .i64 (-1)]) ∧ w = w' := by
  replace h := Lib.hid h
  by_cases h0 : i < 0
  · go_enter Tryd.func13, Tryd.ntmps13
    go_wp2
    go_ret2
    exact ⟨rfl, rfl⟩
  · have h1 : (ns.length : Int) * 16 ≤ i := by omega
    have h1' : ((ns.length * 16 : Nat) : Int) ≤ i := by omega
    go_enter Tryd.func13, Tryd.ntmps13
    go_wp2_with (go_at_call 14; refine (Len_st pr ns _ h.out).mono ?_; rintro e w' ⟨rfl, rfl⟩)
    go_ret2
    exact ⟨rfl, rfl⟩
theorem At_nil (pr : Option Addr) (i : Int) (w : World) (h : pr = none ∨ ∃ rb, pr = some ⟨rb, 0, none⟩ ∧ w.heap[rb]? = some (.cells #[.slice none 0 0, .slice none 0 0] 34 (0, 0))) :
    Calls Tryd.prog 13 #[.pointer pr, .int .i64 i] w fun e w' => e = .returned (.tuple #[.int .u64 0, .int .i64 (-1)]) ∧ w = w' := by
  by_cases h0 : i < 0
  · replace h := Lib.hid h
    go_enter Tryd.func13, Tryd.ntmps13
    go_wp2
    go_ret2
    exact ⟨rfl, rfl⟩
  · have h1 : 0 ≤ i := by omega
    have hlen : Calls Tryd.prog 14 #[.pointer pr] w fun e w' => e = .returned (.int .i64 0) ∧ w = w' := by
      rcases h with rfl | ⟨rb, rfl, hb⟩
      · exact Len_nil w
      · exact Len_at hb
    clear h
    go_enter Tryd.func13, Tryd.ntmps13
    go_wp2_with (go_at_call 14; refine hlen.mono ?_; rintro e w' ⟨rfl, rfl⟩)
    go_ret2
    exact ⟨rfl, rfl⟩
end Go.Proofs.YtphhafaoccfdpaaDoor
