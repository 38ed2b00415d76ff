/- Walk: ring.New. -/
import Derived.Test.YtphhafaoccfdpaaDoorNew6
import Derived.Deep.AppendLies
import Derived.Deep.DeepMust
namespace Go.Proofs.YtphhafaoccfdpaaDoor
open Go.RowKit Go.Shelf Go.Lib
open Go.Proofs
set_option maxHeartbeats 800000
set_option maxRecDepth 100000
open Rg (Pt)

theorem Values_any (pa : Option Addr) (n c : Nat) (w : World) : Calls Tryd.prog 24 #[.slice pa n c] w fun e w' => e = .returned (.func (.func 41) #[] #[.pointer (some ⟨w.heap.size, 0, none⟩)]) ∧ w' = w.alloc (.cells #[.slice pa n c] 22) := by
  go_enter Tryd.func24, Tryd.ntmps24
  go_wp2
  go_ret
  exact ⟨rfl, rfl⟩

/-- the nodes that a ring takes -/
def goodNodes (zs : List Int) : List Int := (Lib.compact (zs.mergeSort fun x y => decide (x ≤ y))).filter fun x => !badNode x

theorem ownBlock_lt {w : World} {B : Nat} {e : TypeId} {k : Nat} {v : Value} {n : Nat} {xs : List Value} (h : w.ownsRow B e k v n xs) {b : Nat} (hb : v.ownBlock = some b) : b < w.heap.size := by
  obtain ⟨_, (⟨rfl, _⟩ | ⟨g, cap, cur, rfl, _, hc, _⟩)⟩ := h
  · cases hb
  · cases hb; exact block_lt_of_heap hc

theorem ownsRow_slice {w : World} {B : Nat} {e : TypeId} {k : Nat} {v : Value} {n : Nat} {xs : List Value} (h : w.ownsRow B e k v n xs) : ∃ p c, v = .slice p n c := by
  obtain ⟨_, (⟨rfl, rfl⟩ | ⟨g, cap, cur, rfl, _⟩)⟩ := h
  · exact ⟨_, _, rfl⟩
  · exact ⟨_, _, rfl⟩
theorem goodNodes_length {zs : List Int} {n : Nat} (h : zs.length ≤ n) : (goodNodes zs).length ≤ n :=
  Nat.le_trans (List.length_filter_le _ _) (Nat.le_trans (Lib.compact_length_le _) (by rw [List.length_mergeSort]; exact h))
theorem goodNodes_lt (zs : List Int) : ∀ x ∈ goodNodes zs, 0 ≤ x ∧ x < 64 := by
  intro x hx
  have := (List.mem_filter.1 hx).2
  simp [badNode] at this
  omega
/-- the points of a node -/
def ptOf (x : Int) (k : Nat) : Pt := ⟨ptS (strN [114, x.toNat, k]), x.toNat⟩
def pts16 (x : Int) (k : Nat) : List Pt := (List.range k).map (ptOf x)
def ptsUp (ns : List Int) (i : Nat) : List Pt := (ns.take i).flatMap fun x => pts16 x 16
theorem ownsRow_setCell_ne {w : World} {B : Nat} {e : TypeId} {k : Nat} {v : Value} {n : Nat} {xs : List Value} (h : w.ownsRow B e k v n xs) {p : Addr} (hp : v.ownBlock ≠ some p.block) (u : Value) : (w.setCell p u).ownsRow B e k v n xs := by
  obtain ⟨h1, (⟨rfl, h2⟩ | ⟨g, cap, cur, rfl, hg, hc, rest⟩)⟩ := h
  · exact ⟨h1, .inl ⟨rfl, h2⟩⟩
  · refine ⟨h1, .inr ⟨g, cap, cur, rfl, hg, (Below.heap_setCell w p u g (fun e => hp (by rw [← e]; rfl))).trans hc, rest⟩⟩
theorem ownsRow_some {w : World} {B : Nat} {e : TypeId} {k : Nat} {p : Option Addr} {m c : Nat} {n : Nat} {xs : List Value} (h : w.ownsRow B e k (.slice p m c) n xs) (hn : 0 < n) : ∃ g, p = some ⟨g, 0, none⟩ := by
  obtain ⟨h1, (⟨h3, h2⟩ | ⟨g, cap, cur, hv, hg, hc, rest⟩)⟩ := h
  · omega
  · cases hv; exact ⟨g, rfl⟩
theorem ownInt {w : World} {B g c n : Nat} {e : TypeId} {zs : List Int} (h : w.ownsRow B e 1 (.slice (some ⟨g, 0, none⟩) n c) zs.length (ivI zs)) {i : Nat} (hi : i < zs.length) : w.cell? ⟨g, i, none⟩ = some (.int .i64 (zs.getD i 0)) := by
  obtain ⟨h1, (⟨h3, h2⟩ | ⟨g', cap, cur, hv, hg, hc, hn, hm, hs, ht⟩)⟩ := h
  · cases h3
  · cases hv
    have hH := (holds_of_blockI hc (by simpa [ivI] using ht)) i (by simpa using hi)
    rw [Nat.zero_add] at hH
    rw [hH.1, gD hi]
    simp [hi]
theorem gD_mem {α : Type} {l : List α} {i : Nat} {d : α} (h : i < l.length) : l.getD i d ∈ l := by rw [gD h]; exact List.getElem_mem h
theorem ptsUp_succ {ns : List Int} {i : Nat} (h : i < ns.length) : ptsUp ns (i + 1) = ptsUp ns i ++ pts16 (ns.getD i 0) 16 := by
  unfold ptsUp
  rw [List.take_succ_eq_append_getElem h, List.flatMap_append, gD h]
  simp
theorem ptsUp_le (ns : List Int) (i : Nat) : (ptsUp ns i).length ≤ ns.length * 16 := by
  unfold ptsUp
  have : ∀ l : List Int, (l.flatMap fun x => pts16 x 16).length = l.length * 16 := by
    intro l
    induction l with
    | nil => rfl
    | cons x l ih => simp [pts16] at ih ⊢; omega
  rw [this, List.length_take]
  omega
theorem ptsUp_length (ns : List Int) : (ptsUp ns ns.length).length = ns.length * 16 := by
  unfold ptsUp
  rw [List.take_length]
  induction ns with
  | nil => rfl
  | cons x ns ih => simp [pts16] at ih ⊢; omega
theorem ptsUp_mem {ns : List Int} {i : Nat} {p : Pt} (h : p ∈ ptsUp ns i) : ∃ x ∈ ns, ∃ k, k < 16 ∧ p = ptOf x k := by
  unfold ptsUp at h
  obtain ⟨x, hx, hp⟩ := List.mem_flatMap.1 h
  simp [pts16] at hp
  obtain ⟨k, hk, rfl⟩ := hp
  exact ⟨x, List.mem_of_mem_take hx, k, hk, rfl⟩
theorem ownsRow_grown_ne {w w' : World} {B : Nat} {e : TypeId} {k : Nat} {v : Value} {n : Nat} {xs : List Value} {row : Option Nat} (h : w.ownsRow B e k v n xs) (hg : w.grownBy w' row) (hp : ∀ b, v.ownBlock = some b → some b ≠ row) : w'.ownsRow B e k v n xs := by
  obtain ⟨h1, (⟨rfl, h2⟩ | ⟨g, cap, cur, rfl, hgB, hc, rest⟩)⟩ := h
  · exact ⟨h1, .inl ⟨rfl, h2⟩⟩
  · exact ⟨h1, .inr ⟨g, cap, cur, rfl, hgB, (hg.block g (block_lt_of_heap hc) (hp g rfl)).trans hc, rest⟩⟩
/-- what ring.New gives -/
def NewOk (B : Nat) (w' : World) (pr : Option Addr) (ns : List Int) : Prop :=
  ∃ rb vn, pr = some ⟨rb, 0, none⟩ ∧ B ≤ rb ∧ w'.ownsRow B 3 1 vn ns.length (ivI ns) ∧ (∀ b, vn.ownBlock = some b → b < rb) ∧
    ((ns = [] ∧ w'.heap[rb]? = some (.cells #[vn, .slice none 0 0] 34 (0, 0))) ∨ (ns ≠ [] ∧ ∃ gp c, IsRing w' rb vn (sortPts (ptsUp ns ns.length)) gp c))
theorem conv3 (w : World) (x : Int) (k : Nat) (h0 : 0 ≤ x) (h1 : x < 64) (hk : k < 16) :
    (convert 62 9 (.slice (some ⟨w.heap.size, 0, none⟩) 3 3)).run Tryd.prog ((w.alloc (.cells #[.int .u8 114, .int .u8 x, .int .u8 (k : Nat)] 5)).drew) = .ok (.string (strN [114, x.toNat, k])) ((w.alloc (.cells #[.int .u8 114, .int .u8 x, .int .u8 (k : Nat)] 5)).drew) := by
  have h := run_convert_bytes_arg (P := Tryd.prog) ((w.alloc (.cells #[.int .u8 114, .int .u8 x, .int .u8 (k : Nat)] 5)).drew) 62 5 (by kernel_rfl) (by kernel_rfl) w.heap.size 0 3 3 [114, x, (k : Int)] rfl (fun i hi => by
    have hb := heap_alloc_new w (.cells #[.int .u8 114, .int .u8 x, .int .u8 (k : Nat)] 5)
    have : i = 0 ∨ i = 1 ∨ i = 2 := by omega
    rcases this with rfl | rfl | rfl <;> exact cellAt hb _) 9 (by kernel_rfl)
  rw [h]
  rfl
structure NewAt (w W : World) (rb : Nat) (vn : Value) (ns : List Int) (P : List Pt) (vp : Value) : Prop where
  below : RowKit.Below w.heap.size w W
  lo : w.heap.size ≤ rb
  nodes : W.ownsRow w.heap.size 3 1 vn ns.length (ivI ns)
  nb : ∀ b, vn.ownBlock = some b → b < rb
  blk : W.heap[rb]? = some (.cells #[vn, vp] 34 (0, 0))
  row : W.ownsRow (rb + 1) 64 2 vp P.length (flatPt P)
  nil : P = [] → vp = .slice none 0 0
def NewInv (w W : World) (rb : Nat) (vn : Value) (ns : List Int) (P : List Pt) : Prop := ∃ vp, NewAt w W rb vn ns P vp
theorem ownsRow_ext {w w' : World} {B : Nat} {e : TypeId} {k : Nat} {v : Value} {n : Nat} {xs : List Value} (h : w.ownsRow B e k v n xs) (hB : RowKit.Below w.heap.size w w') : w'.ownsRow B e k v n xs := by
  obtain ⟨h1, (⟨rfl, h2⟩ | ⟨g, cap, cur, rfl, hgB, hc, rest⟩)⟩ := h
  · exact ⟨h1, .inl ⟨rfl, h2⟩⟩
  · exact ⟨h1, .inr ⟨g, cap, cur, rfl, hgB, (hB.block g (block_lt_of_heap hc)).trans hc, rest⟩⟩
theorem NewAt.ext {w W W' : World} {rb : Nat} {vn : Value} {ns : List Int} {P : List Pt} {vp : Value} (h : NewAt w W rb vn ns P vp) (hB : RowKit.Below W.heap.size W W') : NewAt w W' rb vn ns P vp :=
  ⟨h.below.trans (hB.mono h.below.size), h.lo, ownsRow_ext h.nodes hB, h.nb, (hB.block _ (block_lt_of_heap h.blk)).trans h.blk, ownsRow_ext h.row hB, h.nil⟩
theorem NewAt.cell1 {w W : World} {rb : Nat} {vn : Value} {ns : List Int} {P : List Pt} {vp : Value} (h : NewAt w W rb vn ns P vp) : W.cell? ⟨rb, 1, none⟩ = some vp := by rw [cellAt h.blk]; rfl
theorem NewAt.hi {w W : World} {rb : Nat} {vn : Value} {ns : List Int} {P : List Pt} {vp : Value} (h : NewAt w W rb vn ns P vp) : rb < W.heap.size := block_lt_of_heap h.blk
theorem NewAt.blkApp {w W w1 : World} {rb : Nat} {vn : Value} {ns : List Int} {P : List Pt} {vp : Value} {ob : Obj} (h : NewAt w W rb vn ns P vp) (hg : (W.alloc ob).grownBy w1 vp.ownBlock) : w1.heap[rb]? = some (.cells #[vn, vp] 34 (0, 0)) :=
  grownOther h.row hg _ _ h.blk (fun c e => by cases e)
theorem NewAt.push {w W w1 : World} {rb : Nat} {vn : Value} {ns : List Int} {P : List Pt} {p : Pt} {vp : Value} {ob : Obj} {gg cap : Nat} (h : NewAt w W rb vn ns P vp) (hg : (W.alloc ob).grownBy w1 vp.ownBlock)
    (ho : w1.ownsRow (rb + 1) 64 2 (.slice (some ⟨gg, 0, none⟩) (P.length + 1) cap) (P.length + 1) (flatPt P ++ encPt p)) :
    NewAt w (w1.setCell ⟨rb, 1, none⟩ (.slice (some ⟨gg, 0, none⟩) (P.length + 1) cap)) rb vn ns (P ++ [p]) (.slice (some ⟨gg, 0, none⟩) (P.length + 1) cap) := by
  have hB1 := (grownBelow h.row hg (by have := h.hi; omega)).mono (show w.heap.size ≤ rb + 1 by have := h.lo; omega)
  refine ⟨(h.below.trans hB1).setCell (p := ⟨rb, 1, none⟩) h.lo _, h.lo, ?_, h.nb, heap_setCell_same _ _ _ _ _ _ (h.blkApp hg), ?_, fun e => by simp at e⟩
  · refine ownsRow_setCell_ne ?_ (fun e => by have := h.nb _ e; simp at this) _
    obtain ⟨h1, (⟨rfl, h2⟩ | ⟨g, cp, cur, rfl, hgB, hc, rest⟩)⟩ := h.nodes
    · exact ⟨h1, .inl ⟨rfl, h2⟩⟩
    · exact ⟨h1, .inr ⟨g, cp, cur, rfl, hgB, grownOther h.row hg _ _ hc (fun c e => by cases e), rest⟩⟩
  · have := ownsRow_setCell_below ho (a := ⟨rb, 1, none⟩) (by simp) (.slice (some ⟨gg, 0, none⟩) (P.length + 1) cap)
    simpa [flatPt] using this
theorem info_pt : (Tryd.prog.info? 64).map (fun i => (i.zero, i.size, i.bytes)) = some (some (.agg #[.int .u64 0, .int .i64 0]), 2, 16) := by kernel_rfl
theorem gwBelow {w W : World} (h : Gw w W) : RowKit.Below w.heap.size w W := by
  obtain ⟨q, os, rfl⟩ := h
  exact below_grown w q os

theorem New_any (v : Value) (zs : List Int) (w : World) (hz : zs.length ≤ 10000) (hv : SlInts w v zs) (hT : TableOk w) :
    Calls Tryd.prog 9 #[v] w fun e w' => ∃ pr, e = .returned (.pointer pr) ∧ RowKit.Below w.heap.size w w' ∧ NewOk w.heap.size w' pr (goodNodes zs) := by
  obtain ⟨pa, c, rfl, -⟩ := id hv
  replace hv := Lib.hid hv
  replace hT := Lib.hid hT
  go_enter Tryd.func9, Tryd.ntmps9
  go_wp2_with (first
    | (go_at_call 24; go_must (refine (Values_any _ _ _ _).mono ?_; rintro e w1 ⟨rfl, h1⟩; have hB1 : Hid (RowKit.Below w.heap.size w w1) := (by rw [h1]; exact (Below.refl _ _).alloc (Nat.le_refl _) _); have hc1 : Hid (w1.cell? ⟨w.heap.size, 0, none⟩ = some (.slice pa zs.length c)) := (by apply Lib.hid; rw [h1]; simp); clear h1))
    | (go_at_call 23; refine (Sorted_any _ zs w.heap.size (by omega) _ hc1.out (hv.out.below hB1.out (Nat.le_refl _))).mono ?_; rintro e w2 ⟨r, rfl, h1, h2⟩; have hr2 := Lib.hid (h1.mono_base hB1.out.size); have hB2 := Lib.hid (hB1.out.trans (h2.mono hB1.out.size)); clear h1 h2)
    | (go_at_call 22; refine (Compact_own r (zs.mergeSort fun x y => decide (x ≤ y)) _ w.heap.size (by rw [List.length_mergeSort]; omega) (by rw [List.length_mergeSort]; exact hr2.out) hB2.out.size).mono ?_; rintro e w3 ⟨r3, rfl, h1, h2⟩; obtain ⟨p3, k3, rfl⟩ := ownsRow_slice h1; have hr3 := Lib.hid h1; have hB3 := Lib.hid (hB2.out.trans h2); clear h1 h2)
    | (go_at_call 25; go_must (refine (Delete_own _ (Lib.compact (zs.mergeSort fun x y => decide (x ≤ y))) _ w.heap.size (Nat.le_trans (Lib.compact_length_le _) (by rw [List.length_mergeSort]; omega)) (hr3.out.alloc _) (Nat.le_trans hB3.out.size (by simp))).mono ?_; rintro e w5 ⟨r5, rfl, h1, h2, h3, h4⟩; have b5 : Hid (w5.heap[w3.heap.size]? = some (.cells #[.slice p3 (Lib.compact (zs.mergeSort fun x y => decide (x ≤ y))).length k3, .slice none 0 0] 34 (0, 0))) := (h3.block _ (by simp) (fun e => by have := ownBlock_lt hr3.out e.symm; omega)).trans (heap_alloc_new _ _); have c5 : w5.cell? ⟨w3.heap.size, 0, none⟩ = some (.slice p3 (Lib.compact (zs.mergeSort fun x y => decide (x ≤ y))).length k3) := (by rw [cellAt b5.out]; rfl); have f5 := freeAt b5.out 0; obtain ⟨p5, k5, rfl⟩ := ownsRow_slice h1; have hr5 := Lib.hid h1; have hB5 := Lib.hid ((hB3.out.alloc (by exact hB3.out.size) _).trans h2); have hg5 := Lib.hid h3; have ho5 := Lib.hid h4; clear h1 h2 h3 h4)))
  have hn5 : Hid ((((Lib.compact (zs.mergeSort fun x y => decide (x ≤ y))).filter fun x => !badNode x)) = goodNodes zs) := rfl
  have hl5 : (goodNodes zs).length ≤ 10000 := goodNodes_length hz
  have ha5 := Lib.hid (goodNodes_lt zs)
  rw [hn5.out] at hr5 ho5
  rw [hn5.out]
  clear hn5
  generalize hgn : goodNodes zs = ns at *
  replace hgn := Lib.hid hgn
  obtain ⟨W6, hW6⟩ : ∃ W6, W6 = w5.setCell ⟨w3.heap.size, 0, none⟩ (.slice p5 ns.length k5) := ⟨_, rfl⟩
  try rw [← hW6]
  have hI : NewInv w W6 w3.heap.size (.slice p5 ns.length k5) ns [] := by
    rw [hW6]
    refine ⟨_, hB5.out.setCell (p := ⟨w3.heap.size, 0, none⟩) hB3.out.size _, hB3.out.size, ownsRow_setCell_ne hr5.out (fun e => by rw [ho5.out] at e; have := ownBlock_lt hr3.out e; simp at this) _, fun b hb => ?_, heap_setCell_same _ _ _ _ _ _ b5.out, World.ownsRow_nil _ _ _ _, fun _ => rfl⟩
    rw [ho5.out] at hb
    exact ownBlock_lt hr3.out hb
  go_loopw [26] (fun s26 wr => ∃ i, i ≤ ns.length ∧ s26 = .int .i64 (i : Nat) ∧ NewInv w wr w3.heap.size (.slice p5 ns.length k5) ns (ptsUp ns i)) (fun s26 wr => ns.length - (intOf s26).toNat)
  case atStart => exact ⟨0, by omega, rfl, hI⟩
  case round =>
    obtain ⟨i, hi, rfl, hJ⟩ := hrel
    obtain ⟨vp, hB, hlo, hnod, hnb, hblk, hrow, hnil⟩ := id hJ
    by_cases hlt : i < ns.length
    · obtain ⟨g5, rfl⟩ : ∃ g5, p5 = some ⟨g5, 0, none⟩ := ownsRow_some hnod (by omega)
      have cN : wr.cell? ⟨g5, i, none⟩ = some (.int .i64 (ns.getD i 0)) := ownInt hnod hlt
      have hx := ha5.out _ (gD_mem (d := 0) hlt)
      generalize hxx : ns.getD i 0 = x at *
      have hP : Hid (ptsUp ns (i + 1) = ptsUp ns i ++ pts16 x 16) := by rw [← hxx]; exact ptsUp_succ hlt
      replace hxx := Lib.hid hxx
      replace hJ := Lib.hid hJ
      have hltI : (i : Int) < (ns.length : Int) := by omega
      clear hB hlo hnod hnb hblk hrow hnil
      go_wp2
      go_loopw [30] (fun s30 wr' => ∃ k, k ≤ 16 ∧ s30 = .int .i64 (k : Nat) ∧ NewInv w wr' w3.heap.size (.slice (some ⟨g5, 0, none⟩) ns.length k5) ns (ptsUp ns i ++ pts16 x k)) (fun s30 wr' => 16 - (intOf s30).toNat)
      case atStart => exact ⟨0, by omega, rfl, by simpa [pts16] using hJ.out⟩
      case round =>
        obtain ⟨k, hk, rfl, hK⟩ := hrel
        by_cases hk2 : k < 16
        · obtain ⟨vp, hK⟩ := hK
          have cP := hK.cell1
          have fP := freeAt hK.blk 1
          have bP := hK.hi
          have hPl : (ptsUp ns i ++ pts16 x k).length ≤ 200000 := by
            have := ptsUp_le ns i
            simp [pts16]; omega
          generalize hPP : ptsUp ns i ++ pts16 x k = PP at *
          have hP2 : Hid (ptsUp ns i ++ pts16 x (k + 1) = PP ++ [ptOf x k]) := by
            apply Lib.hid; rw [← hPP]; simp [pts16, List.range_succ]
          replace hPP := Lib.hid hPP
          have hk2I : (k : Int) < 16 := by omega
          have e1 : IntKind.u8.wrap x = x := by simp only [IntKind.wrap_u8]; omega
          have e2 : IntKind.u8.wrap (k : Int) = (k : Int) := by simp only [IntKind.wrap_u8]; omega
          have hconv := conv3 wr x k hx.1 hx.2 hk2
          have hS : (strN [114, x.toNat, k]).size ≤ 281474976710656 := by rw [strN_size]; simp
          have hpe : Hid ((encPt (ptOf x k)) = [.int .u64 (ptS (strN [114, x.toNat, k]) : Nat), .int .i64 x]) := by
            apply Lib.hid; simp [encPt, ptOf]; omega
          replace hK := Lib.hid hK
          replace hPl := Lib.hid hPl
          obtain ⟨ip, hip, hz0, hz1, hz2⟩ := info_parts info_pt
          go_wp2
          go_region_law (first
            | (refine step_append_lies _ (by rfl) (.tmp 37) (.tmp 48) 32 (by rfl) (w3.heap.size + 1) 64 ip _ 2 16 (by kernel_rfl) hip hz0 hz1 hz2 rfl (by omega) vp PP.length (flatPt PP) (by rfl) (hK1.out.row.alloc _) ⟨W1.heap.size, 0, none⟩ 1 1 [.int .u64 (ptS (strN [114, x.toNat, k]) : Nat), .int .i64 x] (by rfl) rfl (World.news_of_block (cs := #[.int .u64 (ptS (strN [114, x.toNat, k]) : Nat), .int .i64 x]) (t := 64) (fr := (0, 0)) (heap_alloc_new W1 _)) (by simp [Value.oneCell']) (by omega) (by have := hPl.out; unfold maxLen; omega) (by have := hPl.out; omega) (by have := hK1.out.hi; simp; omega) (W1.heap.size + 1) (by simp) ?_; intro gg cap w1 hown1 hgrow hat hlt; have c7 : w1.cell? ⟨w3.heap.size, 1, none⟩ = some vp := (by rw [cellAt (hK1.out.blkApp hgrow)]; rfl); have f7 := freeAt (hK1.out.blkApp hgrow) 1; have hown1' := Lib.hid hown1; have hgrow' := Lib.hid hgrow; have hat' := Lib.hid hat; clear hown1 hgrow hat)
            | (go_simp; go_at_call 27; refine (Point_any (strN [114, x.toNat, k]) _ _ _ hS (by simp) (hT.out.below (hK.out.ext (gwBelow (by repeat (first | exact Gw.refl _ | apply Gw.alloc | apply Gw.drew)))).below (Nat.le_refl _))).mono ?_; rintro e W1 ⟨rfl, h0⟩; have hK1 := Lib.hid ((hK.out.ext (gwBelow (by repeat (first | exact Gw.refl _ | apply Gw.alloc | apply Gw.drew)))).ext h0); have cW1 := hK1.out.cell1; have fW1 := freeAt hK1.out.blk 1; have bW1 := hK1.out.hi; clear h0))
          all_goals
            have hpush := Lib.hid (hK1.out.push (p := ptOf x k) hgrow'.out (by rw [hpe.out]; exact hown1'.out))
            have hwk : IntKind.i64.wrap ((k : Int) + 1) = ((k + 1 : Nat) : Int) := by rw [IntWalk.i64_in _ (by omega)]; omega
            clear hown1' hgrow' hat' hK1 hK hconv hpe
            go_wp2
            refine ⟨⟨k + 1, by omega, by simp [hwk], ?_⟩, by simp [intOf, hwk]; omega⟩
            rw [hP2.out]; exact ⟨_, hpush.out⟩
        · obtain rfl : k = 16 := by omega
          have hK' := Lib.hid hK
          have hwi : IntKind.i64.wrap ((i : Int) + 1) = ((i + 1 : Nat) : Int) := by rw [IntWalk.i64_in _ (by omega)]; omega
          clear hK
          go_wp2
          refine ⟨⟨i + 1, by omega, by simp [hwi], ?_⟩, by simp [intOf, hwi]; omega⟩
          rw [hP.out]; exact hK'.out
    · obtain rfl : i = ns.length := by omega
      have hcP : wr.cell? ⟨w3.heap.size, 1, none⟩ = some vp := by rw [cellAt hblk]; rfl
      have hPl : (ptsUp ns ns.length).length ≤ 1000000 := by rw [ptsUp_length]; omega
      obtain ⟨hl, (⟨rfl, h0⟩ | ⟨g, cap, cur, rfl, hg, hc, hn, hm, hs, ht⟩)⟩ := id hrow
      · have hnn : ns = [] := by rw [ptsUp_length] at h0; exact List.length_eq_zero_iff.1 (by omega)
        go_wp2_with (go_at_call 28; refine (AnyF.slices_SortFunc_none Tryd.sortP none 0 _ _).mono ?_; rintro e w' ⟨rfl, rfl⟩)
        go_ret
        rw [hgn.out]
        exact ⟨_, rfl, hB, _, _, rfl, hlo, hnod, hnb, .inl ⟨hnn, hblk⟩⟩
      · replace hg := Lib.hid hg
        replace hc := Lib.hid hc
        replace ht := Lib.hid ht
        go_wp2_with (go_at_call 28; refine (SortPts_own (ptsUp ns ns.length) g cap cur _ hPl hc.out ht.out).mono ?_; rintro e w' ⟨rfl, h1, h2⟩; have h1' := Lib.hid h1; have h2' := Lib.hid h2; clear h1 h2)
        go_ret
        have hne : ns ≠ [] := by
          rintro rfl
          have := hnil (by simp [ptsUp])
          cases this
        rw [hgn.out]
        have hgo := hg.out
        have hgl := block_lt_of_heap hc.out
        refine ⟨_, rfl, hB.grown h2'.out hB.size (fun k hk => by cases hk; omega), _, _, rfl, hlo, ownsRow_grown_ne hnod h2'.out (fun b hb e => by cases e; have := hnb _ hb; omega), hnb, .inr ⟨hne, g, cap, ?_, h1'.out, Nat.lt_of_lt_of_le hgl h2'.out.size, ?_, ?_, ?_, sortPts_rising _⟩⟩
        · rw [sortPts_length, h2'.out.block _ (block_lt_of_heap hblk) (fun e => by cases e; omega)]; exact hblk
        · intro e
          have := congrArg List.length e
          rw [sortPts_length, ptsUp_length] at this
          exact hne (List.length_eq_zero_iff.1 (by simp at this; omega))
        · rw [sortPts_length]; exact hPl
        · intro j hj
          have hm := (sortPts_perm _).mem_iff.1 (gD_mem (d := Rg.d0) hj)
          obtain ⟨x, hx, y, hy, e⟩ := ptsUp_mem hm
          rw [e]
          have := ha5.out x hx
          simp [ptOf]; omega
end Go.Proofs.YtphhafaoccfdpaaDoor
