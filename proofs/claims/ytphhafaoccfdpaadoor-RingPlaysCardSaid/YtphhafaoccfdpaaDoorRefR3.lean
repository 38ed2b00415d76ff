/- Walks: the reference's Points. -/
import Derived.Test.YtphhafaoccfdpaaDoorRefR2
import Derived.Test.YtphhafaoccfdpaaDoorKey
import Derived.Deep.RegionHeld3
import Derived.Laws.AppendOwnNone
import Derived.Deep.DeepCutAuto
import Derived.Deep.Cut
import Derived.Deep.CutBlock
namespace Go.Proofs.YtphhafaoccfdpaaDoor
open Go.RowKit Go.Shelf Go.Lib
open Go.Proofs
set_option maxHeartbeats 1600000
set_option maxRecDepth 100000
open Rg (Pt)

/-- 'append(dst, src...)' of the call's own, whatever the source is: nil, or with an address -/
theorem wpAppAny {P : Program} {w : World} {ops : Array Oper} {rest : List Oper} {o : Oper} {a : Act} {Q : Exit → Act → World → Prop} (hgd : o.guard = none) (s x : Operand) (t : TypeId)
    (ho : o.op = .call { callee := .builtin .append, args := #[s, x], argTypes := #[t, t] })
    (base : Nat) (e : TypeId) (i : TypeInfo) (z : Value) (size bytes : Nat) (ht : P.underlying t = some (.slice e)) (hi : P.info? e = some i) (hz : i.zero = some z)
    (hsize : i.size = size) (hby : i.bytes = bytes) (hzs : z.cells.size = size) (hsz : 0 < size)
    (v : Value) (n : Nat) (xs : List Value) (hs : a.eval s = v) (hown : w.ownsRow base e size v n xs)
    (px : Option Addr) (m c : Nat) (news : List Value) (hx : a.eval x = .slice px m c) (hl : news.length = m * size)
    (hsrc : (px = none ∧ m = 0 ∧ c = 0) ∨ ∃ ad, px = some ad ∧ ∀ j u, news[j]? = some u → w.cell? (ad.add j) = some u) (h1 : ∀ u ∈ news, u.oneCell' = true)
    (h63 : n + m ≤ maxLen) (hbytes : (n + m) * bytes ≤ 140737488355328) (hbase : base ≤ w.heap.size)
    (h : ∀ v' w', w'.ownsRow base e size v' (n + m) (xs ++ news) → w.grownBy w' v.ownBlock → wpList P ops Q rest (a.put o.dst v') w') : wpList P ops Q (o :: rest) a w := by
  rcases hsrc with ⟨rfl, rfl, rfl⟩ | ⟨ad, rfl, hn⟩
  · have hn : news = [] := List.length_eq_zero_iff.1 (by simpa using hl)
    subst hn
    refine wpList_append_own_none hgd s x t ho base e i size ht hi v n xs hs hown hx (h v w ?_ ⟨rfl, rfl, rfl, Nat.le_refl _, fun _ _ _ => rfl⟩)
    simpa using hown
  · exact wpList_append_own _ hgd s x t ho base e i z size bytes ht hi hz hsize hby hzs hsz v n xs hs hown ad m c news hx hl hn h1 h63 hbytes hbase fun v' w' h2 h3 _ => h v' w' h2 h3

theorem conv3R (a b c : Nat) : ∀ (W : World) (g : Nat), W.cell? ⟨g, 0, none⟩ = some (.int .u8 (a : Int)) → W.cell? ⟨g, 1, none⟩ = some (.int .u8 (b : Int)) → W.cell? ⟨g, 2, none⟩ = some (.int .u8 (c : Int)) →
    (convert 62 9 (.slice (some ⟨g, 0, none⟩) 3 3)).run Tryd.prog W = .ok (.string (strN [a, b, c])) W := by
  intro W g h0 h1 h2
  have h := run_convert_bytes_arg (P := Tryd.prog) W 62 5 (by kernel_rfl) (by kernel_rfl) g 0 3 3 [(a : Int), (b : Int), (c : Int)] rfl (fun i hi => by
    have : i = 0 ∨ i = 1 ∨ i = 2 := by omega
    rcases this with rfl | rfl | rfl
    · exact h0
    · exact h1
    · exact h2) 9 (by kernel_rfl)
  rw [h]
  rfl
theorem info_rp : (Tryd.prog.info? 50).map (fun i => (i.zero, i.size, i.bytes)) = some (some (.agg #[.int .u64 0, .int .i64 0]), 2, 16) := by kernel_rfl

structure PJ (w1 W : World) (vo : Value) (Q : List Pt) : Prop where
  row : W.ownsRow w1.heap.size 50 2 vo Q.length (flatPt Q)
  below : RowKit.Below w1.heap.size w1 W
theorem PJ.ext {w1 W W' : World} {vo : Value} {Q : List Pt} (h : PJ w1 W vo Q) (hB : RowKit.Below W.heap.size W W') : PJ w1 W' vo Q :=
  ⟨ownsRow_ext h.row hB, h.below.trans (hB.mono h.below.size)⟩

abbrev PK (w1 : World) (vo : Value) (Q : List Pt) (bn of xn : Nat) (W : World) : Prop := Hid (PJ w1 W vo Q) ∧ W.cell? ⟨bn, of, none⟩ = some (.int .i64 (xn : Int))
theorem PK.alloc {w1 W : World} {vo : Value} {Q : List Pt} {bn of xn : Nat} (h : PK w1 vo Q bn of xn W) (o : Obj) : PK w1 vo Q bn of xn (W.alloc o) :=
  ⟨h.1.out.ext ((Below.refl _ _).alloc (Nat.le_refl _) _), Lib.cell?_alloc_some _ h.2⟩
theorem PK.ext {w1 W W1 : World} {vo : Value} {Q : List Pt} {bn of xn : Nat} (h : PK w1 vo Q bn of xn W) (hB : RowKit.Below W.heap.size W W1) : PK w1 vo Q bn of xn W1 :=
  ⟨h.1.out.ext hB, (hB.cell (p := ⟨bn, of, none⟩) (block_lt_of_cell h.2)).trans h.2⟩
theorem kP1 {W W1 : World} {a b : Value} {T : TypeId} {o : Obj} (h : RowKit.Below (((W.alloc (.cells #[a, b] T)).alloc o).drew).heap.size (((W.alloc (.cells #[a, b] T)).alloc o).drew) W1) :
    W1.cell? ⟨W.heap.size, 0, none⟩ = some a ∧ W1.cell? ⟨W.heap.size, 1, none⟩ = some b ∧ W1.frozen? ⟨W.heap.size, 0, none⟩ = false ∧ W1.frozen? ⟨W.heap.size, 1, none⟩ = false ∧ W.heap.size < W1.heap.size ∧ W1.heap[W.heap.size]? = some (.cells #[a, b] T) := by
  have hb : W1.heap[W.heap.size]? = some (.cells #[a, b] T) := (h.block W.heap.size (by simp; omega)).trans ((Below.heap_alloc (W.alloc (.cells #[a, b] T)) o _ (by simp)).trans (heap_alloc_new W (.cells #[a, b] T)))
  exact ⟨cellAt hb 0, cellAt hb 1, freeAt hb 0, freeAt hb 1, block_lt_of_heap hb, hb⟩
theorem kP2 {W W1 : World} {a b : Value} {T : TypeId} {o : Obj} (h : RowKit.Below (((W.alloc o).alloc (.cells #[a, b] T)).drew).heap.size (((W.alloc o).alloc (.cells #[a, b] T)).drew) W1) :
    W1.cell? ⟨W.heap.size + 1, 0, none⟩ = some a ∧ W1.cell? ⟨W.heap.size + 1, 1, none⟩ = some b ∧ W1.frozen? ⟨W.heap.size + 1, 0, none⟩ = false ∧ W1.frozen? ⟨W.heap.size + 1, 1, none⟩ = false ∧ W.heap.size + 1 < W1.heap.size ∧ W1.heap[W.heap.size + 1]? = some (.cells #[a, b] T) := by
  have h0 := heap_alloc_new (W.alloc o) (.cells #[a, b] T)
  simp only [World.size_alloc] at h0
  have hb : W1.heap[W.heap.size + 1]? = some (.cells #[a, b] T) := (h.block (W.heap.size + 1) (by simp)).trans h0
  exact ⟨cellAt hb 0, cellAt hb 1, freeAt hb 0, freeAt hb 1, block_lt_of_heap hb, hb⟩
theorem two_cells {W : World} {b : Nat} {a c u v : Value} {T : TypeId} (h : W.heap[b]? = some (.cells #[a, c] T)) :
    ((W.setCell ⟨b, 0, none⟩ u).setCell ⟨b, 1, none⟩ v).cell? ⟨b, 0, none⟩ = some u ∧ ((W.setCell ⟨b, 0, none⟩ u).setCell ⟨b, 1, none⟩ v).cell? ⟨b, 1, none⟩ = some v := by
  have h1 := heap_setCell_same W b 0 _ T u h
  have h2 := heap_setCell_same _ b 1 _ T v h1
  rw [cellAt h2, cellAt h2]
  exact ⟨rfl, rfl⟩
theorem pts_own {W : World} {B c : Nat} {T : TypeId} {po : Option Addr} {Q : List Pt} (h : W.ownsRow B T 2 (.slice po Q.length c) Q.length (flatPt Q)) (hq : 0 < Q.length) : ∃ g, po = some ⟨g, 0, none⟩ ∧ PtsAt W g Q := by
  obtain ⟨_, (⟨h3, h2⟩ | ⟨g, cap, cur, hv, hg, hc, hn, hm, hs, ht⟩)⟩ := h
  · omega
  · cases hv; exact ⟨g, rfl, ptsAt_of (holdsPt hc ht)⟩
theorem own_parts {W : World} {B c : Nat} {T : TypeId} {po : Option Addr} {Q : List Pt} (h : W.ownsRow B T 2 (.slice po Q.length c) Q.length (flatPt Q)) (hq : 0 < Q.length) :
    ∃ g cur, po = some ⟨g, 0, none⟩ ∧ W.heap[g]? = some (.cells cur T (0, 0)) ∧ cur.toList.take (Q.length * 2) = flatPt Q ∧ Q.length ≤ c := by
  obtain ⟨_, (⟨h3, h2⟩ | ⟨g, cap, cur, hv, hg, hc, hn, hm, hs, ht⟩)⟩ := h
  · omega
  · cases hv; exact ⟨g, cur, rfl, hc, ht, hn⟩
theorem flatPt_take : ∀ (Q : List Pt) (a : Nat), flatPt (Q.take a) = (flatPt Q).take (a * 2)
  | [], a => by simp [flatPt]
  | p :: Q, 0 => by simp [flatPt]
  | p :: Q, a + 1 => by
    have := flatPt_take Q a
    simp only [flatPt, List.take_succ_cons, List.flatMap_cons] at this ⊢
    rw [this, show (a + 1) * 2 = a * 2 + 2 by omega, List.take_append]
    simp [encPt]
theorem flatPt_drop : ∀ (Q : List Pt) (a : Nat), flatPt (Q.drop a) = (flatPt Q).drop (a * 2)
  | [], a => by simp [flatPt]
  | p :: Q, 0 => by simp [flatPt]
  | p :: Q, a + 1 => by
    have := flatPt_drop Q a
    simp only [flatPt, List.drop_succ_cons, List.flatMap_cons] at this ⊢
    rw [this, show (a + 1) * 2 = a * 2 + 2 by omega, List.drop_append]
    simp [encPt]
theorem flatPt_one (Q : List Pt) : ∀ u ∈ flatPt Q, u.oneCell' = true := by
  intro u hu
  obtain ⟨p, _, hp⟩ := List.mem_flatMap.1 hu
  simp [encPt] at hp
  rcases hp with rfl | rfl <;> rfl
theorem newsQ0 {W : World} {g a : Nat} {cur : Array Value} {T : TypeId} {Q : List Pt} (hb : W.heap[g]? = some (.cells cur T (0, 0))) (ht : cur.toList.take (Q.length * 2) = flatPt Q) (ha : a ≤ Q.length) :
    ∀ j u, (flatPt (Q.take a))[j]? = some u → W.cell? ((⟨g, 0, none⟩ : Addr).add j) = some u := by
  intro j u hj
  have hjl : j < a * 2 := by
    rcases Nat.lt_or_ge j (a * 2) with h | h
    · exact h
    · rw [List.getElem?_eq_none (by rw [flatPt_length, List.length_take]; omega)] at hj; cases hj
  rw [flatPt_take, List.getElem?_take_of_lt hjl, ← ht, List.getElem?_take_of_lt (by omega), Array.getElem?_toList] at hj
  have e : (⟨g, 0, none⟩ : Addr).add j = ⟨g, j, none⟩ := by unfold Addr.add; split <;> simp_all
  rw [e, cellAt hb, hj]
theorem newsQ1 {W : World} {g a : Nat} {cur : Array Value} {T : TypeId} {Q : List Pt} (hb : W.heap[g]? = some (.cells cur T (0, 0))) (ht : cur.toList.take (Q.length * 2) = flatPt Q) (ha : a ≤ Q.length) :
    ∀ j u, (flatPt (Q.drop a))[j]? = some u → W.cell? ((⟨g, a * 2, none⟩ : Addr).add j) = some u := by
  intro j u hj
  have hjl : j < (Q.length - a) * 2 := by
    rcases Nat.lt_or_ge j ((Q.length - a) * 2) with h | h
    · exact h
    · rw [List.getElem?_eq_none (by rw [flatPt_length, List.length_drop]; omega)] at hj; cases hj
  rw [flatPt_drop, List.getElem?_drop, ← ht, List.getElem?_take_of_lt (by omega), Array.getElem?_toList] at hj
  have e : (⟨g, a * 2, none⟩ : Addr).add j = ⟨g, a * 2 + j, none⟩ := by unfold Addr.add; split <;> simp_all
  rw [e, cellAt hb, hj]
theorem grownBelowX {W w1 : World} {base : Nat} {e : TypeId} {size : Nat} {v : Value} {n : Nat} {xs : List Value} (hrow : W.ownsRow base e size v n xs) (hg : W.grownBy w1 v.ownBlock) (hb : base ≤ W.heap.size) : RowKit.Below base W w1 := by
  refine Below.grown (Below.refl base W) hg hb ?_
  intro k hk
  obtain ⟨_, (⟨rfl, _⟩ | ⟨g, cap, cur, rfl, hbg, _, _⟩)⟩ := hrow
  · simp [Value.ownBlock] at hk
  · simp [Value.ownBlock] at hk; omega
theorem grownBelow0 {W W1 : World} (h : W.grownBy W1 (Value.slice none 0 0).ownBlock) : RowKit.Below W.heap.size W W1 :=
  ⟨h.os, h.tape, h.output, h.size, fun k hk => h.block k hk (fun e => by cases e)⟩
theorem PK.set {w1 W wr : World} {vo : Value} {Q : List Pt} {bn of xn : Nat} (h : PK w1 vo Q bn of xn W) (p : Addr) (u : Value) (hp : wr.heap.size ≤ p.block) (ho : ∀ g, vo.ownBlock = some g → g < wr.heap.size) (hb : bn < wr.heap.size) (_ : True) (hw : w1.heap.size ≤ wr.heap.size) :
    PK w1 vo Q bn of xn (W.setCell p u) :=
  ⟨⟨ownsRow_setCell_ne h.1.out.row (fun e => by have := ho _ e; omega) u, h.1.out.below.setCell (by omega) u⟩, by
    rw [World.cell?_of_block (w := W) (Below.heap_setCell W p u bn (by omega))]; exact h.2⟩
theorem pointsR_any (v : Value) (zs : List Int) (w : World) (hz : zs.length ≤ 1000000) (hv : SlInts w v zs) :
    Calls Tryd.prog 16 #[v] w fun e w' =>
      ∃ v', e = .returned v' ∧ w'.ownsRow w.heap.size 50 2 v' (sortPts (ptsUp (refNodes zs 64) (refNodes zs 64).length)).length (flatPt (sortPts (ptsUp (refNodes zs 64) (refNodes zs 64).length))) ∧ Below w.heap.size w w' := by
  have hnl := refNodes_length zs 64
  have hnm : Hid (∀ x ∈ refNodes zs 64, 0 ≤ x ∧ x < 64) := fun x hx => (refNodes_mem.1 hx).2
  go_enter Tryd.func16, Tryd.ntmps16
  go_wp2_with (go_at_call 20; refine (nodesR_any v zs w hz hv).mono ?_; rintro e w1 ⟨v1, rfl, h1, h2⟩; obtain ⟨pn, cn, rfl⟩ := ownsRow_slice h1; have hO1 := Lib.hid (slInts_own h1); have hB1 := Lib.hid h2; clear h1 h2)
  generalize hns : refNodes zs 64 = ns at *
  replace hns := Lib.hid hns
  have hI : PJ w1 w1 (.slice none 0 0) (insAll (ptsUp ns 0)) := ⟨by simpa [ptsUp, insAll, flatPt] using World.ownsRow_nil w1 w1.heap.size 50 2, Below.refl _ _⟩
  replace hI := Lib.hid hI
  go_loopw [3, 5, 6, 7, 8, 9] (fun vo i _ _ _ _ wr => ∃ (k : Nat) (p : Option Addr) (c : Nat), k ≤ ns.length ∧ i = .int .i64 k ∧ vo = .slice p (insAll (ptsUp ns k)).length c ∧ Hid ((insAll (ptsUp ns k)).length = 0 → p = none ∧ c = 0) ∧ Hid (PJ w1 wr (.slice p (insAll (ptsUp ns k)).length c) (insAll (ptsUp ns k)))) (fun _ i _ _ _ _ _ => ns.length - (intOf i).toNat)
  case atStart => exact ⟨0, none, 0, by omega, rfl, rfl, fun _ => ⟨rfl, rfl⟩, hI⟩
  case round =>
    obtain ⟨i, po0, co0, hi, rfl, rfl, hN0, hJ⟩ := hrel
    clear hI
    by_cases hlt : i < ns.length
    · obtain ⟨bn, on, rfl, cN0⟩ := slInts_at hO1.out i hlt
      have hx := hnm.out _ (gD_mem (d := 0) hlt)
      generalize hxx : ns.getD i 0 = x at *
      have hP : Hid (ptsUp ns (i + 1) = ptsUp ns i ++ pts16 x 16) := by rw [← hxx]; exact ptsUp_succ hlt
      replace hxx := Lib.hid hxx
      have hbn := block_lt_of_cell cN0
      have hltI : (i : Int) < (ns.length : Int) := by omega
      have hil := ptsUp_le ns i
      go_wp2
      go_loopw [3, 6, 7, 8, 9] (fun vo k _ _ _ wr => ∃ (q : Nat) (p : Option Addr) (c : Nat), q ≤ 16 ∧ k = .int .i64 q ∧ vo = .slice p (insAll (ptsUp ns i ++ pts16 x q)).length c ∧ Hid ((insAll (ptsUp ns i ++ pts16 x q)).length = 0 → p = none ∧ c = 0) ∧ Hid (PJ w1 wr (.slice p (insAll (ptsUp ns i ++ pts16 x q)).length c) (insAll (ptsUp ns i ++ pts16 x q)))) (fun _ k _ _ _ _ => 16 - (intOf k).toNat)
      case atStart => exact ⟨0, po0, co0, by omega, rfl, by simp [pts16], by simpa [pts16] using hN0, by simpa [pts16] using hJ⟩
      case round =>
        clear hJ
        clear hN0
        obtain ⟨q, po, co, hq, rfl, rfl, hN, hJ⟩ := hrel
        by_cases hlq : q < 16
        · have cN := (hJ.out.below.cell (p := ⟨bn, on + i, none⟩) hbn).trans cN0
          have hPl : (insAll (ptsUp ns i ++ pts16 x q)).length ≤ 200000 := by
            rw [insAll_length]; simp [pts16]; omega
          have hP2 : Hid (insAll (ptsUp ns i ++ pts16 x (q + 1)) = insPt (insAll (ptsUp ns i ++ pts16 x q)) (ptOf x q)) := by
            show _ = _; rw [← insAll_snoc]; simp [pts16, List.range_succ]
          generalize insAll (ptsUp ns i ++ pts16 x q) = Q at *
          obtain ⟨xn, hxn⟩ := Int.eq_ofNat_of_zero_le hx.1
          have hxn64 : xn < 64 := by have := hx.2; omega
          have hpo : Hid (ptOf x q = ⟨ptS (strN [114, xn, q]), xn⟩) := by show _ = _; rw [hxn]; simp [ptOf]
          rw [hxn] at cN
          clear hx
          replace hxn := Lib.hid hxn
          have e1 : IntKind.u8.wrap (xn : Int) = (xn : Int) := by simp only [IntKind.wrap_u8]; omega
          have e2 : IntKind.u8.wrap (q : Int) = (q : Int) := by simp only [IntKind.wrap_u8]; omega
          have hconv := conv3R 114 xn q
          have hS : (strN [114, xn, q]).size ≤ 281474976710656 := by rw [strN_size]; simp
          have hpt := fun w => pointR_any (strN [114, xn, q]) w hS
          generalize strN [114, xn, q] = sp at *
          replace hpt := Lib.hid hpt
          have hplt := ptS_lt sp
          generalize ptS sp = pa at *
          have hbw : bn < wr.heap.size := Nat.lt_of_lt_of_le hbn hJ.out.below.size
          have how : Hid (∀ g, (Value.slice po Q.length co).ownBlock = some g → g < wr.heap.size) := fun g hg => ownBlock_lt hJ.out.row hg
          go_upto_region 9 with (fail)
          go_cut [7] (fun s7 wx => ∃ g : Nat, s7 = .pointer (some ⟨g, 0, none⟩) ∧ wx.cell? ⟨g, 0, none⟩ = some (.int .u64 (pa : Nat)) ∧ wx.cell? ⟨g, 1, none⟩ = some (.int .i64 (xn : Int)) ∧ Hid (PJ w1 wx (.slice po Q.length co) Q))
          case first =>
            go_region_held (fun W' => Hid (PJ w1 W' (.slice po Q.length co) Q) ∧ W'.cell? ⟨bn, on + i, none⟩ = some (.int .i64 (xn : Int)))
              (first
                | assumption
                | exact ⟨PJ.ext hJ.out ((Below.refl _ _).drew), cN⟩
                | exact PK.alloc (by assumption) _
                | exact PK.set (PK.set (by assumption) _ _ (by simp) how.out hbw trivial hJ.out.below.size) _ _ (by simp) how.out hbw trivial hJ.out.below.size)
              (first
                | (go_at_call 36; refine (hpt.out _).mono ?_; rintro e W1 ⟨rfl, h0⟩; have hS1 := PK.ext (by assumption) h0; (first | (have qq := kP1 h0; clear h0; obtain ⟨q0, q1, q2, q3, q4, q5⟩ := qq; replace q5 := Lib.hid q5) | (have qq := kP2 h0; clear h0; obtain ⟨q0, q1, q2, q3, q4, q5⟩ := qq; replace q5 := Lib.hid q5) | (clear h0))))
            all_goals
              rename_i hE
              obtain ⟨hG, -⟩ := hE
              go_wp2_with fail
              go_meet
              refine ⟨_, rfl, ?_, ?_, hG⟩
              · first | (simp; done) | exact (two_cells q5.out).1 | exact (two_cells q5.out).2
              · first | (simp; done) | exact (two_cells q5.out).1 | exact (two_cells q5.out).2
          case rest =>
            obtain ⟨g, rfl, c0, c1, hJ2⟩ := hcut
            have hdec : Hid (∀ j, j < Q.length → ∃ g2, po = some ⟨g2, 0, none⟩ ∧ wc.cell? ⟨g2, j * 2, none⟩ = some (.int .u64 ((Q.getD j Rg.d0).at_ : Nat)) ∧ wc.cell? ⟨g2, j * 2 + 1, none⟩ = some (.int .i64 ((Q.getD j Rg.d0).node : Nat))) := fun j hj => by
              obtain ⟨g2, hg2, hp2⟩ := pts_own hJ2.out.row (by omega)
              exact ⟨g2, hg2, (hp2 j hj).1, (hp2 j hj).2⟩
            go_upto_block 4 with (fail)
            go_cut [8] (fun s8 wx => ∃ n : Nat, s8 = .int .i64 (posPt Q ⟨pa, xn⟩ : Nat) ∧ wx = wc.drewN n)
            case first =>
              go_wp2_with fail
              go_loopw [8] (fun s8 wr' => ∃ a n : Nat, a ≤ Q.length ∧ s8 = .int .i64 (a : Nat) ∧ Hid (∀ j, j < a → ltPt (Q.getD j Rg.d0) ⟨pa, xn⟩ = true) ∧ wr' = wc.drewN n) (fun s8 _ => Q.length - (intOf s8).toNat)
              case atStart => exact ⟨0, 0, by omega, rfl, fun j hj => by omega, rfl⟩
              case round =>
                obtain ⟨a, n, ha, rfl, hlo, rfl⟩ := hrel
                by_cases hal : a < Q.length
                · obtain ⟨g2, rfl, d0, d1⟩ := hdec.out a hal
                  have hiff : Hid (ltPt (Q.getD a Rg.d0) ⟨pa, xn⟩ = true ↔ ((Q.getD a Rg.d0).at_ < pa ∨ ((Q.getD a Rg.d0).at_ = pa ∧ (Q.getD a Rg.d0).node < xn))) := ltPt_iff _ _
                  generalize (Q.getD a Rg.d0).at_ = ya at *
                  generalize (Q.getD a Rg.d0).node = yn at *
                  have halI : (a : Int) < (Q.length : Int) := by omega
                  have hlod : Hid (ltPt (Q.getD a Rg.d0) ⟨pa, xn⟩ = true → ∀ j, j < a + 1 → ltPt (Q.getD j Rg.d0) ⟨pa, xn⟩ = true) := fun h j hj => by
                    by_cases e : j = a
                    · subst e; exact h
                    · exact hlo.out j (by omega)
                  have hex : Hid (ltPt (Q.getD a Rg.d0) ⟨pa, xn⟩ = false → posPt Q ⟨pa, xn⟩ = a) := fun h => posPt_of ha hlo.out (fun _ => h)
                  clear hdec hlo
                  by_cases t1 : ya < pa
                  · have hT := hlod.out (hiff.out.2 (.inl t1))
                    replace hT := Lib.hid hT
                    have t1I : (ya : Int) < (pa : Int) := by omega
                    clear hex hlod hiff
                    go_wp2_with fail
                    go_quiet (fail)
                    go_wp2
                    go_roundw
                    case rel => exact ⟨a + 1, _, by omega, by go_num, hT, rfl⟩
                    case measure => simp [intOf]; omega
                  · have t1I : ¬ (ya : Int) < (pa : Int) := by omega
                    have t1D : decide (ya < pa) = false := decide_eq_false t1
                    by_cases t2 : ya = pa
                    · by_cases t3 : yn < xn
                      · have hT := hlod.out (hiff.out.2 (.inr ⟨t2, t3⟩))
                        replace hT := Lib.hid hT
                        subst t2
                        have t2B : ((ya : Int) == (ya : Int)) = true := by simp
                        have t3I : (yn : Int) < (xn : Int) := by omega
                        clear hex hlod hiff
                        go_wp2_with fail
                        go_quiet (fail)
                        go_wp2
                        go_roundw
                        case rel => exact ⟨a + 1, _, by omega, by go_num, hT, rfl⟩
                        case measure => simp [intOf]; omega
                      · have hT : ltPt (Q.getD a Rg.d0) ⟨pa, xn⟩ = false := by
                          cases h : ltPt (Q.getD a Rg.d0) ⟨pa, xn⟩
                          · rfl
                          · have := hiff.out.1 h; omega
                        have hE := Lib.hid (hex.out hT)
                        clear hT
                        subst t2
                        have t2B : ((ya : Int) == (ya : Int)) = true := by simp
                        have t3I : ¬ (yn : Int) < (xn : Int) := by omega
                        have t3D : decide (yn < xn) = false := decide_eq_false t3
                        clear hex hlod hiff
                        go_wp2_with fail
                        go_quiet (fail)
                        go_wp2
                        go_meet
                        exact ⟨n + nq, by rw [hE.out], World.drewN_drewN _ _ _⟩
                    · have hT : ltPt (Q.getD a Rg.d0) ⟨pa, xn⟩ = false := by
                        cases h : ltPt (Q.getD a Rg.d0) ⟨pa, xn⟩
                        · rfl
                        · have := hiff.out.1 h; omega
                      have hE := Lib.hid (hex.out hT)
                      clear hT
                      have t2B : ((ya : Int) == (pa : Int)) = false := by simp; omega
                      replace t2 := Lib.hid t2
                      clear hex hlod hiff
                      go_wp2_with fail
                      go_quiet (fail)
                      go_wp2
                      go_meet
                      exact ⟨n + nq, by rw [hE.out], World.drewN_drewN _ _ _⟩
                · obtain rfl : a = Q.length := by omega
                  have hE : Hid (posPt Q ⟨pa, xn⟩ = Q.length) := posPt_of (Nat.le_refl _) hlo.out (fun h => absurd h (by omega))
                  have halI : ¬ (Q.length : Int) < (Q.length : Int) := by omega
                  have halD : decide (Q.length < Q.length) = false := by simp
                  go_wp2_with fail
                  go_quiet (fail)
                  go_wp2
                  go_meet
                  exact ⟨n + nq, by rw [hE.out], World.drewN_drewN _ _ _⟩
            case rest =>
              obtain ⟨n, rfl, rfl⟩ := hcut
              have hale := posPt_le Q ⟨pa, xn⟩
              have hins : Hid (insPt Q ⟨pa, xn⟩ = Q.take (posPt Q ⟨pa, xn⟩) ++ ((⟨pa, xn⟩ : Pt) :: Q.drop (posPt Q ⟨pa, xn⟩))) := rfl
              generalize posPt Q ⟨pa, xn⟩ = a at *
              have hJ5 : Hid (PJ w1 (wc.drewN n) (.slice po Q.length co) Q) := hJ2.out.ext (belowDrewN (Below.refl _ _) n)
              have c5 : (wc.drewN n).cell? ⟨g, 0, none⟩ = some (.int .u64 (pa : Nat)) := c0
              have c6 : (wc.drewN n).cell? ⟨g, 1, none⟩ = some (.int .i64 (xn : Int)) := c1
              clear hdec hJ2 c0 c1
              generalize wc.drewN n = W5 at *
              obtain ⟨ip, hip, hz0, hz1, hz2⟩ := info_parts info_rp
              have hal : (flatPt (Q.take a)).length = a * 2 := by rw [flatPt_length, List.length_take]; omega
              have hbl : (flatPt (Q.drop a)).length = (Q.length - a) * 2 := by rw [flatPt_length, List.length_drop]
              replace hal := Lib.hid hal
              replace hbl := Lib.hid hbl
              have hg5 := block_lt_of_cell c5
              have hw15 := hJ5.out.below.size
              rcases Nat.eq_zero_or_pos Q.length with hq0 | hq0
              · obtain ⟨rfl, rfl⟩ := hN.out hq0
                obtain rfl : Q = [] := List.length_eq_zero_iff.1 hq0
                obtain rfl : a = 0 := by simpa using hale
                clear hq0 hN
                go_upto_region 15 with ((at_builtin; go_must (refine wpAppAny rfl (.tmp 73) (.tmp 76) 47 rfl W5.heap.size 50 ip _ 2 16 (by kernel_rfl) hip hz0 hz1 hz2 rfl (by decide) (.slice none 0 0) 0 [] rfl (World.ownsRow_nil _ _ _ _) none _ _ (flatPt (([] : List Pt).take 0)) rfl rfl (.inl ⟨rfl, rfl, rfl⟩) (flatPt_one _) (by unfold maxLen; omega) (by omega) (Nat.le_refl _) ?_; intro v6 W6 hown6 hgr6; have hB6 := Lib.hid (grownBelow0 hgr6); simp only [Nat.zero_add, List.nil_append] at hown6; have hO6 := Lib.hid hown6; clear hown6 hgr6)))
                have c7 := (hB6.out.cell (p := ⟨g, 0, none⟩) hg5).trans c5
                have c8 := (hB6.out.cell (p := ⟨g, 1, none⟩) hg5).trans c6
                clear c5 c6
                go_upto_region 16 with ((at_builtin; go_must (refine wpAppAny rfl (.tmp 78) (.tmp 80) 47 rfl W5.heap.size 50 ip _ 2 16 (by kernel_rfl) hip hz0 hz1 hz2 rfl (by decide) v6 0 (flatPt (([] : List Pt).take 0)) rfl (hO6.out.alloc _) (some ⟨W6.heap.size, 0, none⟩) 1 1 [.int .u64 (pa : Nat), .int .i64 (xn : Int)] rfl rfl (.inr ⟨_, rfl, World.news_of_block (cs := #[.int .u64 (pa : Nat), .int .i64 (xn : Int)]) (t := 50) (fr := (0, 0)) (heap_alloc_new W6 _)⟩) (by simp [Value.oneCell']) (by unfold maxLen; omega) (by omega) (by simp; have := hB6.out.size; omega) ?_; intro v7 W7 hown7 hgr7; have hB7 := Lib.hid (hB6.out.trans (grownBelow hO6.out hgr7 hB6.out.size)); have hO7 := Lib.hid hown7; clear hown7 hgr7)))
                clear c7 c8
                go_wp2_with ((at_builtin; go_must (refine wpAppAny rfl (.tmp 82) (.tmp 85) 47 rfl W5.heap.size 50 ip _ 2 16 (by kernel_rfl) hip hz0 hz1 hz2 rfl (by decide) v7 (0 + 1) (flatPt (([] : List Pt).take 0) ++ [.int .u64 (pa : Nat), .int .i64 (xn : Int)]) rfl hO7.out none 0 0 [] rfl rfl (.inl ⟨rfl, rfl, rfl⟩) (by simp) (by unfold maxLen; omega) (by omega) hB7.out.size ?_; intro v8 W8 hown8 hgr8; have hB8 := Lib.hid (hB7.out.trans (grownBelowX hO7.out hgr8 hB7.out.size)); obtain ⟨p8, c8, rfl⟩ := ownsRow_slice hown8; have hO8 := Lib.hid hown8; clear hown8 hgr8)))
                go_roundw
                case rel =>
                  have hL : (insAll (ptsUp ns i ++ pts16 x (q + 1))).length = 0 + 1 + 0 := by rw [hP2.out, insPt_length]; try first | rfl | omega
                  refine ⟨q + 1, p8, c8, by omega, by go_num, by rw [hL], fun h => by rw [hL] at h; omega, ?_⟩
                  show PJ _ _ _ _
                  refine ⟨?_, hJ5.out.below.trans (hB8.out.mono hJ5.out.below.size)⟩
                  have hF : flatPt (insAll (ptsUp ns i ++ pts16 x (q + 1))) = flatPt (([] : List Pt).take 0) ++ [.int .u64 (pa : Nat), .int .i64 (xn : Int)] ++ [] := by
                    rw [hP2.out, hpo.out, hins.out]; simp [flatPt, encPt]
                  rw [hL, hF]
                  exact hO8.out.mono_base hJ5.out.below.size
                case measure => simp [intOf]; omega
              · obtain ⟨g2, cur, hpo2, hb2, ht2, hco⟩ := own_parts hJ5.out.row hq0
                subst hpo2
                have hb2' := Lib.hid hb2
                have ht2' := Lib.hid ht2
                clear hb2 ht2 hN
                have hg2 := block_lt_of_heap hb2'.out
                have hco0 : ¬ co = 0 := by omega
                have haI : (a : Int) ≤ (Q.length : Int) := by omega
                by_cases hca : co = a
                · obtain rfl : a = Q.length := by omega
                  subst hca
                  have hz16 : Q.length - Q.length = 0 := by omega
                  replace hz16 := Lib.hid hz16
                  go_upto_region 15 with ((at_builtin; go_must (refine wpAppAny rfl (.tmp 73) (.tmp 76) 47 rfl W5.heap.size 50 ip _ 2 16 (by kernel_rfl) hip hz0 hz1 hz2 rfl (by decide) (.slice none 0 0) 0 [] rfl (World.ownsRow_nil _ _ _ _) (some ⟨g2, 0, none⟩) _ _ (flatPt (Q.take Q.length)) rfl hal.out (.inr ⟨_, rfl, newsQ0 hb2'.out ht2'.out (Nat.le_refl _)⟩) (flatPt_one _) (by unfold maxLen; omega) (by omega) (Nat.le_refl _) ?_; intro v6 W6 hown6 hgr6; have hB6 := Lib.hid (grownBelow0 hgr6); simp only [Nat.zero_add, List.nil_append] at hown6; have hO6 := Lib.hid hown6; clear hown6 hgr6)))
                  have c7 := (hB6.out.cell (p := ⟨g, 0, none⟩) hg5).trans c5
                  have c8 := (hB6.out.cell (p := ⟨g, 1, none⟩) hg5).trans c6
                  clear c5 c6
                  go_upto_region 16 with ((at_builtin; go_must (refine wpAppAny rfl (.tmp 78) (.tmp 80) 47 rfl W5.heap.size 50 ip _ 2 16 (by kernel_rfl) hip hz0 hz1 hz2 rfl (by decide) v6 Q.length (flatPt (Q.take Q.length)) rfl (hO6.out.alloc _) (some ⟨W6.heap.size, 0, none⟩) 1 1 [.int .u64 (pa : Nat), .int .i64 (xn : Int)] rfl rfl (.inr ⟨_, rfl, World.news_of_block (cs := #[.int .u64 (pa : Nat), .int .i64 (xn : Int)]) (t := 50) (fr := (0, 0)) (heap_alloc_new W6 _)⟩) (by simp [Value.oneCell']) (by unfold maxLen; omega) (by omega) (by simp; have := hB6.out.size; omega) ?_; intro v7 W7 hown7 hgr7; have hB7 := Lib.hid (hB6.out.trans (grownBelow hO6.out hgr7 hB6.out.size)); have hO7 := Lib.hid hown7; clear hown7 hgr7)))
                  clear c7 c8
                  go_wp2_with ((at_builtin; go_must (refine wpAppAny rfl (.tmp 82) (.tmp 85) 47 rfl W5.heap.size 50 ip _ 2 16 (by kernel_rfl) hip hz0 hz1 hz2 rfl (by decide) v7 (Q.length + 1) (flatPt (Q.take Q.length) ++ [.int .u64 (pa : Nat), .int .i64 (xn : Int)]) rfl hO7.out (some ⟨g2, 0, none⟩) 0 0 [] rfl rfl (.inr ⟨_, rfl, by intro j u h; cases h⟩) (by simp) (by unfold maxLen; omega) (by omega) hB7.out.size ?_; intro v8 W8 hown8 hgr8; have hB8 := Lib.hid (hB7.out.trans (grownBelowX hO7.out hgr8 hB7.out.size)); obtain ⟨p8, c8, rfl⟩ := ownsRow_slice hown8; have hO8 := Lib.hid hown8; clear hown8 hgr8)))
                  go_roundw
                  case rel =>
                    have hL : (insAll (ptsUp ns i ++ pts16 x (q + 1))).length = Q.length + 1 + 0 := by rw [hP2.out, insPt_length]; try first | rfl | omega
                    refine ⟨q + 1, p8, c8, by omega, by go_num, by rw [hL], fun h => by rw [hL] at h; omega, ?_⟩
                    show PJ _ _ _ _
                    refine ⟨?_, hJ5.out.below.trans (hB8.out.mono hJ5.out.below.size)⟩
                    have hF : flatPt (insAll (ptsUp ns i ++ pts16 x (q + 1))) = flatPt (Q.take Q.length) ++ [.int .u64 (pa : Nat), .int .i64 (xn : Int)] ++ [] := by
                      rw [hP2.out, hpo.out, hins.out]; simp [flatPt, encPt]
                    rw [hL, hF]
                    exact hO8.out.mono_base hJ5.out.below.size
                  case measure => simp [intOf]; omega
                · have hcoI : (a : Int) ≤ (co : Int) := by omega
                  go_upto_region 15 with ((at_builtin; go_must (refine wpAppAny rfl (.tmp 73) (.tmp 76) 47 rfl W5.heap.size 50 ip _ 2 16 (by kernel_rfl) hip hz0 hz1 hz2 rfl (by decide) (.slice none 0 0) 0 [] rfl (World.ownsRow_nil _ _ _ _) (some ⟨g2, 0, none⟩) _ _ (flatPt (Q.take a)) rfl hal.out (.inr ⟨_, rfl, newsQ0 hb2'.out ht2'.out hale⟩) (flatPt_one _) (by unfold maxLen; omega) (by omega) (Nat.le_refl _) ?_; intro v6 W6 hown6 hgr6; have hB6 := Lib.hid (grownBelow0 hgr6); simp only [Nat.zero_add, List.nil_append] at hown6; have hO6 := Lib.hid hown6; clear hown6 hgr6)))
                  have c7 := (hB6.out.cell (p := ⟨g, 0, none⟩) hg5).trans c5
                  have c8 := (hB6.out.cell (p := ⟨g, 1, none⟩) hg5).trans c6
                  clear c5 c6
                  go_upto_region 16 with ((at_builtin; go_must (refine wpAppAny rfl (.tmp 78) (.tmp 80) 47 rfl W5.heap.size 50 ip _ 2 16 (by kernel_rfl) hip hz0 hz1 hz2 rfl (by decide) v6 a (flatPt (Q.take a)) rfl (hO6.out.alloc _) (some ⟨W6.heap.size, 0, none⟩) 1 1 [.int .u64 (pa : Nat), .int .i64 (xn : Int)] rfl rfl (.inr ⟨_, rfl, World.news_of_block (cs := #[.int .u64 (pa : Nat), .int .i64 (xn : Int)]) (t := 50) (fr := (0, 0)) (heap_alloc_new W6 _)⟩) (by simp [Value.oneCell']) (by unfold maxLen; omega) (by omega) (by simp; have := hB6.out.size; omega) ?_; intro v7 W7 hown7 hgr7; have hB7 := Lib.hid (hB6.out.trans (grownBelow hO6.out hgr7 hB6.out.size)); have hO7 := Lib.hid hown7; clear hown7 hgr7)))
                  clear c7 c8
                  go_wp2_with ((at_builtin; go_must (refine wpAppAny rfl (.tmp 82) (.tmp 85) 47 rfl W5.heap.size 50 ip _ 2 16 (by kernel_rfl) hip hz0 hz1 hz2 rfl (by decide) v7 (a + 1) (flatPt (Q.take a) ++ [.int .u64 (pa : Nat), .int .i64 (xn : Int)]) rfl hO7.out (some ⟨g2, a * 2, none⟩) (Q.length - a) (co - a) (flatPt (Q.drop a)) rfl hbl.out (.inr ⟨_, rfl, newsQ1 ((hB7.out.block g2 hg2).trans hb2'.out) ht2'.out hale⟩) (flatPt_one _) (by unfold maxLen; omega) (by omega) hB7.out.size ?_; intro v8 W8 hown8 hgr8; have hB8 := Lib.hid (hB7.out.trans (grownBelowX hO7.out hgr8 hB7.out.size)); obtain ⟨p8, c8, rfl⟩ := ownsRow_slice hown8; have hO8 := Lib.hid hown8; clear hown8 hgr8)))
                  go_roundw
                  case rel =>
                    have hL : (insAll (ptsUp ns i ++ pts16 x (q + 1))).length = a + 1 + (Q.length - a) := by rw [hP2.out, insPt_length]; try first | rfl | omega
                    refine ⟨q + 1, p8, c8, by omega, by go_num, by rw [hL], fun h => by rw [hL] at h; omega, ?_⟩
                    show PJ _ _ _ _
                    refine ⟨?_, hJ5.out.below.trans (hB8.out.mono hJ5.out.below.size)⟩
                    have hF : flatPt (insAll (ptsUp ns i ++ pts16 x (q + 1))) = flatPt (Q.take a) ++ [.int .u64 (pa : Nat), .int .i64 (xn : Int)] ++ (flatPt (Q.drop a)) := by
                      rw [hP2.out, hpo.out, hins.out]; simp [flatPt, encPt]
                    rw [hL, hF]
                    exact hO8.out.mono_base hJ5.out.below.size
                  case measure => simp [intOf]; omega
        · obtain rfl : q = 16 := by omega
          go_wp2
          go_roundw
          case rel => exact ⟨i + 1, po, co, by omega, by go_num, by rw [hP.out], by rw [hP.out]; exact hN, by rw [hP.out]; exact hJ⟩
          case measure => simp [intOf]; omega
    · obtain rfl : i = ns.length := by omega
      go_wp2
      go_ret
      rw [hns.out, ← insAll_sort]
      exact ⟨.slice po0 (insAll (ptsUp ns ns.length)).length co0, rfl, hJ.out.row.mono_base hB1.out.size, hB1.out.trans (hJ.out.below.mono hB1.out.size)⟩
end Go.Proofs.YtphhafaoccfdpaaDoor
