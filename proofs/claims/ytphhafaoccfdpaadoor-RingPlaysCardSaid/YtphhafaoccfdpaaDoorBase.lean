/- General rules, over any program: a new block under a name of its own; small facts on worlds. -/
import Derived.Test.YtphhafaoccfdpaaDoorProg
import Derived.WalkKit
import Derived.Below
import Derived.Deep.QuietTactic
import Derived.BigQuiet
import Derived.WideLaws
import Derived.WalkSpells
import Derived.StillTailTactics
import Derived.Laws.Rows
import Derived.Laws.CopyRow
import Derived.Laws.CopyOwn
import Derived.KernelRfl
import Derived.Laws.MakeOwn
import Derived.Laws.BytesArg
import Derived.Lib.Hide
namespace Go.Proofs.YtphhafaoccfdpaaDoor
open Go.RowKit
open Go.Proofs

section
variable {P : Program}

/-- 'alloc': the new block under a name. -/
theorem wpListAllocAbs (d : Nat) {ops : Array Oper} {rest : List Oper} {o : Oper} {a : Act} {w : World} {Q : Exit → Act → World → Prop} (hgd : o.guard = none) (hds : o.dst = some d) (T : TypeId)
    (ho : o.op = .alloc T) (z : Value) (hz : ∀ w, (zeroValue T).run P w = .ok z w)
    (h : ∀ W, w.alloc (.cells z.cells T) = W → wpList P ops Q rest (a.put (some d) (.pointer (some ⟨w.heap.size, 0, none⟩))) W) :
    wpList P ops Q (o :: rest) a w := by
  rw [← hds] at h
  refine wpList_plain hgd fun K hK => ?_
  unfold Oper.wp execOp
  simp only [ho, Instr.alloc, Sem.run_bind, Sem.run_pure, Result.andThen_ok, hz]
  simp [newVar, newRow, go_sem]
  exact hK _ _ (h _ rfl)

/-- 'copy' between two rows of one-cell elements. -/
theorem wpListCopyRow {ops : Array Oper} {rest : List Oper} {o : Oper} {a : Act} {w : World} {Q : Exit → Act → World → Prop} (hgd : o.guard = none) (d s : Operand) (dT sT : TypeId)
    (ho : o.op = .call { callee := .builtin .copy, args := #[d, s], argTypes := #[dT, sT] }) (elem : TypeId) (g of dLen dCap : Nat) (ad : Addr) (sLen sCap : Nat) (cur : Array Value) (t : TypeId) (cs : List Value)
    (hd : a.eval d = .slice (some ⟨g, of, none⟩) dLen dCap) (hs' : a.eval s = .slice (some ad) sLen sCap)
    (hu : P.underlying dT = some (.slice elem)) (hs : (P.info? elem).map (·.size) = some 1)
    (hg : w.heap[g]? = some (.cells cur t (0, 0))) (hn : cs.length = Nat.min sLen dLen)
    (hsrc : ∀ j v, cs[j]? = some v → w.cell? (ad.add j) = some v) (hfit : of + cs.length ≤ cur.size) (h1 : ∀ v ∈ cs, v.oneCell' = true)
    (h : wpList P ops Q rest (a.put o.dst (goInt cs.length)) (w.setRow g (cur.toList.take of ++ cs ++ cur.toList.drop (of + cs.length)).toArray)) :
    wpList P ops Q (o :: rest) a w := by
  refine wpList_plain hgd fun K hK => ?_
  unfold Oper.wp execOp
  simp only [List.append_assoc] at h
  simp [ho, resolve, invoke, builtin, hd, hs', run_copy_row P w dT sT o.type elem g of dLen dCap ad sLen sCap cur t cs hu hs hg hn hsrc hfit h1]
  exact hK _ _ h

/-- a region that draws: its head changes nothing, its tail goes in the text's order -/
theorem wpTail {id : Nat} {Q : Exit → Act → World → Prop} {a : Act} {w : World} {l : List Oper} (n : Nat) (hm : P.follows .mixedOrders = true) (hB : Region.lexTailB .any l.toArray n = true)
    (h : wpStill P l.toArray w.drew (fun a' => wpList P l.toArray Q (l.drop n) a' w.drew) (l.take n) a) : (Code.region id l.toArray true).wp P Q a w :=
  wp_region_still_tail n hm hB h
/-- a region that draws and changes nothing -/
theorem wpStillAll {id : Nat} {Q : Exit → Act → World → Prop} {a : Act} {w : World} {l : List Oper} (hm : P.follows .mixedOrders = true) (hB : Region.lexB .any l.toArray = true)
    (h : wpStill P l.toArray w.drew (fun a' => Q .normal a' w.drew) l a) : (Code.region id l.toArray true).wp P Q a w :=
  wp_region_still_lit hm hB h
theorem stillOf {f : FuncId} {args : Array Value} {w : World} {v : Value} (h : Calls P f args w fun e w' => e = .returned v ∧ w = w') : Calls P f args w fun e w' => e = .returned v ∧ w' = w :=
  h.mono fun _ _ h => ⟨h.1, h.2.symm⟩
/-- 'make' of n cells of one value: the new block under a name -/
theorem wpListMakeAbs (d : Nat) {ops : Array Oper} {rest : List Oper} {o : Oper} {a : Act} {w : World} {Q : Exit → Act → World → Prop} (hgd : o.guard = none) (hds : o.dst = some d) (T E : TypeId)
    (l c : Operand) (ho : o.op = .makeSlice T l c) (n : Nat) (x : Int) (hl : a.eval l = .int .i64 x) (hc : a.eval c = .int .i64 x) (z : Value) (sz by_ : Nat)
    (ht : P.underlying T = some (.slice E)) (hi : (P.info? E).map (fun i => (i.zero, i.size, i.bytes)) = some (some z, sz, by_)) (hx : x = n) (hbytes : by_ * n ≤ 281474976710656) (h63 : n ≤ 9223372036854775807)
    (h : ∀ W, w.alloc (.cells (madeCells z.cells (n * sz)) E) = W → wpList P ops Q rest (a.put (some d) (.slice (some ⟨w.heap.size, 0, none⟩) n n)) W) :
    wpList P ops Q (o :: rest) a w := by
  rw [← hds] at h
  refine wpList_plain hgd fun K hK => ?_
  cases hq : P.info? E with
  | none => simp [hq] at hi
  | some i =>
    simp only [hq, Option.map_some, Option.some.injEq, Prod.mk.injEq] at hi
    obtain ⟨hz, hs, hb⟩ := hi
    subst hx
    have hr := run_make (P := P) w T E i z ht hq hz .i64 .i64 (n : Int) (n : Int) (by omega) (by omega) (by rw [hb, ← Int.natCast_mul]; omega) (by omega)
    rw [Int.toNat_natCast, hs] at hr
    unfold Oper.wp execOp
    simp only [ho, hl, hc, hr]
    simp [go_sem, hr]
    exact hK _ _ (h _ rfl)
theorem madeCells_one (v : Value) (n : Nat) : madeCells #[v] n = (List.replicate n v).toArray := by
  apply Array.ext
  · simp [madeCells]
  · intro i h1 h2
    simp [madeCells, Nat.mod_one]
theorem heapSetRow {w : World} {g : Nat} {c cs : Array Value} {t : TypeId} (h : w.heap[g]? = some (.cells c t (0, 0))) : (w.setRow g cs).heap[g]? = some (.cells cs t (0, 0)) := by
  obtain ⟨hl, he⟩ := Array.getElem?_eq_some_iff.1 h
  simp [World.setRow, Array.getElem?_modify, h]
theorem heapSetRowNe {w : World} {g k : Nat} {cs : Array Value} (h : k ≠ g) : (w.setRow g cs).heap[k]? = w.heap[k]? := by
  simp [World.setRow, Array.getElem?_modify]
  intro e; exact absurd e.symm h
theorem belowSetRow {B : Nat} {a w : World} (h : Below B a w) {g : Nat} (hg : B ≤ g) (cs : Array Value) : Below B a (w.setRow g cs) :=
  ⟨h.os, h.tape, h.output, by simpa using h.size, fun k hk => (heapSetRowNe (by omega)).trans (h.block k hk)⟩
theorem heapPush (w : World) (o : Obj) (k : Nat) : (w.alloc o).heap[k]? = if k = w.heap.size then some o else w.heap[k]? := by
  by_cases h : k = w.heap.size
  · subst h; rw [if_pos rfl]; exact heap_alloc_new w o
  · rw [if_neg h]
    by_cases h2 : k < w.heap.size
    · exact Below.heap_alloc w o k h2
    · rw [Array.getElem?_eq_none (by simp; omega), Array.getElem?_eq_none (by omega)]
theorem heap3a (w : World) (A B C : Obj) : (((w.alloc A).alloc B).alloc C).heap[w.heap.size]? = some A := by
  simp only [heapPush, World.size_alloc]; rw [if_neg (by omega), if_neg (by omega)]; rfl
theorem heap3b (w : World) (A B C : Obj) : (((w.alloc A).alloc B).alloc C).heap[w.heap.size + 1]? = some B := by
  simp only [heapPush, World.size_alloc]; rw [if_neg (by omega)]; rfl
theorem heap3c (w : World) (A B C : Obj) : (((w.alloc A).alloc B).alloc C).heap[w.heap.size + 2]? = some C := by
  simp only [heapPush, World.size_alloc]; rfl
theorem belowDrewN {B : Nat} {a w : World} (h : Below B a w) (n : Nat) : Below B a (w.drewN n) := ⟨h.os, h.tape, h.output, h.size, h.block⟩
theorem block_lt_of_heap {w : World} {b : Nat} {o : Obj} (h : w.heap[b]? = some o) : b < w.heap.size := (Array.getElem?_eq_some_iff.1 h).1
/-- what no row of the element's type holds stands behind an append -/
theorem grownOther {W w1 : World} {base : Nat} {e : TypeId} {size : Nat} {v : Value} {n : Nat} {xs : List Value} {ob : Obj} (hrow : W.ownsRow base e size v n xs) (hg : (W.alloc ob).grownBy w1 v.ownBlock)
    (b : Nat) (p : Obj) (hp : W.heap[b]? = some p) (hne : ∀ c, p ≠ .cells c e (0, 0)) : w1.heap[b]? = some p := by
  have hlt := (Array.getElem?_eq_some_iff.1 hp).1
  refine (hg.block b (by simp; omega) ?_).trans ((Below.heap_alloc W ob b hlt).trans hp)
  intro hb
  obtain ⟨_, (⟨rfl, _⟩ | ⟨g, cap, cur, rfl, _, hc, _⟩)⟩ := hrow
  · simp [Value.ownBlock] at hb
  · simp [Value.ownBlock] at hb
    subst hb
    rw [hp] at hc
    exact hne _ (Option.some.inj hc)
theorem grownBelow {W w1 : World} {base : Nat} {e : TypeId} {size : Nat} {v : Value} {n : Nat} {xs : List Value} {ob : Obj} (hrow : W.ownsRow base e size v n xs) (hg : (W.alloc ob).grownBy w1 v.ownBlock) (hb : base ≤ W.heap.size) : Below base W w1 := by
  refine Below.grown ((Below.refl base W).alloc hb ob) hg (by simp; omega) ?_
  intro k hk
  obtain ⟨_, (⟨rfl, _⟩ | ⟨g, cap, cur, rfl, hbg, _, _⟩)⟩ := hrow
  · simp [Value.ownBlock] at hk
  · simp [Value.ownBlock] at hk; omega
theorem cellAt {w : World} {b : Nat} {c : Array Value} {t : TypeId} {fr : Nat × Nat} (h : w.heap[b]? = some (.cells c t fr)) (j : Nat) : w.cell? ⟨b, j, none⟩ = c[j]? := by
  simp [World.cell?, h]
theorem freeAt {w : World} {b : Nat} {c : Array Value} {t : TypeId} (h : w.heap[b]? = some (.cells c t (0, 0))) (j : Nat) : w.frozen? ⟨b, j, none⟩ = false := by
  simp [World.frozen?, h]
end
end Go.Proofs.YtphhafaoccfdpaaDoor
