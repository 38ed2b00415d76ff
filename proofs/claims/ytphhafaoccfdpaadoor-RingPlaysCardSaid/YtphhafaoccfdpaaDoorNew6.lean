/- The sort of a row of points. -/
import Derived.Test.YtphhafaoccfdpaaDoorNew5
namespace Go.Proofs.YtphhafaoccfdpaaDoor
open Go.RowKit Go.Shelf Go.Lib
open Go.Proofs
set_option maxHeartbeats 800000
set_option maxRecDepth 100000
open Rg (Pt)

theorem gD {α : Type} {l : List α} {i : Nat} {d : α} (h : i < l.length) : l.getD i d = l[i] := by simp [List.getD_eq_getElem?_getD, h]
def ltPt (p q : Pt) : Bool := ltOf cfPt p q
theorem ltPt_iff (p q : Pt) : ltPt p q = true ↔ (p.at_ < q.at_ ∨ (p.at_ = q.at_ ∧ p.node < q.node)) := by
  unfold ltPt ltOf cfPt Rg.cmpN
  rw [decide_eq_true_iff]
  split <;> split <;> simp_all <;> (try split) <;> (try split) <;> (try omega) <;> simp_all <;> omega
theorem ltPt_false (p q : Pt) : ltPt p q = false ↔ ¬ (p.at_ < q.at_ ∨ (p.at_ = q.at_ ∧ p.node < q.node)) := by
  rw [← ltPt_iff]; simp
theorem swoPt : Sort.SWO (ltOf cfPt) where
  irrefl x := (ltPt_false x x).2 (by omega)
  trans x y z h1 h2 := (ltPt_iff x z).2 (by have := (ltPt_iff x y).1 h1; have := (ltPt_iff y z).1 h2; omega)
  ntrans x y z h1 h2 := (ltPt_false x z).2 (by have := (ltPt_false x y).1 h1; have := (ltPt_false y z).1 h2; omega)
theorem totPt (x y : Pt) (h1 : ltOf cfPt x y = false) (h2 : ltOf cfPt y x = false) : x = y := by
  have a := (ltPt_false x y).1 h1
  have b := (ltPt_false y x).1 h2
  have e1 : x.at_ = y.at_ := by omega
  have e2 : x.node = y.node := by omega
  cases x; cases y; simp_all

/-- the points in their order -/
def sortPts (P : List Pt) : List Pt := P.mergeSort fun x y => !(ltOf cfPt) y x
theorem sortPts_perm (P : List Pt) : (sortPts P).Perm P := List.mergeSort_perm _ _
theorem sortPts_length (P : List Pt) : (sortPts P).length = P.length := (sortPts_perm P).length_eq
theorem sortPts_sorted (P : List Pt) : (sortPts P).Pairwise fun x y => ltPt y x = false := by
  have := List.pairwise_mergeSort (le := fun x y => !(ltOf cfPt) y x) (fun a b c h1 h2 => by
    have h1' : ltPt b a = false := by simpa [ltPt] using h1
    have h2' : ltPt c b = false := by simpa [ltPt] using h2
    have : ltPt c a = false := (ltPt_false _ _).2 (by have := (ltPt_false _ _).1 h1'; have := (ltPt_false _ _).1 h2'; omega)
    simpa [ltPt] using this) (fun a b => by
    cases h : ltOf cfPt b a
    · simp
    · have h' : ltPt b a = true := h
      have : ltPt a b = false := (ltPt_false _ _).2 (by have := (ltPt_iff _ _).1 h'; omega)
      have this' : ltOf cfPt a b = false := this
      simp [this']) P
  exact this.imp (fun h => by simpa [ltPt] using h)
theorem sortPts_rising (P : List Pt) : Rg.Rising (sortPts P) := by
  intro a b hab hb
  by_cases e : a = b
  · subst e; exact Nat.le_refl _
  · have h := List.pairwise_iff_getElem.1 (sortPts_sorted P) a b (by omega) hb (by omega)
    have h' := (ltPt_false _ _).1 h
    rw [gD (by omega), gD hb]
    omega

def flatPt (P : List Pt) : List Value := P.flatMap encPt
theorem flatPt_length (P : List Pt) : (flatPt P).length = P.length * 2 := by
  induction P with
  | nil => rfl
  | cons p P ih => simp [flatPt, encPt] at ih ⊢; omega
theorem flatPt_get : ∀ (P : List Pt) (i : Nat), i < P.length → ∀ c, c < 2 → (flatPt P)[i * 2 + c]? = (encPt P[i]!)[c]?
  | [], i, h, _, _ => absurd h (by simp)
  | p :: P, 0, h, c, hc => by
    have : c = 0 ∨ c = 1 := by omega
    rcases this with rfl | rfl <;> simp [flatPt, encPt]
  | p :: P, i + 1, h, c, hc => by
    have := flatPt_get P i (by simpa using h) c hc
    have e : flatPt (p :: P) = encPt p ++ flatPt P := by simp [flatPt]
    rw [e, List.getElem?_append_right (by simp [encPt]; omega)]
    simp only [encPt, List.length_cons, List.length_nil] at this ⊢
    rw [show (i + 1) * 2 + c - (0 + 1 + 1) = i * 2 + c by omega, this]
    simp

theorem holdsPt {w : World} {g : Nat} {cur : Array Value} {e : TypeId} {P : List Pt} (hb : w.heap[g]? = some (.cells cur e (0, 0))) (ht : cur.toList.take (P.length * 2) = flatPt P) : Sort.HoldsK encPt 2 w g 0 P.toArray := by
  intro j hj
  have hj' : j < P.length * 2 := by simpa using hj
  have hd : j / 2 < P.length := by omega
  refine ⟨?_, by simp [World.frozen?, hb]⟩
  have h1 := flatPt_get P (j / 2) hd (j % 2) (by omega)
  rw [show j / 2 * 2 + j % 2 = j by omega, ← ht, List.getElem?_take_of_lt hj'] at h1
  rw [Sort.get_flatK _ _ _ _ (by simpa using hj')]
  simp only [World.cell?, hb, Nat.zero_add]
  simp only [Option.isSome_none, Bool.false_eq_true, if_false]
  rw [← Array.getElem?_toList, h1]
  have : j % 2 = 0 ∨ j % 2 = 1 := by omega
  rcases this with e | e <;> rw [e] <;> simp [encPt, hd]

theorem ptsAt_of {w : World} {g : Nat} {P : List Pt} (h : Sort.HoldsK encPt 2 w g 0 P.toArray) : PtsAt w g P := by
  intro i hi
  have h0 := (h.cell (i := i) (c := 0) (by simpa using hi) (by omega)).1
  have h1 := (h.cell (i := i) (c := 1) (by simpa using hi) (by omega)).1
  simp only [Nat.zero_add, Nat.add_zero] at h0 h1
  rw [h0, h1]
  rw [gD hi]
  simp [encPt, hi]

theorem SortPts_own (P : List Pt) (g cap : Nat) (cur : Array Value) (w : World) (hP : P.length ≤ 1000000) (hb : w.heap[g]? = some (.cells cur 64 (0, 0))) (ht : cur.toList.take (P.length * 2) = flatPt P) :
    Calls Tryd.prog 28 #[.slice (some ⟨g, 0, none⟩) P.length cap, .func (.func 29) #[] #[]] w fun e w' =>
      e = .returned (.tuple #[]) ∧ PtsAt w' g (sortPts P) ∧ w.grownBy w' (some g) := by
  have eg : ∀ args w, (callFunc 29 args).run Tryd.prog w = .ok (.enter 29 args) w := enters_of Tryd.func29 (by kernel_rfl) rfl
  have hH := holdsPt hb ht
  have hcon := AnyQ.slices_SortFunc_total Tryd.sortP 2 (fun _ => by kernel_rfl) (fun _ => by kernel_rfl) encPt (fun _ => rfl) (fun x v hv => by simp [encPt] at hv; rcases hv with rfl | rfl <;> rfl) cfPt swoPt 29 #[] g 0 cap P.toArray w eg
    (fun m os dk hs x y => New2_any x y _) hH (block_lt_of_heap hb) (by simp; omega) totPt
  simp only [List.size_toArray] at hcon
  refine hcon.mono ?_
  rintro e w' ⟨rfl, n, os, rfl⟩
  have hg := block_lt_of_heap hb
  refine ⟨rfl, ptsAt_of ?_, ?_⟩
  · exact Sort.holdsK_grow _ _ _ _ _ _ _ (by simpa [Sort.putRowK] using hg) (Sort.holdsK_putRowK _ _ _ _ _ _ _ (Sort.holdsK_ahead _ _ _ _ _ _ _ hH) (by simp))
  · refine ⟨rfl, rfl, rfl, by simp [sortWorldK, Sort.putRowK], fun k hk hne => ?_⟩
    unfold sortWorldK Sort.putRowK
    rw [Sort.heap_grow_old _ _ (by simpa using hk)]
    have : g ≠ k := fun e => hne (by rw [e])
    simp [Sort.putRow, Sort.mapBlock, Sort.ahead, Array.getElem?_modify, this]
end Go.Proofs.YtphhafaoccfdpaaDoor
