/- The reference's ring in plain words. -/
import Derived.Test.YtphhafaoccfdpaaDoorTop2
import Derived.Test.YtphhafaoccfdpaaDoorRefP
namespace Go.Proofs.YtphhafaoccfdpaaDoor
open Go.RowKit Go.Shelf Go.Lib
open Go.Proofs
open Rg (Pt)

/-- the reference's nodes below k -/
def refNodes (zs : List Int) (k : Nat) : List Int := ((List.range k).map fun (n : Nat) => (n : Int)).filter fun n => decide (n ∈ zs)
theorem refNodes_zero (zs : List Int) : refNodes zs 0 = [] := rfl
theorem refNodes_yes {zs : List Int} {k : Nat} (h : (k : Int) ∈ zs) : refNodes zs (k + 1) = refNodes zs k ++ [(k : Int)] := by
  simp [refNodes, List.range_succ, h]
theorem refNodes_no {zs : List Int} {k : Nat} (h : (k : Int) ∉ zs) : refNodes zs (k + 1) = refNodes zs k := by
  simp [refNodes, List.range_succ, h]
theorem refNodes_mem {zs : List Int} {k : Nat} {x : Int} : x ∈ refNodes zs k ↔ x ∈ zs ∧ 0 ≤ x ∧ x < k := by
  simp only [refNodes, List.mem_filter, List.mem_map, List.mem_range, decide_eq_true_iff]
  constructor
  · rintro ⟨⟨n, hn, rfl⟩, h⟩; exact ⟨h, by omega, by omega⟩
  · rintro ⟨h, h0, h1⟩; exact ⟨⟨x.toNat, by omega, by omega⟩, h⟩
theorem refNodes_up (zs : List Int) (k : Nat) : (refNodes zs k).Pairwise (· < ·) := by
  unfold refNodes
  refine List.Pairwise.filter _ ?_
  rw [List.pairwise_map]
  exact List.pairwise_lt_range.imp (fun h => by omega)
theorem refNodes_length (zs : List Int) (k : Nat) : (refNodes zs k).length ≤ k := by
  unfold refNodes
  exact Nat.le_trans (List.length_filter_le _ _) (by simp)

theorem compactUp_up (d : Array Int) (m : Nat) (hs : ∀ j, j + 1 < m → d[j]! ≤ d[j + 1]!) :
    (compactUpTo d m).Pairwise (· < ·) ∧ (∀ x ∈ compactUpTo d m, ∀ q, m = q + 1 → x ≤ d[q]!) ∧ (∀ x, x ∈ compactUpTo d m ↔ ∃ j, j < m ∧ x = d[j]!) := by
  induction m with
  | zero => simp [compactUpTo]
  | succ m ih =>
    obtain ⟨h1, h2, h3⟩ := ih (fun j hj => hs j (by omega))
    rw [compactUpTo_succ]
    by_cases hk : keeps d m = true
    · rw [if_pos hk]
      have hlt : ∀ x ∈ compactUpTo d m, x < d[m]! := by
        intro x hx
        cases m with
        | zero => simp [compactUpTo] at hx
        | succ q =>
          have a := h2 x hx q rfl
          have b := hs q (by omega)
          simp [keeps] at hk
          omega
      refine ⟨?_, ?_, ?_⟩
      · rw [List.pairwise_append]
        exact ⟨h1, List.pairwise_singleton _ _, fun x hx y hy => by obtain rfl : y = d[m]! := by simpa using hy
                                                                    exact hlt x hx⟩
      · intro x hx q hq
        obtain rfl : m = q := by omega
        rcases List.mem_append.1 hx with hx | hx
        · have := hlt x hx; omega
        · have : x = d[m]! := by simpa using hx
          omega
      · intro x
        rw [List.mem_append, h3]
        constructor
        · rintro (⟨j, hj, rfl⟩ | hx)
          · exact ⟨j, by omega, rfl⟩
          · exact ⟨m, by omega, by simpa using hx⟩
        · rintro ⟨j, hj, rfl⟩
          by_cases e : j = m
          · subst e; right; simp
          · left; exact ⟨j, by omega, rfl⟩
    · have hk' : keeps d m = false := by simpa using hk
      rw [if_neg hk, List.append_nil]
      have hm0 : m ≠ 0 := by intro e; subst e; simp [keeps] at hk'
      obtain ⟨q, rfl⟩ : ∃ q, m = q + 1 := ⟨m - 1, by omega⟩
      have e : d[q + 1]! = d[q]! := by simp [keeps] at hk'; exact hk'
      refine ⟨h1, ?_, ?_⟩
      · intro x hx q' hq'
        obtain rfl : q' = q + 1 := by omega
        rw [e]; exact h2 x hx q rfl
      · intro x
        rw [h3]
        constructor
        · rintro ⟨j, hj, rfl⟩; exact ⟨j, by omega, rfl⟩
        · rintro ⟨j, hj, rfl⟩
          by_cases e' : j = q + 1
          · subst e'; exact ⟨q, by omega, e⟩
          · exact ⟨j, by omega, rfl⟩
theorem eq_of_up {l m : List Int} (hl : l.Pairwise (· < ·)) (hm : m.Pairwise (· < ·)) (h : ∀ x, x ∈ l ↔ x ∈ m) : l = m := by
  have n1 : l.Nodup := hl.imp (fun h e => by omega)
  have n2 : m.Nodup := hm.imp (fun h e => by omega)
  have hp : l.Perm m := (List.perm_ext_iff_of_nodup n1 n2).2 h
  exact List.Perm.eq_of_pairwise (le := fun x y => x < y) (fun a b _ _ h1 h2 => by omega) hl hm hp
theorem good_ref (zs : List Int) : goodNodes zs = refNodes zs 64 := by
  have hs := List.pairwise_mergeSort (le := fun (x y : Int) => decide (x ≤ y)) (fun a b c h1 h2 => by simp at *; omega) (fun a b => by simp; omega) zs
  have hp : (zs.mergeSort (fun x y => decide (x ≤ y))).Perm zs := List.mergeSort_perm _ _
  unfold goodNodes
  generalize zs.mergeSort (fun x y => decide (x ≤ y)) = ys at hs hp
  have hup := compactUp_up ys.toArray ys.length (fun j hj => by
    have h := List.pairwise_iff_getElem.1 hs j (j + 1) (by omega) hj (by omega)
    simp only [decide_eq_true_iff] at h
    simp only [List.getElem!_toArray]
    rw [getElem!_pos ys j (by omega), getElem!_pos ys (j + 1) hj]
    exact h)
  refine eq_of_up (List.Pairwise.filter _ hup.1) (refNodes_up zs 64) (fun x => ?_)
  rw [refNodes_mem, List.mem_filter]
  have hmem : x ∈ Lib.compact ys ↔ x ∈ zs := by
    unfold Lib.compact
    rw [hup.2.2, ← hp.mem_iff]
    constructor
    · rintro ⟨j, hj, rfl⟩
      simp only [List.getElem!_toArray]
      rw [getElem!_pos ys j hj]; exact List.getElem_mem hj
    · intro hx
      obtain ⟨j, hj, rfl⟩ := List.getElem_of_mem hx
      refine ⟨j, hj, ?_⟩
      simp only [List.getElem!_toArray]
      rw [getElem!_pos ys j hj]
  rw [hmem]
  simp [badNode]

/-- where the reference puts a point -/
def posPt (l : List Pt) (p : Pt) : Nat := l.findIdx fun q => !ltPt q p
def insPt (l : List Pt) (p : Pt) : List Pt := l.take (posPt l p) ++ (p :: l.drop (posPt l p))
def insAll (l : List Pt) : List Pt := l.foldl insPt []
theorem insAll_snoc (l : List Pt) (p : Pt) : insAll (l ++ [p]) = insPt (insAll l) p := by simp [insAll]
theorem insPt_perm (l : List Pt) (p : Pt) : (insPt l p).Perm (p :: l) := by
  unfold insPt
  refine (List.perm_middle).trans ?_
  rw [List.take_append_drop]
theorem insPt_length (l : List Pt) (p : Pt) : (insPt l p).length = l.length + 1 := (insPt_perm l p).length_eq
theorem insAll_perm (l : List Pt) : (insAll l).Perm l := by
  have : ∀ (l acc : List Pt), (l.foldl insPt acc).Perm (acc ++ l) := by
    intro l
    induction l with
    | nil => intro acc; simp
    | cons p l ih =>
      intro acc
      refine (ih _).trans ?_
      refine ((insPt_perm acc p).append_right l).trans ?_
      rw [List.cons_append]
      exact List.perm_middle.symm
  simpa [insAll] using this l []
theorem insAll_length (l : List Pt) : (insAll l).length = l.length := (insAll_perm l).length_eq
theorem posPt_le (l : List Pt) (p : Pt) : posPt l p ≤ l.length := List.findIdx_le_length
theorem posPt_of {l : List Pt} {p : Pt} {i : Nat} (hi : i ≤ l.length) (hlo : ∀ k, k < i → ltPt (l.getD k Rg.d0) p = true) (hhi : i < l.length → ltPt (l.getD i Rg.d0) p = false) : posPt l p = i := by
  unfold posPt
  by_cases he : i < l.length
  · rw [List.findIdx_eq he]
    have h1 := hhi he
    rw [gD he] at h1
    refine ⟨by simp [h1], fun j hj => ?_⟩
    have h2 := hlo j hj
    rw [gD (by omega)] at h2
    simp [h2]
  · have : i = l.length := by omega
    subst this
    rw [List.findIdx_eq_length]
    intro x hx
    obtain ⟨j, hj, rfl⟩ := List.getElem_of_mem hx
    have h2 := hlo j hj
    rw [gD hj] at h2
    simp [h2]
theorem insPt_sorted {l : List Pt} (p : Pt) (h : l.Pairwise fun x y => ltPt y x = false) : (insPt l p).Pairwise fun x y => ltPt y x = false := by
  have hlo : ∀ x ∈ l.take (posPt l p), ltPt x p = true := by
    intro x hx
    obtain ⟨j, hj, rfl⟩ := List.getElem_of_mem hx
    have hj' : j < posPt l p := by simp at hj; omega
    have := List.not_of_lt_findIdx (p := fun q => !ltPt q p) (xs := l) hj'
    simpa using this
  have hhi : ∀ x ∈ l.drop (posPt l p), ltPt x p = false := by
    by_cases he : posPt l p < l.length
    · have h0 : ltPt (l[posPt l p]) p = false := by
        have := List.findIdx_getElem (p := fun q => !ltPt q p) (xs := l) (w := he)
        have t : (!ltPt (l[posPt l p]) p) = true := this
        cases hq : ltPt (l[posPt l p]) p
        · rfl
        · rw [hq] at t; cases t
      intro x hx
      rw [List.drop_eq_getElem_cons he] at hx
      rcases List.mem_cons.1 hx with rfl | hx
      · exact h0
      · obtain ⟨j, hj, rfl⟩ := List.getElem_of_mem hx
        rw [List.getElem_drop]
        have hjl : posPt l p + 1 + j < l.length := by simp at hj; omega
        have h1 := List.pairwise_iff_getElem.1 h (posPt l p) (posPt l p + 1 + j) he hjl (by omega)
        refine (ltPt_false _ _).2 ?_
        have := (ltPt_false _ _).1 h0
        have := (ltPt_false _ _).1 h1
        omega
    · rw [List.drop_eq_nil_of_le (by omega)]; simp
  unfold insPt
  rw [List.pairwise_append]
  refine ⟨h.sublist (List.take_sublist _ _), ?_, ?_⟩
  · rw [List.pairwise_cons]
    exact ⟨hhi, h.sublist (List.drop_sublist _ _)⟩
  · intro x hx y hy
    have h1 := (ltPt_iff _ _).1 (hlo x hx)
    refine (ltPt_false _ _).2 ?_
    rcases List.mem_cons.1 hy with rfl | hy
    · omega
    · have := (ltPt_false _ _).1 (hhi y hy); omega
theorem insAll_sorted (l : List Pt) : (insAll l).Pairwise fun x y => ltPt y x = false := by
  have : ∀ (l acc : List Pt), acc.Pairwise (fun x y => ltPt y x = false) → (l.foldl insPt acc).Pairwise fun x y => ltPt y x = false := by
    intro l
    induction l with
    | nil => intro acc h; exact h
    | cons p l ih => intro acc h; exact ih _ (insPt_sorted p h)
  exact this l [] List.Pairwise.nil
theorem insAll_sort (l : List Pt) : insAll l = sortPts l := by
  refine List.Perm.eq_of_pairwise (le := fun x y => ltPt y x = false) (fun a b _ _ h1 h2 => totPt a b h2 h1) (insAll_sorted l) (sortPts_sorted l) ?_
  exact (insAll_perm l).trans (sortPts_perm l).symm

/-- the reference's Next after k points -/
def refNext (P : List Pt) (s : Nat) (most : Int) (k : Nat) : List Nat := (Rg.metTo P s k).take most.toNat
theorem refNext_zero (P : List Pt) (s : Nat) (most : Int) : refNext P s most 0 = [] := by simp [refNext, Rg.metTo]
theorem refNext_length (P : List Pt) (s : Nat) (most : Int) (k : Nat) : (refNext P s most k).length ≤ k := by
  unfold refNext; rw [List.length_take]; have := Rg.metTo_length P s k; omega
theorem refNext_had {P : List Pt} {s : Nat} {most : Int} {k : Nat} (h : Rg.nodeAt P s k ∈ refNext P s most k) : refNext P s most (k + 1) = refNext P s most k := by
  unfold refNext
  simp only [Rg.metTo]
  rw [if_pos (List.mem_of_mem_take h)]
theorem refNext_full {P : List Pt} {s : Nat} {most : Int} {k : Nat} (h : most ≤ (refNext P s most k).length) : refNext P s most (k + 1) = refNext P s most k := by
  unfold refNext at *
  simp only [Rg.metTo]
  split
  · rfl
  · rw [List.length_take] at h
    rw [List.take_append_of_le_length (by omega)]
theorem refNext_new {P : List Pt} {s : Nat} {most : Int} {k : Nat} (h : Rg.nodeAt P s k ∉ refNext P s most k) (h2 : ((refNext P s most k).length : Int) < most) : refNext P s most (k + 1) = refNext P s most k ++ [Rg.nodeAt P s k] := by
  unfold refNext at *
  rw [List.length_take] at h2
  have e : (Rg.metTo P s k).length < most.toNat := by omega
  have e1 : (Rg.metTo P s k).take most.toNat = Rg.metTo P s k := List.take_of_length_le (by omega)
  rw [e1] at h ⊢
  simp only [Rg.metTo]
  rw [if_neg h, List.take_of_length_le (by rw [List.length_append, List.length_cons, List.length_nil]; omega)]
theorem refNext_end (P : List Pt) (h : Nat) (most : Int) : refNext P (Rg.lb P h) most P.length = Rg.nextOf (Rg.met P h) most := rfl

theorem metTo_nodup (P : List Pt) (s k : Nat) : (Rg.metTo P s k).Nodup := by
  induction k with
  | zero => simp [Rg.metTo]
  | succ k ih =>
    simp only [Rg.metTo]
    split
    · exact ih
    · rename_i h
      rw [List.nodup_append]
      exact ⟨ih, by simp, fun a ha b hb e => by
        have hb' : b = Rg.nodeAt P s k := by simpa using hb
        rw [e, hb'] at ha
        exact h ha⟩
theorem nodup_sub_length : ∀ (l m : List Nat), l.Nodup → (∀ x ∈ l, x ∈ m) → l.length ≤ m.length
  | [], m, _, _ => by simp
  | a :: l, m, hn, hs => by
    have ha := hs a (by simp)
    have hn' := List.nodup_cons.1 hn
    have := nodup_sub_length l (m.erase a) hn'.2 (fun x hx => (List.mem_erase_of_ne (fun e => hn'.1 (by rw [← e]; exact hx))).2 (hs x (List.mem_cons_of_mem _ hx)))
    rw [List.length_erase_of_mem ha] at this
    have : 0 < m.length := List.length_pos_of_mem ha
    simp; omega
theorem ringL_length (ns : List Int) (key : ByteArray) : (ringL ns key).length ≤ ns.length := by
  have := nodup_sub_length (ringL ns key) (ns.map Int.toNat) (metTo_nodup _ _ _) (fun x hx => by
    obtain ⟨y, hy, rfl⟩ := ringL_mem hx
    exact List.mem_map.2 ⟨y, hy, rfl⟩)
  simpa using this

/-- what is wanted of the nodes from place i on -/
def wantOf (l : List Nat) (zs : List Int) (i : Nat) : Int := match Rg.firstOf (l.drop i) zs with
  | some x => (x : Int)
  | none => -1
theorem wantOf_end (l : List Nat) (zs : List Int) : wantOf l zs l.length = -1 := by simp [wantOf, Rg.firstOf]
theorem wantOf_yes {l : List Nat} {zs : List Int} {i : Nat} (hi : i < l.length) (h : ((l.getD i 0 : Nat) : Int) ∈ zs) : wantOf l zs i = ((l.getD i 0 : Nat) : Int) := by
  unfold wantOf Rg.firstOf
  rw [gD hi] at h ⊢
  rw [List.drop_eq_getElem_cons hi, List.find?_cons_of_pos (by simpa using h)]
theorem wantOf_no {l : List Nat} {zs : List Int} {i : Nat} (hi : i < l.length) (h : ((l.getD i 0 : Nat) : Int) ∉ zs) : wantOf l zs i = wantOf l zs (i + 1) := by
  unfold wantOf Rg.firstOf
  rw [gD hi] at h
  rw [List.drop_eq_getElem_cons hi, List.find?_cons_of_neg (by simpa using h)]
end Go.Proofs.YtphhafaoccfdpaaDoor
