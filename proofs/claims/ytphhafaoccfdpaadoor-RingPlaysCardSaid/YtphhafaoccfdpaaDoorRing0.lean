/- The ring in plain words: points, the walk over nodes. -/
namespace Go.Proofs.YtphhafaoccfdpaaDoor.Rg
structure Pt where
  at_ : Nat
  node : Nat
  deriving Inhabited
def d0 : Pt := ⟨0, 0⟩
def cmpN (a b : Nat) : Int := if a < b then -1 else if b < a then 1 else 0
/-- how many stand ahead of a place -/
def lb (P : List Pt) (h : Nat) : Nat := P.findIdx fun p => decide (h ≤ p.at_)
def Rising (P : List Pt) : Prop := ∀ a b, a ≤ b → b < P.length → (P.getD a d0).at_ ≤ (P.getD b d0).at_
theorem lb_le (P : List Pt) (h : Nat) : lb P h ≤ P.length := List.findIdx_le_length
theorem lb_of {P : List Pt} {h i : Nat} (hi : i ≤ P.length) (hlo : ∀ k, k < i → (P.getD k d0).at_ < h) (hhi : ∀ k, i ≤ k → k < P.length → h ≤ (P.getD k d0).at_) : lb P h = i := by
  unfold lb
  by_cases he : i < P.length
  · rw [List.findIdx_eq he]
    have h1 := hhi i (Nat.le_refl _) he
    rw [List.getD_eq_getElem?_getD, List.getElem?_eq_getElem he] at h1
    refine ⟨by simpa using h1, fun j hj => ?_⟩
    have h2 := hlo j hj
    rw [List.getD_eq_getElem?_getD, List.getElem?_eq_getElem (show j < P.length by omega)] at h2
    simpa using h2
  · have : i = P.length := by omega
    subst this
    rw [List.findIdx_eq_length]
    intro x hx
    obtain ⟨j, hj, rfl⟩ := List.getElem_of_mem hx
    have h2 := hlo j hj
    rw [List.getD_eq_getElem?_getD, List.getElem?_eq_getElem hj] at h2
    simpa using h2
/-- the node that is met at step i from a place on -/
def nodeAt (P : List Pt) (s i : Nat) : Nat := (P.getD ((s + i) % P.length) d0).node
/-- the nodes that are met in the first k steps, each once -/
def metTo (P : List Pt) (s : Nat) : Nat → List Nat
  | 0 => []
  | k + 1 => if nodeAt P s k ∈ metTo P s k then metTo P s k else metTo P s k ++ [nodeAt P s k]
def met (P : List Pt) (h : Nat) : List Nat := metTo P (lb P h) P.length
def bools (l : List Nat) : List Bool := (List.range 64).map fun n => decide (n ∈ l)
theorem bools_length (l : List Nat) : (bools l).length = 64 := by simp [bools]
theorem bools_nil : bools [] = List.replicate 64 false := by simp [bools]; decide
theorem bools_getD (l : List Nat) (n : Nat) (hn : n < 64) : (bools l).getD n false = decide (n ∈ l) := by
  simp [bools, List.getD_eq_getElem?_getD, List.getElem?_map, List.getElem?_range hn]
theorem bools_set (l : List Nat) (n : Nat) (hn : n < 64) : (bools l).set n true = bools (l ++ [n]) := by
  apply List.ext_getElem?
  intro i
  rw [List.getElem?_set]
  by_cases hi : i < 64
  · simp only [bools, List.getElem?_map, List.getElem?_range hi, Option.map_some, List.length_map, List.length_range]
    by_cases h1 : n = i
    · subst h1; simp [hn]
    · simp [h1, show ¬ i = n from fun h => h1 h.symm]
  · rw [List.getElem?_eq_none (by simp [bools]; omega)]
    by_cases h1 : n = i
    · omega
    · rw [if_neg h1, List.getElem?_eq_none (by simp [bools]; omega)]
theorem bools_same (l : List Nat) (n : Nat) (hn : n < 64) (h : n ∈ l) : (bools l).set n true = bools l := by
  rw [bools_set l n hn]
  simp only [bools]
  apply List.map_congr_left
  intro a _
  by_cases e : a = n
  · subst e; simp [h]
  · simp [e]
theorem metTo_mem {P : List Pt} {s k x : Nat} (h : x ∈ metTo P s k) : ∃ i, i < k ∧ x = nodeAt P s i := by
  induction k with
  | zero => simp [metTo] at h
  | succ k ih =>
    simp only [metTo] at h
    split at h
    · obtain ⟨i, hi, e⟩ := ih h; exact ⟨i, by omega, e⟩
    · rcases List.mem_append.1 h with h | h
      · obtain ⟨i, hi, e⟩ := ih h; exact ⟨i, by omega, e⟩
      · exact ⟨k, by omega, by simpa using h⟩
theorem metTo_prefix (P : List Pt) (s : Nat) {k n : Nat} (h : k ≤ n) : metTo P s k <+: metTo P s n := by
  induction n with
  | zero => obtain rfl : k = 0 := by omega
            exact List.prefix_refl _
  | succ n ih =>
    by_cases e : k = n + 1
    · subst e; exact List.prefix_refl _
    · have := ih (by omega)
      simp only [metTo]
      split
      · exact this
      · exact this.trans (List.prefix_append _ _)
theorem metTo_one (P : List Pt) (s : Nat) : metTo P s 1 = [nodeAt P s 0] := by simp [metTo]
theorem met_ne {P : List Pt} (h : P ≠ []) (k : Nat) : met P k ≠ [] := by
  have hl : 1 ≤ P.length := by cases P with | nil => exact absurd rfl h | cons a t => simp
  have := metTo_prefix P (lb P k) hl
  rw [metTo_one] at this
  intro e
  unfold met at e
  rw [e] at this
  simpa using this.length_le
/-- the first one of some -/
def firstOf (l : List Nat) (zs : List Int) : Option Nat := l.find? fun (n : Nat) => decide ((n : Int) ∈ zs)
theorem firstOf_some {l : List Nat} {zs : List Int} {pre : List Nat} {x : Nat} (h : pre ++ [x] <+: l) (hn : ∀ y ∈ pre, ((y : Nat) : Int) ∉ zs) (hx : (x : Int) ∈ zs) : firstOf l zs = some x := by
  obtain ⟨t, rfl⟩ := h
  unfold firstOf
  rw [List.append_assoc, List.find?_append]
  have : pre.find? (fun (n : Nat) => decide ((n : Int) ∈ zs)) = none := by
    rw [List.find?_eq_none]; intro y hy; simpa using hn y hy
  rw [this]
  simp [hx]
theorem firstOf_none {l : List Nat} {zs : List Int} (hn : ∀ y ∈ l, ((y : Nat) : Int) ∉ zs) : firstOf l zs = none := by
  unfold firstOf
  rw [List.find?_eq_none]; intro y hy; simpa using hn y hy
/-- the first ones -/
def nextOf (l : List Nat) (most : Int) : List Nat := l.take most.toNat
theorem nextOf_all {l : List Nat} {most : Int} (h : l = [] ∨ (l.length : Int) ≤ most) : nextOf l most = l := by
  unfold nextOf
  rcases h with rfl | h
  · simp
  · exact List.take_of_length_le (by omega)
theorem nextOf_some {l pre : List Nat} {x : Nat} {most : Int} (h : pre ++ [x] <+: l) (h1 : pre = [] ∨ (pre.length : Int) ≤ most) (h2 : most ≤ pre.length) : nextOf l most = pre := by
  obtain ⟨t, rfl⟩ := h
  unfold nextOf
  have : most.toNat = pre.length := by
    rcases h1 with rfl | h1
    · simp at h2 ⊢; omega
    · omega
  rw [this, List.append_assoc, List.take_left]
theorem metTo_length (P : List Pt) (s k : Nat) : (metTo P s k).length ≤ k := by
  induction k with
  | zero => simp [metTo]
  | succ k ih => simp only [metTo]; split
                 · omega
                 · simp; omega
theorem met_length (P : List Pt) (k : Nat) : (met P k).length ≤ P.length := metTo_length _ _ _
end Go.Proofs.YtphhafaoccfdpaaDoor.Rg
