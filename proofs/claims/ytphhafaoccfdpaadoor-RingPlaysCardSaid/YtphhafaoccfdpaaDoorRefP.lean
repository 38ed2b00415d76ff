/- The reference's answers as plain functions: its sha and its ring equal the program's. -/
import Derived.Test.YtphhafaoccfdpaaDoorSha
import Derived.Test.YtphhafaoccfdpaaDoorRing0
namespace Go.Proofs.YtphhafaoccfdpaaDoor.Sha
/-- what the reference's schedule holds after t rounds -/
def expR (w : List Nat) (t : Nat) : List Nat := if t ≤ 16 then w.take t ++ List.replicate (64 - t) 0 else expTo w (t - 16)
theorem expR_length {w : List Nat} (h : w.length = 16) (t : Nat) (ht : t ≤ 64) : (expR w t).length = 64 := by
  unfold expR
  split
  · simp; omega
  · rw [expTo_length]; omega
theorem expR_zero (w : List Nat) : expR w 0 = List.replicate 64 0 := by simp [expR]
theorem expR_low {w : List Nat} (h : w.length = 16) (t : Nat) (ht : t < 16) : expR w (t + 1) = (expR w t).set t (w.getD t 0) := by
  unfold expR
  rw [if_pos (by omega), if_pos (by omega)]
  have hl : (w.take t).length = t := by simp; omega
  rw [List.set_append_right _ _ (by omega), hl, Nat.sub_self]
  rw [List.take_succ_eq_append_getElem (show t < w.length by omega), List.append_assoc]
  congr 1
  rw [show 64 - t = (64 - (t + 1)) + 1 by omega, List.replicate_succ]
  simp [List.getD_eq_getElem?_getD, List.getElem?_eq_getElem (show t < w.length by omega)]
theorem expR_high {w : List Nat} (h : w.length = 16) (t : Nat) (ht : 16 ≤ t) : expR w (t + 1) = (expR w t).set t (nextE (expR w t) t) := by
  have e : expR w t = expTo w (t - 16) := by
    unfold expR
    split
    · obtain rfl : t = 16 := by omega
      simp [expTo]
      rw [List.take_of_length_le (by omega)]
    · rfl
  have e2 : expR w (t + 1) = expTo w (t - 16 + 1) := by
    unfold expR; rw [if_neg (by omega), show t + 1 - 16 = t - 16 + 1 by omega]
  rw [e2, e]
  simp only [expTo, stepE]
  rw [show t - 16 + 16 = t by omega]
theorem expR_u32 {w : List Nat} (h : U32 w) (t : Nat) : U32 (expR w t) := by
  unfold expR
  split
  · intro x hx
    rcases List.mem_append.1 hx with hx | hx
    · exact h x (List.mem_of_mem_take hx)
    · have := (List.mem_replicate.1 hx).2; omega
  · exact expTo_u32 h _
theorem expR_end (w : List Nat) : expR w 64 = expTo w 48 := by unfold expR; rw [if_neg (by omega)]
theorem addTo_comm (h s : List Nat) : addTo s h 8 = addTo h s 8 := by
  unfold addTo
  apply List.map_congr_left
  intro i hi
  have : i < 8 := by simpa using hi
  simp only [if_pos this, Nat.add_comm]
/-- the reference's Pad, growing -/
def padZ (z : Nat) : List Nat := 128 :: List.replicate z 0
def padR (n k : Nat) : List Nat := padZ (noughts n) ++ (List.range k).map fun j => lenB n j
theorem padZ_length (z : Nat) : (padZ z).length = z + 1 := by simp [padZ]
theorem padZ_succ (z : Nat) : padZ (z + 1) = padZ z ++ [0] := by simp [padZ, List.replicate_succ']
theorem padR_zero (n : Nat) : padR n 0 = padZ (noughts n) := by simp [padR]
theorem padR_succ (n k : Nat) : padR n (k + 1) = padR n k ++ [lenB n k] := by simp [padR, List.range_succ]
theorem padR_end (n : Nat) : padR n 8 = pad n := by
  unfold padR pad padTo padZ
  simp only [List.cons_append, List.cons.injEq, true_and, List.append_cancel_left_eq]
  apply List.map_congr_left
  intro j _
  rw [if_pos (by omega)]
theorem padR_length (n k : Nat) : (padR n k).length = noughts n + 1 + k := by simp [padR, padZ_length]
theorem padR_lt (n k : Nat) : ∀ x ∈ padR n k, x < 256 := by
  intro x hx
  simp only [padR, padZ, List.cons_append, List.mem_cons, List.mem_append, List.mem_replicate, List.mem_map, List.mem_range] at hx
  rcases hx with rfl | ⟨_, rfl⟩ | ⟨j, _, rfl⟩
  · omega
  · omega
  · exact Nat.mod_lt _ (by omega)
/-- a word, byte by byte -/
def wordR (l : List Nat) (i c : Nat) : Nat := match c with
  | 0 => 0
  | c + 1 => wordR l i c * 256 + l.getD (4 * i + c) 0
theorem or_add (a b n : Nat) (hb : b < 2 ^ n) : a * 2 ^ n ||| b = a * 2 ^ n + b := by
  rw [Nat.mul_comm, Nat.two_pow_add_eq_or_of_lt hb]
theorem wordR_lt {l : List Nat} (h : ∀ x ∈ l, x < 256) (i c : Nat) : wordR l i c < 256 ^ c := by
  have g : ∀ j, l.getD j 0 < 256 := fun j => by
    rw [List.getD_eq_getElem?_getD]
    cases hj : l[j]? with
    | none => simp
    | some v => simpa using h v (List.mem_of_getElem? hj)
  induction c with
  | zero => simp [wordR]
  | succ c ih =>
    have := g (4 * i + c)
    simp only [wordR]
    calc wordR l i c * 256 + l.getD (4 * i + c) 0 < (wordR l i c + 1) * 256 := by omega
      _ ≤ 256 ^ c * 256 := Nat.mul_le_mul_right _ ih
      _ = 256 ^ (c + 1) := by rw [Nat.pow_succ]
theorem wordR_end {l : List Nat} (h : ∀ x ∈ l, x < 256) (i : Nat) : wordR l i 4 = word l i := by
  have g : ∀ j, l.getD j 0 < 256 := fun j => by
    rw [List.getD_eq_getElem?_getD]
    cases hj : l[j]? with
    | none => simp
    | some v => simpa using h v (List.mem_of_getElem? hj)
  have g0 := g (4 * i)
  have g1 := g (4 * i + 1)
  have g2 := g (4 * i + 2)
  have g3 := g (4 * i + 3)
  simp only [wordR, word, Nat.add_zero]
  generalize l.getD (4 * i) 0 = a at *
  generalize l.getD (4 * i + 1) 0 = b at *
  generalize l.getD (4 * i + 2) 0 = c at *
  generalize l.getD (4 * i + 3) 0 = d at *
  have e1 : a * 16777216 ||| b * 65536 = a * 16777216 + b * 65536 := by
    have := or_add a (b * 65536) 24 (by omega)
    simpa using this
  have e2 : (a * 16777216 + b * 65536) ||| c * 256 = a * 16777216 + b * 65536 + c * 256 := by
    have := or_add (a * 256 + b) (c * 256) 16 (by omega)
    have e : (a * 256 + b) * 2 ^ 16 = a * 16777216 + b * 65536 := by omega
    rw [e] at this
    exact this
  have e3 : (a * 16777216 + b * 65536 + c * 256) ||| d = a * 16777216 + b * 65536 + c * 256 + d := by
    have := or_add (a * 65536 + b * 256 + c) d 8 (by omega)
    have e : (a * 65536 + b * 256 + c) * 2 ^ 8 = a * 16777216 + b * 65536 + c * 256 := by omega
    rw [e] at this
    exact this
  rw [e1, e2, e3]
  omega
/-- the words after i bytes -/
def wordsR (l : List Nat) (i : Nat) : List Nat := (List.range 16).map fun j => wordR l j (min 4 (i - 4 * j))
theorem wordsR_length (l : List Nat) (i : Nat) : (wordsR l i).length = 16 := by simp [wordsR]
theorem wordsR_zero (l : List Nat) : wordsR l 0 = List.replicate 16 0 := by
  simp [wordsR, wordR, List.map_const']
theorem wordsR_getD (l : List Nat) (i j : Nat) (hj : j < 16) : (wordsR l i).getD j 0 = wordR l j (min 4 (i - 4 * j)) := by
  simp [wordsR, List.getD_eq_getElem?_getD, List.getElem?_map, List.getElem?_range hj]
theorem wordsR_succ (l : List Nat) (i : Nat) (hi : i < 64) : wordsR l (i + 1) = (wordsR l i).set (i / 4) ((wordsR l i).getD (i / 4) 0 * 256 + l.getD i 0) := by
  rw [wordsR_getD _ _ _ (by omega)]
  apply List.ext_getElem?
  intro j
  rw [List.getElem?_set]
  by_cases hj : j < 16
  · simp only [wordsR, List.getElem?_map, List.getElem?_range hj, Option.map_some, List.length_map, List.length_range]
    by_cases e : i / 4 = j
    · subst e
      rw [if_pos rfl, if_pos hj, show min 4 (i + 1 - 4 * (i / 4)) = min 4 (i - 4 * (i / 4)) + 1 by omega]
      simp only [wordR]
      rw [show 4 * (i / 4) + min 4 (i - 4 * (i / 4)) = i by omega]
    · rw [if_neg e]
      congr 2
      omega
  · rw [List.getElem?_eq_none (by simp [wordsR]; omega)]
    by_cases e : i / 4 = j
    · omega
    · rw [if_neg e, List.getElem?_eq_none (by simp [wordsR]; omega)]
theorem wordsR_end {l : List Nat} (h : ∀ x ∈ l, x < 256) : wordsR l 64 = wordsTo l 16 := by
  unfold wordsR wordsTo
  apply List.map_congr_left
  intro j hj
  have : j < 16 := by simpa using hj
  rw [if_pos this, show min 4 (64 - 4 * j) = 4 by omega, wordR_end h]
theorem wordsR_part {l : List Nat} (h : ∀ x ∈ l, x < 256) (i : Nat) (hi : i < 64) : (wordsR l i).getD (i / 4) 0 < 16777216 := by
  rw [wordsR_getD _ _ _ (by omega)]
  have := wordR_lt h (i / 4) (min 4 (i - 4 * (i / 4)))
  refine Nat.lt_of_lt_of_le this ?_
  have e : min 4 (i - 4 * (i / 4)) ≤ 3 := by omega
  exact Nat.le_trans (Nat.pow_le_pow_right (by omega) e) (by decide)
theorem ptR (p d : Nat) (hp : p < 72057594037927936) (hd : d < 256) : (p * 256 % 18446744073709551616) ||| d = p * 256 + d := by
  rw [Nat.mod_eq_of_lt (by omega)]
  exact or_add p d 8 hd
theorem ptTo_part {d : List Nat} (h : ∀ x ∈ d, x < 256) (k : Nat) (hk : k ≤ 8) : ptTo d k < 256 ^ k := by
  have g : ∀ j, d.getD j 0 < 256 := fun j => by
    rw [List.getD_eq_getElem?_getD]
    cases hj : d[j]? with
    | none => simp
    | some v => simpa using h v (List.mem_of_getElem? hj)
  induction k with
  | zero => simp [ptTo]
  | succ k ih =>
    have i := ih (by omega)
    have h7 : (256 : Nat) ^ k ≤ 256 ^ 7 := Nat.pow_le_pow_right (by omega) (by omega)
    have e7 : (256 : Nat) ^ 7 = 72057594037927936 := by decide
    have gk := g k
    simp only [ptTo]
    rw [ptR _ _ (by omega) gk, Nat.pow_succ]
    calc ptTo d k * 256 + d.getD k 0 < (ptTo d k + 1) * 256 := by omega
      _ ≤ 256 ^ k * 256 := Nat.mul_le_mul_right _ i
end Go.Proofs.YtphhafaoccfdpaaDoor.Sha
