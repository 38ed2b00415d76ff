/- Walks: Lower, the program's and the reference's. -/
import Derived.Test.YtphhafaoccfdpaaDoorShaW5
import Derived.Laws.IdiomStrings
import Derived.Lib.BufferMore
namespace Go.Proofs.YtphhafaoccfdpaaDoor
open Go.RowKit
open Go.Proofs
set_option maxHeartbeats 800000
set_option maxRecDepth 100000

def lowN (c : Nat) : Nat := if 65 ≤ c ∧ c ≤ 90 then c + 32 else c
def lowTo (l : List Nat) (k : Nat) : List Nat := (l.take k).map lowN ++ l.drop k
/-- a text with small letters -/
def lowS (s : ByteArray) : ByteArray := strN ((nums s).map lowN)
theorem lowTo_zero (l : List Nat) : lowTo l 0 = l := by simp [lowTo]
theorem lowTo_end (l : List Nat) : lowTo l l.length = l.map lowN := by simp [lowTo]
theorem lowTo_length (l : List Nat) (k : Nat) : (lowTo l k).length = l.length := by simp [lowTo]; omega
theorem lowTo_getD (l : List Nat) (k : Nat) (h : k < l.length) : (lowTo l k).getD k 0 = l.getD k 0 := by
  simp only [lowTo, List.getD_eq_getElem?_getD]
  rw [List.getElem?_append_right (by simp; omega)]
  simp [Nat.min_eq_left (Nat.le_of_lt h)]
theorem lowTo_succ (l : List Nat) (k : Nat) (h : k < l.length) : lowTo l (k + 1) = (lowTo l k).set k (lowN (l.getD k 0)) := by
  simp only [lowTo]
  rw [List.set_append_right _ _ (by simp; omega)]
  simp only [List.length_map, List.length_take, Nat.min_eq_left (Nat.le_of_lt h), Nat.sub_self]
  rw [List.take_succ_eq_append_getElem h, List.map_append, List.append_assoc]
  congr 1
  have hg : l.getD k 0 = l[k] := by simp [List.getD_eq_getElem?_getD, h]
  rw [hg, List.drop_eq_getElem_cons h, List.set_cons_zero]
  rfl
theorem lowTo_same (l : List Nat) (k : Nat) (h : k < l.length) (hc : lowN (l.getD k 0) = l.getD k 0) : lowTo l (k + 1) = lowTo l k := by
  rw [lowTo_succ l k h, hc]
  apply List.ext_getElem?
  intro i
  rw [List.getElem?_set]
  by_cases e : k = i
  · subst e
    have hl : k < (lowTo l k).length := by rw [lowTo_length]; exact h
    rw [if_pos rfl, if_pos hl, List.getElem?_eq_getElem hl, ← lowTo_getD l k h]
    simp [List.getD_eq_getElem?_getD, List.getElem?_eq_getElem hl]
  · rw [if_neg e]
theorem lowN_lt {c : Nat} (h : c < 256) : lowN c < 256 := by unfold lowN; split <;> omega
theorem low_or (c : Nat) (h1 : 65 ≤ c) (h2 : c ≤ 90) : bits .or .u8 (c : Int) 32 = ((c + 32 : Nat) : Int) := by
  have : ∀ n : Fin 26, bits .or .u8 ((65 + n.val : Nat) : Int) 32 = ((65 + n.val + 32 : Nat) : Int) := by decide
  have h := this ⟨c - 65, by omega⟩
  simp only [show 65 + (c - 65) = c by omega] at h
  exact h
/-- a row that holds a text's bytes, and noughts behind -/
def bytesAt (w : World) (g : Nat) (l : List Nat) (z : Nat) : Prop := w.heap[g]? = some (.cells (bs (l ++ List.replicate z 0)) 5 (l.length + z, l.length + z + 1))
theorem bytesRow_bs (s : ByteArray) (c : Nat) : bytesRow s c = bs (nums s ++ List.replicate (c - s.size) 0) := by
  apply Array.ext'
  simp [bytesRow, bs, nums, List.map_map, Function.comp_def]
theorem bytesAt_new (w : World) (s : ByteArray) (c : Nat) : bytesAt (w.alloc (.cells (bytesRow s c) 5 ((bytesRow s c).size, (bytesRow s c).size + 1))).drew w.heap.size (nums s) (c - s.size) := by
  have e : (bytesRow s c).size = (nums s).length + (c - s.size) := by rw [bytesRow_bs, bs_size]; simp
  have := heap_alloc_new w (.cells (bytesRow s c) 5 ((bytesRow s c).size, (bytesRow s c).size + 1))
  unfold bytesAt
  rw [e] at this ⊢
  rw [bytesRow_bs] at this ⊢
  exact this
theorem bytesAt.cell {w : World} {g : Nat} {l : List Nat} {z : Nat} (h : bytesAt w g l z) {k : Nat} (hk : k < l.length) : w.cell? ⟨g, k, none⟩ = some (.int .u8 ((l.getD k 0 : Nat) : Int)) := by
  rw [cellAt h, bs_at _ _ (by simp; omega)]
  simp only [List.getD_eq_getElem?_getD]
  rw [List.getElem?_append_left hk]
theorem bytesAt.free {w : World} {g : Nat} {l : List Nat} {z : Nat} (h : bytesAt w g l z) {k : Nat} (hk : k < l.length) : w.frozen? ⟨g, k, none⟩ = false := by
  unfold bytesAt at h
  simp [World.frozen?, h]
  omega
theorem bytesAt.set {w : World} {g : Nat} {l : List Nat} {z : Nat} (h : bytesAt w g l z) {k : Nat} (hk : k < l.length) (x : Nat) : bytesAt (w.setCell ⟨g, k, none⟩ (.int .u8 (x : Int))) g (l.set k x) z := by
  unfold bytesAt at h ⊢
  rw [Lib.heap_setCell_same h, bs_set, List.set_append_left _ _ hk, List.length_set]
theorem bytesAt.string {w : World} {g : Nat} {l : List Nat} {z : Nat} (h : bytesAt w g l z) (c : Nat) :
    (convert 62 9 (.slice (some ⟨g, 0, none⟩) l.length c)).run Tryd.prog w = .ok (.string (strN l)) w := by
  have h' := run_convert_bytes_arg (P := Tryd.prog) w 62 5 (by kernel_rfl) (by kernel_rfl) g 0 l.length c (l.map fun (x : Nat) => (x : Int)) (by simp) (by
    intro i hi
    rw [Nat.zero_add, h.cell hi]
    simp [List.getD_eq_getElem?_getD, hi]) 9 (by kernel_rfl)
  rw [h']
  congr 2
  simp only [strOfNums, strN, List.map_map]
  congr 2
theorem uStr_ : Tryd.prog.underlying 9 = some .string := by kernel_rfl
theorem uBy_ : Tryd.prog.underlying 62 = some (.slice 5) := by kernel_rfl
theorem uU8_ : Tryd.prog.underlying 5 = some (.int .u8) := by kernel_rfl

theorem Lower_any (s : ByteArray) (w : World) (hs : s.size ≤ 281474976710656) :
    Calls Tryd.prog 37 #[.string s] w fun e w' => e = .returned (.string (lowS s)) ∧ Below w.heap.size w w' := by
  have hcv := fun w s => run_bytes_of_string (P := Tryd.prog) w 9 62 5 s uStr_ uBy_ uU8_
  have hnl : Hid ((nums s).length = s.size) := nums_length s
  have hlt_ : Hid (∀ x ∈ nums s, x < 256) := nums_lt s
  have hend : Hid (lowS s = strN (lowTo (nums s) s.size)) := by show _ = _; rw [← nums_length, lowTo_end]; rfl
  go_enter Tryd.func37, Tryd.ntmps37
  go_wp2
  generalize grownCap w s.size 0 5 = c
  have hA := bytesAt_new w s c
  have hB : Below w.heap.size w (w.alloc (.cells (bytesRow s c) 5 ((bytesRow s c).size, (bytesRow s c).size + 1))).drew := ((Below.refl _ _).alloc (Nat.le_refl _) _).drew
  generalize World.drew _ = W1 at *
  rw [← lowTo_zero (nums s)] at hA
  replace hA := Lib.hid hA
  replace hB := Lib.hid hB
  clear hcv
  generalize nums s = l at *
  generalize c - s.size = z at *
  go_loopw [4, 9] (fun _ i wr => ∃ k : Nat, k ≤ s.size ∧ i = .int .i64 k ∧ Hid (bytesAt wr w.heap.size (lowTo l k) z) ∧ Hid (Below w.heap.size w wr)) (fun _ i _ => s.size - (intOf i).toNat)
  case atStart => exact ⟨0, by omega, rfl, hA, hB⟩
  case round =>
    obtain ⟨k, hk, rfl, hA', hB'⟩ := hrel
    clear hA hB
    by_cases hlt : k < s.size
    · have hkl : k < (lowTo l k).length := by rw [lowTo_length, hnl.out]; exact hlt
      have hkl' : k < l.length := by rw [hnl.out]; exact hlt
      have cc := hA'.out.cell hkl
      have cf := hA'.out.free hkl
      rw [lowTo_getD _ _ hkl'] at cc
      have e2 : Hid (lowTo l (k + 1) = (lowTo l k).set k (lowN (l.getD k 0))) := lowTo_succ l k hkl'
      have e3 : Hid (lowN (l.getD k 0) = l.getD k 0 → lowTo l (k + 1) = lowTo l k) := lowTo_same l k hkl'
      generalize l.getD k 0 = ch at *
      replace hkl := Lib.hid hkl
      clear hkl'
      by_cases h1 : 65 ≤ ch
      · by_cases h2 : ch ≤ 90
        · have hor := low_or ch h1 h2
          have e4 : Hid (lowN ch = ch + 32) := by show _ = _; simp [lowN, h1, h2]
          go_wp2
          go_roundw
          case rel => exact ⟨k + 1, by omega, by go_num, by show bytesAt _ _ _ _; rw [e2.out, e4.out]; exact hA'.out.set hkl.out _, by show Below _ _ _; exact hB'.out.setCell (Nat.le_refl _) _⟩
          case measure => simp [intOf]; omega
        · have e4 : Hid (lowN ch = ch) := by show _ = _; simp [lowN, h2]
          go_wp2
          go_roundw
          case rel => exact ⟨k + 1, by omega, by go_num, by show bytesAt _ _ _ _; rw [e3.out e4.out]; exact hA'.out, hB'⟩
          case measure => simp [intOf]; omega
      · have e4 : Hid (lowN ch = ch) := by show _ = _; simp [lowN, h1]
        go_wp2
        go_roundw
        case rel => exact ⟨k + 1, by omega, by go_num, by show bytesAt _ _ _ _; rw [e3.out e4.out]; exact hA'.out, hB'⟩
        case measure => simp [intOf]; omega
    · obtain rfl : k = s.size := by omega
      have hst := hA'.out.string c
      rw [lowTo_length, hnl.out] at hst
      go_wp2
      go_ret
      exact ⟨by show Ending.returned (.string (strN (lowTo l s.size))) = _; rw [hend.out], hB'.out⟩
end Go.Proofs.YtphhafaoccfdpaaDoor
