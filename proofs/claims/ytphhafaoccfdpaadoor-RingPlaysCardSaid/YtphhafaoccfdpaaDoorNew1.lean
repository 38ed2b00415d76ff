/- Walks: slices.Values, AppendSeq, Collect, Sorted, at whole numbers. -/
import Derived.Test.YtphhafaoccfdpaaDoorRing6
import Derived.Test.YtphhafaoccfdpaaDoorShelf
namespace Go.Proofs.YtphhafaoccfdpaaDoor
open Go.RowKit Go.Shelf
open Go.Proofs
set_option maxHeartbeats 800000
set_option maxRecDepth 100000
attribute [local go_sem] Oper.semAt_some

theorem yieldRound {P : Program} {m l : Nat} {fn : FuncId} {tmps : Array Value} {ps : Array Tmp} {assign body : Code} {D : Nat} {args : Array Value} {W : World} {R : Ending → World → Prop} (a₁ : Act)
    (hl : W.heap[l]? = some (.loop (recOf fn tmps ps assign body D .ready none))) (hps : args.size = ps.size)
    (hassign : ∀ K : Act → World → Prop, K a₁ W → assign.wpIn (Fence.wide.inRound l) m P (Exit.then K (fun _ _ _ => False)) { tmps := (ps.zip args).foldl (fun t (p, v) => t.setIfInBounds p v) tmps, defers := [] } W)
    (hbody : ∀ W2 : World, W2.heap[l]? = some (.loop (recOf fn tmps ps assign body D .busy none)) → (∀ k, k ≠ l → W2.heap[k]? = W.heap[k]?) → W2.heap.size = W.heap.size → (∀ B, B ≤ l → Below B W W2) →
      body.wpIn (Fence.wide.inRound l) m P (rPost l (recOf fn tmps ps assign body D) R) a₁ W2) :
    YieldAt Fence.wide m P l args W R := by
  refine yieldAt_wide hl hps (hassign _ ⟨hl, hbody _ (World.putObj_heap_same (block_lt_of_heap hl)) (fun k hk => World.putObj_heap_other hk) (by simp) (fun B hB => belowPutObj (Below.refl _ _) hB _)⟩)

/-- the iterator over a slice's elements -/
theorem values1_any (v : Value) (zs : List Int) (l bx : Nat) (hz : zs.length ≤ 1000000) (J Jx : List Int → World → Prop) (w : World)
    (hc : w.cell? ⟨bx, 0, none⟩ = some v) (hv : SlInts w v zs) (hJ : ∀ pre W, J pre W → SlInts W v zs)
    (hY : ∀ pre x W, J pre W → pre ++ [x] <+: zs → YieldAt Fence.wide 4 Tryd.prog l #[.int .i64 x] W fun (e : Ending) (W' : World) =>
      (e = .returned (.bool true) ∧ J (pre ++ [x]) W') ∨ (e = .returned (.bool false) ∧ Jx (pre ++ [x]) W'))
    (h0 : J [] w) :
    Calls Tryd.prog 41 #[.func (.yield l) #[] #[], .pointer (some ⟨bx, 0, none⟩)] w fun e W' => (∃ v, e = .returned v) ∧
      (J zs W' ∨ ∃ pre x, pre ++ [x] <+: zs ∧ Jx (pre ++ [x]) W') := by
  obtain ⟨pa, c, rfl, hv⟩ := hv
  replace hv := Lib.hid hv
  replace hJ := Lib.hid hJ
  replace hY := Lib.hid hY
  replace h0 := Lib.hid h0
  go_enter Tryd.func41, Tryd.ntmps41
  go_wp2
  go_loopw [4, 7] (fun _ i wr => ∃ k : Nat, k ≤ zs.length ∧ i = .int .i64 k ∧ Hid (J (zs.take k) wr)) (fun _ i _ => zs.length - (intOf i).toNat)
  case atStart => exact ⟨0, by omega, rfl, h0⟩
  case round =>
    obtain ⟨k, hk, rfl, hJk⟩ := hrel
    by_cases hlt : k < zs.length
    · obtain ⟨pa', c', e', hvk⟩ := hJ.out _ _ hJk.out
      cases e'
      obtain ⟨b, o, rfl, hcell⟩ := hvk k hlt
      have htk : Hid (zs.take (k + 1) = zs.take k ++ [zs.getD k 0]) := by
        show _ = _; rw [List.take_succ_eq_append_getElem hlt, List.getD_eq_getElem?_getD, List.getElem?_eq_getElem hlt]; rfl
      replace hvk := Lib.hid hvk
      generalize zs.getD k 0 = x at *
      obtain ⟨fn, tmps, assign, body, hy, hRd⟩ := hY.out (zs.take k) x wr hJk.out (by rw [← htk.out]; exact List.take_prefix _ _)
      go_upto_region 3 with (fail)
      refine (wpIn_wide (n := 5)).1 ?_
      gi_wp2
      refine hRd.mono ?_
      rintro e W5 (⟨rfl, hJ5⟩ | ⟨rfl, hJ5⟩)
      · replace hJ5 := Lib.hid hJ5
        clear hRd hy
        gi_wp2
        go_wp2
        refine ⟨⟨k + 1, by omega, by go_num, ?_⟩, by simp [intOf]; omega⟩
        show J _ _; rw [htk.out]; exact hJ5.out
      · replace hJ5 := Lib.hid hJ5
        gi_wp2
        go_wp2
        refine bodyPost_ret (results_none rfl _ _ _) rfl ?_
        refine ⟨⟨_, rfl⟩, .inr ⟨zs.take k, x, ?_, hJ5.out⟩⟩
        rw [← htk.out]; exact List.take_prefix _ _
    · obtain rfl : k = zs.length := by omega
      go_wp2
      go_end0
      refine ⟨⟨_, rfl⟩, .inl ?_⟩
      have := hJk.out
      rwa [List.take_length] at this

/-- what an append to a row of whole numbers leaves -/
def ivI (l : List Int) : List Value := l.map fun (x : Int) => Value.int .i64 x
end Go.Proofs.YtphhafaoccfdpaaDoor
