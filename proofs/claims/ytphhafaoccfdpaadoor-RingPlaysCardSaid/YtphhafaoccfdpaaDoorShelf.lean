/-
  DERIVED: THE SHELF's CONTRACTS AT THIS DUMP, IN PLAIN WORDS (tools/lay-plain.mjs out of 'YtphhafaoccfdpaaDoorShelf.lean', which tools/lay-shelf.mjs wrote): THE SAME DECLARATIONS UNDER THE SAME NAMES: 'import', 'namespace', 'open', 'def', 'theorem' AND NOTHING ELSE: no command of the shelf's: FOR A HAND-IN. Each laying: the table of numbers ('.._ren') and one theorem, a field a fact of the dump's own or the kernel's comparison; each contract: ONE APPLICATION.
-/
import Derived.Shelf.Sort.Plain
import Derived.Shelf.Slices.CompactI
import Derived.Shelf.Slices.In.SortNone
import Derived.Shelf.SlSortCmp.WholeK
import Derived.Shelf.SlSortCmp.NoneTotal
import Derived.Test.YtphhafaoccfdpaaDoorProg
namespace Go.Proofs
open Go.Shelf
def Tryd.lays189_ren : Go.Shelf.Ren := ⟨fun | 189 => 40 | 125 => 45 | 257 => 54 | 128 => 66 | 129 => 67 | 294 => 71 | 295 => 72 | 296 => 73 | 297 => 74 | 298 => 75 | 299 => 76 | 216 => 77 | 300 => 78 | 301 => 79 | 328 => 93 | 329 => 86 | 330 => 87 | 331 => 94 | 332 => 95 | 215 => 47 | 343 => 100 | n => n, fun | 28 => 22 | 3 => 3 | 46 => 74 | 0 => 0 | 51 => 92 | 53 => 36 | 4 => 4 | 183 => 98 | 182 => 97 | 131 => 29 | 5 => 5 | 9 => 9 | 218 => 126 | 222 => 130 | 228 => 139 | 229 => 140 | n => n, fun | n => n⟩
theorem Tryd.lays189 : Go.Proofs.Lays.n189 Tryd.prog Tryd.lays189_ren := {
  mixed := by kernel_rfl
  f125 := Tryd.func45.trans (congrArg some (by kernel_rfl))
  f128 := Tryd.func66.trans (congrArg some (by kernel_rfl))
  f129 := Tryd.func67.trans (congrArg some (by kernel_rfl))
  f189 := Tryd.func40.trans (congrArg some (by kernel_rfl))
  f215 := Tryd.func47.trans (congrArg some (by kernel_rfl))
  f216 := Tryd.func77.trans (congrArg some (by kernel_rfl))
  f257 := Tryd.func54.trans (congrArg some (by kernel_rfl))
  f294 := Tryd.func71.trans (congrArg some (by kernel_rfl))
  f295 := Tryd.func72.trans (congrArg some (by kernel_rfl))
  f296 := Tryd.func73.trans (congrArg some (by kernel_rfl))
  f297 := Tryd.func74.trans (congrArg some (by kernel_rfl))
  f298 := Tryd.func75.trans (congrArg some (by kernel_rfl))
  f299 := Tryd.func76.trans (congrArg some (by kernel_rfl))
  f300 := Tryd.func78.trans (congrArg some (by kernel_rfl))
  f301 := Tryd.func79.trans (congrArg some (by kernel_rfl))
  f328 := Tryd.func93.trans (congrArg some (by kernel_rfl))
  f329 := Tryd.func86.trans (congrArg some (by kernel_rfl))
  f330 := Tryd.func87.trans (congrArg some (by kernel_rfl))
  f331 := Tryd.func94.trans (congrArg some (by kernel_rfl))
  f332 := Tryd.func95.trans (congrArg some (by kernel_rfl))
  f343 := Tryd.func100.trans (congrArg some (by kernel_rfl))
  t0 := Tryd.underlying0
  a0 := Tryd.isAgg0
  z0 := Tryd.sizeOf0
  v0 := Tryd.zeroValue0
  t3 := Tryd.underlying3
  a3 := Tryd.isAgg3
  z3 := Tryd.sizeOf3
  v3 := Tryd.zeroValue3
  t4 := Tryd.underlying4
  a4 := Tryd.isAgg4
  z4 := Tryd.sizeOf4
  v4 := Tryd.zeroValue4
  t5 := Tryd.underlying5
  a5 := Tryd.isAgg5
  z5 := Tryd.sizeOf5
  v5 := Tryd.zeroValue5
  t9 := Tryd.underlying9
  a9 := Tryd.isAgg9
  z9 := Tryd.sizeOf9
  v9 := Tryd.zeroValue9
  t28 := Tryd.underlying22
  a28 := Tryd.isAgg22
  z28 := Tryd.sizeOf22
  v28 := Tryd.zeroValue22
  t46 := Tryd.underlying74
  a46 := Tryd.isAgg74
  z46 := Tryd.sizeOf74
  v46 := Tryd.zeroValue74
  t51 := Tryd.underlying92
  a51 := Tryd.isAgg92
  z51 := Tryd.sizeOf92
  v51 := Tryd.zeroValue92
  t53 := Tryd.underlying36
  a53 := Tryd.isAgg36
  z53 := Tryd.sizeOf36
  v53 := Tryd.zeroValue36
  t131 := Tryd.underlying29
  a131 := Tryd.isAgg29
  z131 := Tryd.sizeOf29
  v131 := Tryd.zeroValue29
  t182 := Tryd.underlying97
  a182 := Tryd.isAgg97
  z182 := Tryd.sizeOf97
  v182 := Tryd.zeroValue97
  t183 := Tryd.underlying98
  a183 := Tryd.isAgg98
  z183 := Tryd.sizeOf98
  v183 := Tryd.zeroValue98
  t218 := Tryd.underlying126
  a218 := Tryd.isAgg126
  z218 := Tryd.sizeOf126
  v218 := Tryd.zeroValue126
  t222 := Tryd.underlying130
  a222 := Tryd.isAgg130
  z222 := Tryd.sizeOf130
  v222 := Tryd.zeroValue130
  t228 := Tryd.underlying139
  a228 := Tryd.isAgg139
  z228 := Tryd.sizeOf139
  v228 := Tryd.zeroValue139
  t229 := Tryd.underlying140
  a229 := Tryd.isAgg140
  z229 := Tryd.sizeOf140
  v229 := Tryd.zeroValue140 }
open Go.Sort Go.RowKit in
theorem Tryd.slices_Sort_int (blk off cap : Nat) (zs : List Int) (w : World) (hH : Holds (Value.int .i64) w blk off zs.toArray) (hblk : blk < w.heap.size) (hsz : zs.length < 4611686018427387904) :
    Calls Tryd.prog 40 #[.slice (some ⟨blk, off, none⟩) zs.length cap] w fun e w' =>
      e = .returned (.tuple #[]) ∧ ∃ n os, w' = grow (putRow (Value.int .i64) (Sort.ahead w n) blk off (zs.mergeSort fun x y => decide (x ≤ y)).toArray) os := Any.slices_Sort_int Tryd.lays189 blk off cap zs w hH hblk hsz
open Go.RowKit Go.Sort in
theorem Tryd.slices_Sort_int_none (p : Option Addr) (cap : Nat) (w : World) :
    Calls Tryd.prog 40 #[.slice p 0 cap] w fun e w' => e = .returned (.tuple #[]) ∧ w' = w := Any.slices_Sort_int_none Tryd.lays189 p cap w
def Tryd.laysNm220_ren : Go.Shelf.Ren := ⟨fun | 20 => 22 | n => n, fun | 22 => 22 | 3 => 3 | 4 => 4 | 0 => 0 | n => n, fun | n => n⟩
theorem Tryd.laysNm220 : Go.Proofs.Lays2.n20 Tryd.prog Tryd.laysNm220_ren := {
  mixed := by kernel_rfl
  f20 := Tryd.func22.trans (congrArg some (by kernel_rfl))
  t0 := Tryd.underlying0
  a0 := Tryd.isAgg0
  z0 := Tryd.sizeOf0
  v0 := Tryd.zeroValue0
  t3 := Tryd.underlying3
  a3 := Tryd.isAgg3
  z3 := Tryd.sizeOf3
  v3 := Tryd.zeroValue3
  t4 := Tryd.underlying4
  a4 := Tryd.isAgg4
  z4 := Tryd.sizeOf4
  v4 := Tryd.zeroValue4
  t22 := Tryd.underlying22
  a22 := Tryd.isAgg22
  z22 := Tryd.sizeOf22
  v22 := Tryd.zeroValue22
  i3 := by kernel_rfl }
open Go.RowKit Go.Lib Go.Sort in
theorem Tryd.slices_Compact_int (blk off cap : Nat) (zs : List Int) (w : World) (hH : Holds (Value.int .i64) w blk off zs.toArray) (hsz : zs.length ≤ 9223372036854775807) (hcap : zs.length ≤ cap) :
    Calls Tryd.prog 22 #[.slice (some ⟨blk, off, none⟩) zs.length cap] w fun e w' => e = .returned (.slice (some ⟨blk, off, none⟩) (Lib.compact zs).length cap) ∧ ∃ q, w' = putRow (Value.int .i64) (Sort.ahead w q) blk off (Lib.compact zs ++ List.replicate (zs.length - (Lib.compact zs).length) 0).toArray := Any.slices_Compact_int Tryd.laysNm220 blk off cap zs w hH hsz hcap
open Go.RowKit Go.Lib Go.Sort in
theorem Tryd.slices_Compact_int_empty (a : Option Addr) (cap : Nat) (w : World) :
    Calls Tryd.prog 22 #[.slice a 0 cap] w fun e w' => e = .returned (.slice a 0 cap) ∧ w' = w := Any.slices_Compact_int_empty Tryd.laysNm220 a cap w
def Tryd.sortP_ren : Go.Shelf.Ren := ⟨fun | 6 => 28 | 15 => 45 | 14 => 44 | 28 => 66 | 29 => 67 | 20 => 58 | 21 => 59 | 22 => 60 | 23 => 61 | 24 => 62 | 25 => 63 | 26 => 64 | 27 => 65 | 46 => 85 | 47 => 86 | 48 => 87 | 49 => 88 | 50 => 89 | 57 => 99 | n => n, fun | 22 => 32 | 24 => 64 | 25 => 69 | 3 => 3 | 39 => 74 | 0 => 0 | 53 => 92 | 55 => 36 | 4 => 4 | 46 => 98 | 45 => 97 | 50 => 29 | 5 => 5 | 9 => 9 | 66 => 126 | 70 => 130 | 76 => 139 | 77 => 140 | n => n, fun | n => n⟩
theorem Tryd.sortP : Go.Proofs.SlLaysF0.n6 Tryd.prog Tryd.sortP_ren := {
  mixed := by kernel_rfl
  f6 := ⟨Tryd.f28.name, by decide, Tryd.func28.trans (congrArg some (by kernel_rfl))⟩
  f14 := ⟨Tryd.f44.name, by decide, Tryd.func44.trans (congrArg some (by kernel_rfl))⟩
  f15 := Tryd.func45.trans (congrArg some (by kernel_rfl))
  f20 := ⟨Tryd.f58.name, by decide, Tryd.func58.trans (congrArg some (by kernel_rfl))⟩
  f21 := ⟨Tryd.f59.name, by decide, Tryd.func59.trans (congrArg some (by kernel_rfl))⟩
  f22 := ⟨Tryd.f60.name, by decide, Tryd.func60.trans (congrArg some (by kernel_rfl))⟩
  f23 := ⟨Tryd.f61.name, by decide, Tryd.func61.trans (congrArg some (by kernel_rfl))⟩
  f24 := ⟨Tryd.f62.name, by decide, Tryd.func62.trans (congrArg some (by kernel_rfl))⟩
  f25 := ⟨Tryd.f63.name, by decide, Tryd.func63.trans (congrArg some (by kernel_rfl))⟩
  f26 := ⟨Tryd.f64.name, by decide, Tryd.func64.trans (congrArg some (by kernel_rfl))⟩
  f27 := ⟨Tryd.f65.name, by decide, Tryd.func65.trans (congrArg some (by kernel_rfl))⟩
  f28 := Tryd.func66.trans (congrArg some (by kernel_rfl))
  f29 := Tryd.func67.trans (congrArg some (by kernel_rfl))
  f46 := ⟨Tryd.f85.name, by decide, Tryd.func85.trans (congrArg some (by kernel_rfl))⟩
  f47 := Tryd.func86.trans (congrArg some (by kernel_rfl))
  f48 := Tryd.func87.trans (congrArg some (by kernel_rfl))
  f49 := ⟨Tryd.f88.name, by decide, Tryd.func88.trans (congrArg some (by kernel_rfl))⟩
  f50 := ⟨Tryd.f89.name, by decide, Tryd.func89.trans (congrArg some (by kernel_rfl))⟩
  f57 := ⟨Tryd.f99.name, by decide, Tryd.func99.trans (congrArg some (by kernel_rfl))⟩
  t0 := Tryd.underlying0
  a0 := Tryd.isAgg0
  z0 := Tryd.sizeOf0
  v0 := Tryd.zeroValue0
  t3 := Tryd.underlying3
  a3 := Tryd.isAgg3
  z3 := Tryd.sizeOf3
  v3 := Tryd.zeroValue3
  t4 := Tryd.underlying4
  a4 := Tryd.isAgg4
  z4 := Tryd.sizeOf4
  v4 := Tryd.zeroValue4
  t5 := Tryd.underlying5
  a5 := Tryd.isAgg5
  z5 := Tryd.sizeOf5
  v5 := Tryd.zeroValue5
  t9 := Tryd.underlying9
  a9 := Tryd.isAgg9
  z9 := Tryd.sizeOf9
  v9 := Tryd.zeroValue9
  t22 := Tryd.underlying32
  a22 := Tryd.isAgg32
  z22 := Tryd.sizeOf32
  v22 := Tryd.zeroValue32
  t25 := Tryd.underlying69
  a25 := Tryd.isAgg69
  z25 := Tryd.sizeOf69
  v25 := Tryd.zeroValue69
  t39 := Tryd.underlying74
  a39 := Tryd.isAgg74
  z39 := Tryd.sizeOf74
  v39 := Tryd.zeroValue74
  t45 := Tryd.underlying97
  a45 := Tryd.isAgg97
  z45 := Tryd.sizeOf97
  v45 := Tryd.zeroValue97
  t46 := Tryd.underlying98
  a46 := Tryd.isAgg98
  z46 := Tryd.sizeOf98
  v46 := Tryd.zeroValue98
  t50 := Tryd.underlying29
  a50 := Tryd.isAgg29
  z50 := Tryd.sizeOf29
  v50 := Tryd.zeroValue29
  t53 := Tryd.underlying92
  a53 := Tryd.isAgg92
  z53 := Tryd.sizeOf92
  v53 := Tryd.zeroValue92
  t55 := Tryd.underlying36
  a55 := Tryd.isAgg36
  z55 := Tryd.sizeOf36
  v55 := Tryd.zeroValue36
  t66 := Tryd.underlying126
  a66 := Tryd.isAgg126
  z66 := Tryd.sizeOf126
  v66 := Tryd.zeroValue126
  t70 := Tryd.underlying130
  a70 := Tryd.isAgg130
  z70 := Tryd.sizeOf130
  v70 := Tryd.zeroValue130
  t76 := Tryd.underlying139
  a76 := Tryd.isAgg139
  z76 := Tryd.sizeOf139
  v76 := Tryd.zeroValue139
  t77 := Tryd.underlying140
  a77 := Tryd.isAgg140
  z77 := Tryd.sizeOf140
  v77 := Tryd.zeroValue140 }
end Go.Proofs
