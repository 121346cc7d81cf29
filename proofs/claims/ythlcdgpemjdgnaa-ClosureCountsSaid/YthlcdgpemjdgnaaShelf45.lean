/-
  DERIVED: THE SHELF's CONTRACTS AT THIS DUMP, IN PLAIN WORDS (tools/lay-plain.mjs out of 'TryShelf.lean', which tools/lay-shelf.mjs wrote): THE SAME DECLARATIONS UNDER THE SAME NAMES: 'import', 'namespace', 'open', 'def', 'theorem' AND NOTHING ELSE: no command of the shelf's: FOR A HAND-IN. Each laying: the table of numbers ('.._ren') and one theorem, a field a fact of the dump's own or the kernel's comparison; each contract: ONE APPLICATION.
-/
import Derived.Shelf.Small.Bits
import Derived.Shelf.Small.Wraps
import Derived.Shelf.Strconv.Itoa0
import Derived.Shelf.Sort.Plain
import Derived.Ground.Names2Prog
import Derived.Shelf.Slices.SearchI
import Derived.Shelf.Slices.In.SortNone
import Derived.Test.YthlcdgpemjdgnaaProg
namespace Go.Proofs
open Go.Shelf
def Try.lays189_ren : Go.Shelf.Ren := ⟨fun | 189 => 32 | 125 => 50 | 257 => 49 | 128 => 65 | 129 => 66 | 294 => 56 | 295 => 57 | 296 => 58 | 297 => 59 | 298 => 60 | 299 => 61 | 216 => 62 | 300 => 63 | 301 => 64 | 328 => 70 | 329 => 71 | 330 => 72 | 331 => 73 | 332 => 74 | 215 => 75 | 343 => 76 | n => n, fun | 28 => 31 | 3 => 3 | 46 => 83 | 0 => 0 | 51 => 94 | 53 => 96 | 4 => 4 | 183 => 88 | 182 => 87 | 131 => 60 | 5 => 5 | 9 => 9 | 218 => 97 | 222 => 101 | 228 => 104 | 229 => 70 | n => n, fun | n => n⟩
theorem Try.lays189 : Go.Proofs.Lays.n189 Try.prog Try.lays189_ren := {
  mixed := by kernel_rfl
  f125 := Try.func50.trans (congrArg some (by kernel_rfl))
  f128 := Try.func65.trans (congrArg some (by kernel_rfl))
  f129 := Try.func66.trans (congrArg some (by kernel_rfl))
  f189 := Try.func32.trans (congrArg some (by kernel_rfl))
  f215 := Try.func75.trans (congrArg some (by kernel_rfl))
  f216 := Try.func62.trans (congrArg some (by kernel_rfl))
  f257 := Try.func49.trans (congrArg some (by kernel_rfl))
  f294 := Try.func56.trans (congrArg some (by kernel_rfl))
  f295 := Try.func57.trans (congrArg some (by kernel_rfl))
  f296 := Try.func58.trans (congrArg some (by kernel_rfl))
  f297 := Try.func59.trans (congrArg some (by kernel_rfl))
  f298 := Try.func60.trans (congrArg some (by kernel_rfl))
  f299 := Try.func61.trans (congrArg some (by kernel_rfl))
  f300 := Try.func63.trans (congrArg some (by kernel_rfl))
  f301 := Try.func64.trans (congrArg some (by kernel_rfl))
  f328 := Try.func70.trans (congrArg some (by kernel_rfl))
  f329 := Try.func71.trans (congrArg some (by kernel_rfl))
  f330 := Try.func72.trans (congrArg some (by kernel_rfl))
  f331 := Try.func73.trans (congrArg some (by kernel_rfl))
  f332 := Try.func74.trans (congrArg some (by kernel_rfl))
  f343 := Try.func76.trans (congrArg some (by kernel_rfl))
  t0 := Try.underlying0
  a0 := Try.isAgg0
  z0 := Try.sizeOf0
  v0 := Try.zeroValue0
  t3 := Try.underlying3
  a3 := Try.isAgg3
  z3 := Try.sizeOf3
  v3 := Try.zeroValue3
  t4 := Try.underlying4
  a4 := Try.isAgg4
  z4 := Try.sizeOf4
  v4 := Try.zeroValue4
  t5 := Try.underlying5
  a5 := Try.isAgg5
  z5 := Try.sizeOf5
  v5 := Try.zeroValue5
  t9 := Try.underlying9
  a9 := Try.isAgg9
  z9 := Try.sizeOf9
  v9 := Try.zeroValue9
  t28 := Try.underlying31
  a28 := Try.isAgg31
  z28 := Try.sizeOf31
  v28 := Try.zeroValue31
  t46 := Try.underlying83
  a46 := Try.isAgg83
  z46 := Try.sizeOf83
  v46 := Try.zeroValue83
  t51 := Try.underlying94
  a51 := Try.isAgg94
  z51 := Try.sizeOf94
  v51 := Try.zeroValue94
  t53 := Try.underlying96
  a53 := Try.isAgg96
  z53 := Try.sizeOf96
  v53 := Try.zeroValue96
  t131 := Try.underlying60
  a131 := Try.isAgg60
  z131 := Try.sizeOf60
  v131 := Try.zeroValue60
  t182 := Try.underlying87
  a182 := Try.isAgg87
  z182 := Try.sizeOf87
  v182 := Try.zeroValue87
  t183 := Try.underlying88
  a183 := Try.isAgg88
  z183 := Try.sizeOf88
  v183 := Try.zeroValue88
  t218 := Try.underlying97
  a218 := Try.isAgg97
  z218 := Try.sizeOf97
  v218 := Try.zeroValue97
  t222 := Try.underlying101
  a222 := Try.isAgg101
  z222 := Try.sizeOf101
  v222 := Try.zeroValue101
  t228 := Try.underlying104
  a228 := Try.isAgg104
  z228 := Try.sizeOf104
  v228 := Try.zeroValue104
  t229 := Try.underlying70
  a229 := Try.isAgg70
  z229 := Try.sizeOf70
  v229 := Try.zeroValue70 }
open Go.Sort Go.RowKit in
theorem Try.slices_Sort_int (blk off cap : Nat) (zs : List Int) (w : World) (hH : Holds (Value.int .i64) w blk off zs.toArray) (hblk : blk < w.heap.size) (hsz : zs.length < 4611686018427387904) :
    Calls Try.prog 32 #[.slice (some ⟨blk, off, none⟩) zs.length cap] w fun e w' =>
      e = .returned (.tuple #[]) ∧ ∃ n os, w' = grow (putRow (Value.int .i64) (Sort.ahead w n) blk off (zs.mergeSort fun x y => decide (x ≤ y)).toArray) os := Any.slices_Sort_int Try.lays189 blk off cap zs w hH hblk hsz
open Go.RowKit Go.Sort in
/-- .. and plain. (LAID: no walk: one application.) -/
theorem Try.slices_Sort_int_none (p : Option Addr) (cap : Nat) (w : World) :
    Calls Try.prog 32 #[.slice p 0 cap] w fun e w' => e = .returned (.tuple #[]) ∧ w' = w := Any.slices_Sort_int_none Try.lays189 p cap w
end Go.Proofs
