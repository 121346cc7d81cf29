/-
  DERIVED: THE SHELF's CONTRACTS AT THIS DUMP, IN PLAIN WORDS (tools/lay-plain.mjs out of 'TryShelf.lean', which tools/lay-shelf.mjs wrote): THE SAME DECLARATIONS UNDER THE SAME NAMES: 'import', 'namespace', 'open', 'def', 'theorem' AND NOTHING ELSE: no command of the shelf's: FOR A HAND-IN. Each laying: the table of numbers ('.._ren') and one theorem, a field a fact of the dump's own or the kernel's comparison; each contract: ONE APPLICATION.
-/
import Derived.Shelf.Sort.Plain
import Derived.Shelf.Slices.In.SortNone
import Derived.Test.YtcpclpkcanikiaaProg
namespace Go.Proofs
open Go.Shelf
def Try.lays189_ren : Go.Shelf.Ren := ⟨fun | 189 => 92 | 125 => 109 | 257 => 108 | 128 => 123 | 129 => 124 | 294 => 115 | 295 => 116 | 296 => 117 | 297 => 118 | 298 => 119 | 299 => 120 | 216 => 113 | 300 => 121 | 301 => 122 | 328 => 128 | 329 => 129 | 330 => 130 | 331 => 131 | 332 => 132 | 215 => 127 | 343 => 133 | n => n, fun | 28 => 55 | 3 => 3 | 46 => 139 | 0 => 0 | 51 => 153 | 53 => 155 | 4 => 4 | 183 => 147 | 182 => 146 | 131 => 126 | 5 => 5 | 9 => 9 | 218 => 156 | 222 => 160 | 228 => 162 | 229 => 98 | n => n, fun | n => n⟩
theorem Try.lays189 : Go.Proofs.Lays.n189 Try.prog Try.lays189_ren := {
  mixed := by kernel_rfl
  f125 := Try.func109.trans (congrArg some (by kernel_rfl))
  f128 := Try.func123.trans (congrArg some (by kernel_rfl))
  f129 := Try.func124.trans (congrArg some (by kernel_rfl))
  f189 := Try.func92.trans (congrArg some (by kernel_rfl))
  f215 := Try.func127.trans (congrArg some (by kernel_rfl))
  f216 := Try.func113.trans (congrArg some (by kernel_rfl))
  f257 := Try.func108.trans (congrArg some (by kernel_rfl))
  f294 := Try.func115.trans (congrArg some (by kernel_rfl))
  f295 := Try.func116.trans (congrArg some (by kernel_rfl))
  f296 := Try.func117.trans (congrArg some (by kernel_rfl))
  f297 := Try.func118.trans (congrArg some (by kernel_rfl))
  f298 := Try.func119.trans (congrArg some (by kernel_rfl))
  f299 := Try.func120.trans (congrArg some (by kernel_rfl))
  f300 := Try.func121.trans (congrArg some (by kernel_rfl))
  f301 := Try.func122.trans (congrArg some (by kernel_rfl))
  f328 := Try.func128.trans (congrArg some (by kernel_rfl))
  f329 := Try.func129.trans (congrArg some (by kernel_rfl))
  f330 := Try.func130.trans (congrArg some (by kernel_rfl))
  f331 := Try.func131.trans (congrArg some (by kernel_rfl))
  f332 := Try.func132.trans (congrArg some (by kernel_rfl))
  f343 := Try.func133.trans (congrArg some (by kernel_rfl))
  t0 := Try.underlying0
  a0 := Try.isAgg0
  z0 := Try.sizeOf0
  v0 := Try.zeroValue0
  t3 := Try.underlying3
  a3 := Try.isAgg3
  z3 := Try.sizeOf3
  v3 := Try.zeroValue3
  t4 := Try.underlying4
  a4 := Try.isAgg4
  z4 := Try.sizeOf4
  v4 := Try.zeroValue4
  t5 := Try.underlying5
  a5 := Try.isAgg5
  z5 := Try.sizeOf5
  v5 := Try.zeroValue5
  t9 := Try.underlying9
  a9 := Try.isAgg9
  z9 := Try.sizeOf9
  v9 := Try.zeroValue9
  t28 := Try.underlying55
  a28 := Try.isAgg55
  z28 := Try.sizeOf55
  v28 := Try.zeroValue55
  t46 := Try.underlying139
  a46 := Try.isAgg139
  z46 := Try.sizeOf139
  v46 := Try.zeroValue139
  t51 := Try.underlying153
  a51 := Try.isAgg153
  z51 := Try.sizeOf153
  v51 := Try.zeroValue153
  t53 := Try.underlying155
  a53 := Try.isAgg155
  z53 := Try.sizeOf155
  v53 := Try.zeroValue155
  t131 := Try.underlying126
  a131 := Try.isAgg126
  z131 := Try.sizeOf126
  v131 := Try.zeroValue126
  t182 := Try.underlying146
  a182 := Try.isAgg146
  z182 := Try.sizeOf146
  v182 := Try.zeroValue146
  t183 := Try.underlying147
  a183 := Try.isAgg147
  z183 := Try.sizeOf147
  v183 := Try.zeroValue147
  t218 := Try.underlying156
  a218 := Try.isAgg156
  z218 := Try.sizeOf156
  v218 := Try.zeroValue156
  t222 := Try.underlying160
  a222 := Try.isAgg160
  z222 := Try.sizeOf160
  v222 := Try.zeroValue160
  t228 := Try.underlying162
  a228 := Try.isAgg162
  z228 := Try.sizeOf162
  v228 := Try.zeroValue162
  t229 := Try.underlying98
  a229 := Try.isAgg98
  z229 := Try.sizeOf98
  v229 := Try.zeroValue98 }
open Go.Sort Go.RowKit in
theorem Try.slices_Sort_int (blk off cap : Nat) (zs : List Int) (w : World) (hH : Holds (Value.int .i64) w blk off zs.toArray) (hblk : blk < w.heap.size) (hsz : zs.length < 4611686018427387904) :
    Calls Try.prog 92 #[.slice (some ⟨blk, off, none⟩) zs.length cap] w fun e w' =>
      e = .returned (.tuple #[]) ∧ ∃ n os, w' = grow (putRow (Value.int .i64) (Sort.ahead w n) blk off (zs.mergeSort fun x y => decide (x ≤ y)).toArray) os := Any.slices_Sort_int Try.lays189 blk off cap zs w hH hblk hsz
open Go.RowKit Go.Sort in
/-- .. and plain. (LAID: no walk: one application.) -/
theorem Try.slices_Sort_int_none (p : Option Addr) (cap : Nat) (w : World) :
    Calls Try.prog 92 #[.slice p 0 cap] w fun e w' => e = .returned (.tuple #[]) ∧ w' = w := Any.slices_Sort_int_none Try.lays189 p cap w
end Go.Proofs
