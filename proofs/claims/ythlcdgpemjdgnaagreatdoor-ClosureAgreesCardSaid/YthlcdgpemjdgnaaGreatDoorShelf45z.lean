/-
  DERIVED: THE SHELF's CONTRACTS AT THIS DUMP, IN PLAIN WORDS (tools/lay-plain.mjs out of 'TryzShelf.lean', which tools/lay-shelf.mjs wrote): THE SAME DECLARATIONS UNDER THE SAME NAMES: 'import', 'namespace', 'open', 'def', 'theorem' AND NOTHING ELSE: no command of the shelf's: FOR A HAND-IN. Each laying: the table of numbers ('.._ren') and one theorem, a field a fact of the dump's own or the kernel's comparison; each contract: ONE APPLICATION.
-/
import Derived.Shelf.Small.Bits
import Derived.Shelf.Small.Wraps
import Derived.Shelf.Strconv.Itoa0
import Derived.Shelf.Strconv.Itoa1
import Derived.Shelf.LaysM
import Derived.Shelf.Strconv.Itoa2
import Derived.Shelf.Strconv.Itoa3
import Derived.Shelf.Sort.Plain
import Derived.Shelf.Slices.Equal
import Derived.Ground.Names2Prog
import Derived.Shelf.Slices.SearchI
import Derived.Shelf.Slices.In.SortNone
import Derived.Shelf.Slices.Empties2
import Derived.Test.YthlcdgpemjdgnaaGreatDoorProg
namespace Go.Proofs
open Go.Shelf
def Tryz.laysM171_ren : Go.Shelf.Ren := ⟨fun | 171 => 102 | 243 => 119 | 246 => 132 | 283 => 135 | 284 => 136 | 285 => 137 | 286 => 138 | 129 => 114 | 317 => 139 | 318 => 140 | 319 => 141 | 320 => 142 | 337 => 143 | 338 => 144 | n => n, fun | 3 => 3 | 9 => 9 | 2 => 2 | 4 => 4 | 171 => 190 | 0 => 0 | 53 => 175 | 37 => 192 | 5 => 5 | 173 => 193 | 212 => 196 | 51 => 173 | 20 => 20 | 213 => 197 | 46 => 149 | 232 => 198 | 233 => 199 | n => n, fun | 17 => 0 | 18 => 1 | 19 => 2 | n => n⟩
theorem Tryz.laysM171 : Go.Proofs.LaysM.n171 Tryz.prog Tryz.laysM171_ren := {
  mixed := by kernel_rfl
  f129 := Tryz.func114.trans (congrArg some (by kernel_rfl))
  f171 := Tryz.func102.trans (congrArg some (by kernel_rfl))
  f243 := Tryz.func119.trans (congrArg some (by kernel_rfl))
  f246 := Tryz.func132.trans (congrArg some (by kernel_rfl))
  f283 := Tryz.func135.trans (congrArg some (by kernel_rfl))
  f284 := Tryz.func136.trans (congrArg some (by kernel_rfl))
  f285 := Tryz.func137.trans (congrArg some (by kernel_rfl))
  f286 := Tryz.func138.trans (congrArg some (by kernel_rfl))
  f317 := Tryz.func139.trans (congrArg some (by kernel_rfl))
  f318 := Tryz.func140.trans (congrArg some (by kernel_rfl))
  f319 := Tryz.func141.trans (congrArg some (by kernel_rfl))
  f320 := Tryz.func142.trans (congrArg some (by kernel_rfl))
  f337 := Tryz.func143.trans (congrArg some (by kernel_rfl))
  f338 := Tryz.func144.trans (congrArg some (by kernel_rfl))
  t0 := Tryz.underlying0
  a0 := Tryz.isAgg0
  z0 := Tryz.sizeOf0
  v0 := Tryz.zeroValue0
  t2 := Tryz.underlying2
  a2 := Tryz.isAgg2
  z2 := Tryz.sizeOf2
  v2 := Tryz.zeroValue2
  t3 := Tryz.underlying3
  a3 := Tryz.isAgg3
  z3 := Tryz.sizeOf3
  v3 := Tryz.zeroValue3
  t4 := Tryz.underlying4
  a4 := Tryz.isAgg4
  z4 := Tryz.sizeOf4
  v4 := Tryz.zeroValue4
  t5 := Tryz.underlying5
  a5 := Tryz.isAgg5
  z5 := Tryz.sizeOf5
  v5 := Tryz.zeroValue5
  t9 := Tryz.underlying9
  a9 := Tryz.isAgg9
  z9 := Tryz.sizeOf9
  v9 := Tryz.zeroValue9
  t20 := Tryz.underlying20
  a20 := Tryz.isAgg20
  z20 := Tryz.sizeOf20
  v20 := Tryz.zeroValue20
  t37 := Tryz.underlying192
  a37 := Tryz.isAgg192
  z37 := Tryz.sizeOf192
  v37 := Tryz.zeroValue192
  t46 := Tryz.underlying149
  a46 := Tryz.isAgg149
  z46 := Tryz.sizeOf149
  v46 := Tryz.zeroValue149
  t51 := Tryz.underlying173
  a51 := Tryz.isAgg173
  z51 := Tryz.sizeOf173
  v51 := Tryz.zeroValue173
  t53 := Tryz.underlying175
  a53 := Tryz.isAgg175
  z53 := Tryz.sizeOf175
  v53 := Tryz.zeroValue175
  t171 := Tryz.underlying190
  a171 := Tryz.isAgg190
  z171 := Tryz.sizeOf190
  v171 := Tryz.zeroValue190
  t173 := Tryz.underlying193
  a173 := Tryz.isAgg193
  z173 := Tryz.sizeOf193
  v173 := Tryz.zeroValue193
  t212 := Tryz.underlying196
  a212 := Tryz.isAgg196
  z212 := Tryz.sizeOf196
  v212 := Tryz.zeroValue196
  t213 := Tryz.underlying197
  a213 := Tryz.isAgg197
  z213 := Tryz.sizeOf197
  t232 := Tryz.underlying198
  a232 := Tryz.isAgg198
  z232 := Tryz.sizeOf198
  v232 := Tryz.zeroValue198
  t233 := Tryz.underlying199
  a233 := Tryz.isAgg199
  z233 := Tryz.sizeOf199
  v233 := Tryz.zeroValue199
  g17 := by kernel_rfl
  g18 := by kernel_rfl
  g19 := by kernel_rfl
  i0 := by kernel_rfl
  i2 := by kernel_rfl
  i3 := by kernel_rfl
  i4 := by kernel_rfl
  i5 := by kernel_rfl
  i9 := by kernel_rfl
  i20 := by kernel_rfl
  i37 := by kernel_rfl
  i46 := by kernel_rfl
  i51 := by kernel_rfl
  i53 := by kernel_rfl
  i171 := by kernel_rfl
  i173 := by kernel_rfl
  i212 := by kernel_rfl
  i232 := by kernel_rfl
  i233 := by kernel_rfl
  m17 := by kernel_rfl
  m18 := by kernel_rfl
  m19 := by kernel_rfl }
open Go.RowKit Go.Sort Go.Lib in
theorem Tryz.strconv_Itoa (n : Int) (h0 : -9223372036854775808 ≤ n) (h1 : n ≤ 9223372036854775807) (w : World) (htab : Lib.TabIs Tryz.prog w "internal/strconv.uint64pow10" .u64 Lib.pow10Tab) :
    Calls Tryz.prog 102 #[.int .i64 n] w fun e w' => e = .returned (.string ⟨(Lib.itoa n).toArray⟩) ∧ ∃ k os, w' = grow (w.drewN k) os := Any.strconv_Itoa Tryz.laysM171 n h0 h1 w htab
def Tryz.lays189_ren : Go.Shelf.Ren := ⟨fun | 189 => 63 | 125 => 89 | 257 => 88 | 128 => 113 | 129 => 114 | 294 => 104 | 295 => 105 | 296 => 106 | 297 => 107 | 298 => 108 | 299 => 109 | 216 => 110 | 300 => 111 | 301 => 112 | 328 => 122 | 329 => 123 | 330 => 124 | 331 => 125 | 332 => 126 | 215 => 127 | 343 => 133 | n => n, fun | 28 => 47 | 3 => 3 | 46 => 149 | 0 => 0 | 51 => 173 | 53 => 175 | 4 => 4 | 183 => 167 | 182 => 166 | 131 => 145 | 5 => 5 | 9 => 9 | 218 => 179 | 222 => 134 | 228 => 188 | 229 => 122 | n => n, fun | n => n⟩
theorem Tryz.lays189 : Go.Proofs.Lays.n189 Tryz.prog Tryz.lays189_ren := {
  mixed := by kernel_rfl
  f125 := Tryz.func89.trans (congrArg some (by kernel_rfl))
  f128 := Tryz.func113.trans (congrArg some (by kernel_rfl))
  f129 := Tryz.func114.trans (congrArg some (by kernel_rfl))
  f189 := Tryz.func63.trans (congrArg some (by kernel_rfl))
  f215 := Tryz.func127.trans (congrArg some (by kernel_rfl))
  f216 := Tryz.func110.trans (congrArg some (by kernel_rfl))
  f257 := Tryz.func88.trans (congrArg some (by kernel_rfl))
  f294 := Tryz.func104.trans (congrArg some (by kernel_rfl))
  f295 := Tryz.func105.trans (congrArg some (by kernel_rfl))
  f296 := Tryz.func106.trans (congrArg some (by kernel_rfl))
  f297 := Tryz.func107.trans (congrArg some (by kernel_rfl))
  f298 := Tryz.func108.trans (congrArg some (by kernel_rfl))
  f299 := Tryz.func109.trans (congrArg some (by kernel_rfl))
  f300 := Tryz.func111.trans (congrArg some (by kernel_rfl))
  f301 := Tryz.func112.trans (congrArg some (by kernel_rfl))
  f328 := Tryz.func122.trans (congrArg some (by kernel_rfl))
  f329 := Tryz.func123.trans (congrArg some (by kernel_rfl))
  f330 := Tryz.func124.trans (congrArg some (by kernel_rfl))
  f331 := Tryz.func125.trans (congrArg some (by kernel_rfl))
  f332 := Tryz.func126.trans (congrArg some (by kernel_rfl))
  f343 := Tryz.func133.trans (congrArg some (by kernel_rfl))
  t0 := Tryz.underlying0
  a0 := Tryz.isAgg0
  z0 := Tryz.sizeOf0
  v0 := Tryz.zeroValue0
  t3 := Tryz.underlying3
  a3 := Tryz.isAgg3
  z3 := Tryz.sizeOf3
  v3 := Tryz.zeroValue3
  t4 := Tryz.underlying4
  a4 := Tryz.isAgg4
  z4 := Tryz.sizeOf4
  v4 := Tryz.zeroValue4
  t5 := Tryz.underlying5
  a5 := Tryz.isAgg5
  z5 := Tryz.sizeOf5
  v5 := Tryz.zeroValue5
  t9 := Tryz.underlying9
  a9 := Tryz.isAgg9
  z9 := Tryz.sizeOf9
  v9 := Tryz.zeroValue9
  t28 := Tryz.underlying47
  a28 := Tryz.isAgg47
  z28 := Tryz.sizeOf47
  v28 := Tryz.zeroValue47
  t46 := Tryz.underlying149
  a46 := Tryz.isAgg149
  z46 := Tryz.sizeOf149
  v46 := Tryz.zeroValue149
  t51 := Tryz.underlying173
  a51 := Tryz.isAgg173
  z51 := Tryz.sizeOf173
  v51 := Tryz.zeroValue173
  t53 := Tryz.underlying175
  a53 := Tryz.isAgg175
  z53 := Tryz.sizeOf175
  v53 := Tryz.zeroValue175
  t131 := Tryz.underlying145
  a131 := Tryz.isAgg145
  z131 := Tryz.sizeOf145
  v131 := Tryz.zeroValue145
  t182 := Tryz.underlying166
  a182 := Tryz.isAgg166
  z182 := Tryz.sizeOf166
  v182 := Tryz.zeroValue166
  t183 := Tryz.underlying167
  a183 := Tryz.isAgg167
  z183 := Tryz.sizeOf167
  v183 := Tryz.zeroValue167
  t218 := Tryz.underlying179
  a218 := Tryz.isAgg179
  z218 := Tryz.sizeOf179
  v218 := Tryz.zeroValue179
  t222 := Tryz.underlying134
  a222 := Tryz.isAgg134
  z222 := Tryz.sizeOf134
  v222 := Tryz.zeroValue134
  t228 := Tryz.underlying188
  a228 := Tryz.isAgg188
  z228 := Tryz.sizeOf188
  v228 := Tryz.zeroValue188
  t229 := Tryz.underlying122
  a229 := Tryz.isAgg122
  z229 := Tryz.sizeOf122
  v229 := Tryz.zeroValue122 }
open Go.Sort Go.RowKit in
theorem Tryz.slices_Sort_int (blk off cap : Nat) (zs : List Int) (w : World) (hH : Holds (Value.int .i64) w blk off zs.toArray) (hblk : blk < w.heap.size) (hsz : zs.length < 4611686018427387904) :
    Calls Tryz.prog 63 #[.slice (some ⟨blk, off, none⟩) zs.length cap] w fun e w' =>
      e = .returned (.tuple #[]) ∧ ∃ n os, w' = grow (putRow (Value.int .i64) (Sort.ahead w n) blk off (zs.mergeSort fun x y => decide (x ≤ y)).toArray) os := Any.slices_Sort_int Tryz.lays189 blk off cap zs w hH hblk hsz
open Go.RowKit Go.Sort in
theorem Tryz.slices_Sort_int_none (p : Option Addr) (cap : Nat) (w : World) :
    Calls Tryz.prog 63 #[.slice p 0 cap] w fun e w' => e = .returned (.tuple #[]) ∧ w' = w := Any.slices_Sort_int_none Tryz.lays189 p cap w
end Go.Proofs
