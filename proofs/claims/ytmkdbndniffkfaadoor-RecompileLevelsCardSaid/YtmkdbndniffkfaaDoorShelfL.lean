/-
  DERIVED: THE SHELF's CONTRACTS AT THIS DUMP, IN PLAIN WORDS (tools/lay-plain.mjs out of 'TrydShelf.lean', which tools/lay-shelf.mjs wrote): THE SAME DECLARATIONS UNDER THE SAME NAMES: 'import', 'namespace', 'open', 'def', 'theorem' AND NOTHING ELSE: no command of the shelf's: FOR A HAND-IN. Each laying: the table of numbers ('.._ren') and one theorem, a field a fact of the dump's own or the kernel's comparison; each contract: ONE APPLICATION.
-/
import Derived.Shelf.Small.Bits
import Derived.Shelf.Small.Wraps
import Derived.Shelf.Strconv.Itoa0
import Derived.Shelf.Sort.Plain
import Derived.Shelf.Strings.Prefix
import Derived.Shelf.Strings.Fields
import Derived.Shelf.LaysM
import Derived.Shelf.Strings.SplitShaped
import Derived.Shelf.Unicode.Latin
import Derived.Shelf.Unicode.Is16White
import Derived.Shelf.Unicode.IsSpaceAny
import Derived.Shelf.Unicode.Is16WhiteD
import Derived.Shelf.Unicode.IsSpaceAnyD
import Derived.Shelf.Unicode.Is16Any
import Derived.Shelf.Unicode.Is32Any
import Derived.Shelf.Unicode.ExclAny
import Derived.Shelf.Slices.Turned
import Derived.Shelf.Slices.Equal
import Derived.Shelf.Slices.In.SortNone
import Derived.Shelf.Slices.Empties2
import Derived.Test.YtmkdbndniffkfaaDoorProg
namespace Go.Proofs
open Go.Shelf
def Tryd.lays190_ren : Go.Shelf.Ren := ⟨fun | 190 => 19 | 125 => 30 | 258 => 29 | 128 => 49 | 129 => 50 | 302 => 41 | 303 => 42 | 304 => 43 | 305 => 44 | 306 => 45 | 307 => 46 | 308 => 20 | 309 => 47 | 310 => 48 | 333 => 56 | 329 => 57 | 330 => 58 | 334 => 59 | 335 => 60 | 336 => 31 | 344 => 65 | n => n, fun | 31 => 30 | 9 => 9 | 3 => 3 | 46 => 65 | 0 => 0 | 51 => 82 | 53 => 84 | 4 => 4 | 183 => 76 | 182 => 75 | 131 => 35 | 5 => 5 | 218 => 87 | 222 => 91 | 228 => 96 | 229 => 97 | n => n, fun | n => n⟩
theorem Tryd.lays190 : Go.Proofs.Lays.n190 Tryd.prog Tryd.lays190_ren := {
  mixed := by kernel_rfl
  f125 := Tryd.func30.trans (congrArg some (by kernel_rfl))
  f128 := Tryd.func49.trans (congrArg some (by kernel_rfl))
  f129 := Tryd.func50.trans (congrArg some (by kernel_rfl))
  f190 := Tryd.func19.trans (congrArg some (by kernel_rfl))
  f258 := Tryd.func29.trans (congrArg some (by kernel_rfl))
  f302 := Tryd.func41.trans (congrArg some (by kernel_rfl))
  f303 := Tryd.func42.trans (congrArg some (by kernel_rfl))
  f304 := Tryd.func43.trans (congrArg some (by kernel_rfl))
  f305 := Tryd.func44.trans (congrArg some (by kernel_rfl))
  f306 := Tryd.func45.trans (congrArg some (by kernel_rfl))
  f307 := Tryd.func46.trans (congrArg some (by kernel_rfl))
  f308 := Tryd.func20.trans (congrArg some (by kernel_rfl))
  f309 := Tryd.func47.trans (congrArg some (by kernel_rfl))
  f310 := Tryd.func48.trans (congrArg some (by kernel_rfl))
  f329 := Tryd.func57.trans (congrArg some (by kernel_rfl))
  f330 := Tryd.func58.trans (congrArg some (by kernel_rfl))
  f333 := Tryd.func56.trans (congrArg some (by kernel_rfl))
  f334 := Tryd.func59.trans (congrArg some (by kernel_rfl))
  f335 := Tryd.func60.trans (congrArg some (by kernel_rfl))
  f336 := Tryd.func31.trans (congrArg some (by kernel_rfl))
  f344 := Tryd.func65.trans (congrArg some (by kernel_rfl))
  t0 := Tryd.underlying0
  a0 := Tryd.isAgg0
  z0 := Tryd.sizeOf0
  v0 := Tryd.zeroValue0
  t3 := Tryd.underlying3
  a3 := Tryd.isAgg3
  z3 := Tryd.sizeOf3
  v3 := Tryd.zeroValue3
  t4 := Tryd.underlying4
  a4 := Tryd.isAgg4
  z4 := Tryd.sizeOf4
  v4 := Tryd.zeroValue4
  t5 := Tryd.underlying5
  a5 := Tryd.isAgg5
  z5 := Tryd.sizeOf5
  v5 := Tryd.zeroValue5
  t9 := Tryd.underlying9
  a9 := Tryd.isAgg9
  z9 := Tryd.sizeOf9
  v9 := Tryd.zeroValue9
  t31 := Tryd.underlying30
  a31 := Tryd.isAgg30
  z31 := Tryd.sizeOf30
  v31 := Tryd.zeroValue30
  t46 := Tryd.underlying65
  a46 := Tryd.isAgg65
  z46 := Tryd.sizeOf65
  v46 := Tryd.zeroValue65
  t51 := Tryd.underlying82
  a51 := Tryd.isAgg82
  z51 := Tryd.sizeOf82
  v51 := Tryd.zeroValue82
  t53 := Tryd.underlying84
  a53 := Tryd.isAgg84
  z53 := Tryd.sizeOf84
  v53 := Tryd.zeroValue84
  t131 := Tryd.underlying35
  a131 := Tryd.isAgg35
  z131 := Tryd.sizeOf35
  v131 := Tryd.zeroValue35
  t182 := Tryd.underlying75
  a182 := Tryd.isAgg75
  z182 := Tryd.sizeOf75
  v182 := Tryd.zeroValue75
  t183 := Tryd.underlying76
  a183 := Tryd.isAgg76
  z183 := Tryd.sizeOf76
  v183 := Tryd.zeroValue76
  t218 := Tryd.underlying87
  a218 := Tryd.isAgg87
  z218 := Tryd.sizeOf87
  v218 := Tryd.zeroValue87
  t222 := Tryd.underlying91
  a222 := Tryd.isAgg91
  z222 := Tryd.sizeOf91
  v222 := Tryd.zeroValue91
  t228 := Tryd.underlying96
  a228 := Tryd.isAgg96
  z228 := Tryd.sizeOf96
  v228 := Tryd.zeroValue96
  t229 := Tryd.underlying97
  a229 := Tryd.isAgg97
  z229 := Tryd.sizeOf97
  v229 := Tryd.zeroValue97 }
open Go.Sort Go.RowKit in
theorem Tryd.slices_Sort_string (blk off cap : Nat) (ss : List (List UInt8)) (w : World) (hH : Holds encStr w blk off ss.toArray) (hblk : blk < w.heap.size) (hsz : ss.length < 4611686018427387904) :
    Calls Tryd.prog 19 #[.slice (some ⟨blk, off, none⟩) ss.length cap] w fun e w' =>
      e = .returned (.tuple #[]) ∧ ∃ n os, w' = grow (putRow encStr (Sort.ahead w n) blk off (ss.mergeSort fun x y => decide (x ≤ y)).toArray) os := Any.slices_Sort_string Tryd.lays190 blk off cap ss w hH hblk hsz
def Tryd.lays157_ren : Go.Shelf.Ren := ⟨fun | 157 => 91 | 229 => 94 | 199 => 95 | 261 => 96 | 311 => 97 | 312 => 98 | n => n, fun | 9 => 9 | 31 => 30 | 3 => 3 | 5 => 5 | 4 => 4 | 119 => 118 | 0 => 0 | 40 => 120 | 152 => 121 | 21 => 21 | 154 => 123 | 51 => 82 | 141 => 125 | 196 => 129 | 193 => 126 | 198 => 132 | 49 => 130 | 194 => 127 | 201 => 135 | 226 => 137 | 46 => 65 | 227 => 138 | n => n, fun | 0 => 0 | 6 => 1 | n => n⟩
theorem Tryd.lays157 : Go.Proofs.Lays.n157 Tryd.prog Tryd.lays157_ren := {
  mixed := by kernel_rfl
  f157 := Tryd.func91.trans (congrArg some (by kernel_rfl))
  f199 := Tryd.func95.trans (congrArg some (by kernel_rfl))
  f229 := Tryd.func94.trans (congrArg some (by kernel_rfl))
  f261 := Tryd.func96.trans (congrArg some (by kernel_rfl))
  f311 := Tryd.func97.trans (congrArg some (by kernel_rfl))
  f312 := Tryd.func98.trans (congrArg some (by kernel_rfl))
  t0 := Tryd.underlying0
  a0 := Tryd.isAgg0
  z0 := Tryd.sizeOf0
  v0 := Tryd.zeroValue0
  t3 := Tryd.underlying3
  a3 := Tryd.isAgg3
  z3 := Tryd.sizeOf3
  v3 := Tryd.zeroValue3
  t4 := Tryd.underlying4
  a4 := Tryd.isAgg4
  z4 := Tryd.sizeOf4
  v4 := Tryd.zeroValue4
  t5 := Tryd.underlying5
  a5 := Tryd.isAgg5
  z5 := Tryd.sizeOf5
  v5 := Tryd.zeroValue5
  t9 := Tryd.underlying9
  a9 := Tryd.isAgg9
  z9 := Tryd.sizeOf9
  v9 := Tryd.zeroValue9
  t21 := Tryd.underlying21
  a21 := Tryd.isAgg21
  z21 := Tryd.sizeOf21
  v21 := Tryd.zeroValue21
  t31 := Tryd.underlying30
  a31 := Tryd.isAgg30
  z31 := Tryd.sizeOf30
  v31 := Tryd.zeroValue30
  t40 := Tryd.underlying120
  a40 := Tryd.isAgg120
  z40 := Tryd.sizeOf120
  v40 := Tryd.zeroValue120
  t46 := Tryd.underlying65
  a46 := Tryd.isAgg65
  z46 := Tryd.sizeOf65
  v46 := Tryd.zeroValue65
  t49 := Tryd.underlying130
  a49 := Tryd.isAgg130
  z49 := Tryd.sizeOf130
  v49 := Tryd.zeroValue130
  t51 := Tryd.underlying82
  a51 := Tryd.isAgg82
  z51 := Tryd.sizeOf82
  v51 := Tryd.zeroValue82
  t119 := Tryd.underlying118
  a119 := Tryd.isAgg118
  z119 := Tryd.sizeOf118
  t141 := Tryd.underlying125
  a141 := Tryd.isAgg125
  z141 := Tryd.sizeOf125
  v141 := Tryd.zeroValue125
  t152 := Tryd.underlying121
  a152 := Tryd.isAgg121
  z152 := Tryd.sizeOf121
  v152 := Tryd.zeroValue121
  t154 := Tryd.underlying123
  a154 := Tryd.isAgg123
  z154 := Tryd.sizeOf123
  v154 := Tryd.zeroValue123
  t193 := Tryd.underlying126
  a193 := Tryd.isAgg126
  z193 := Tryd.sizeOf126
  v193 := Tryd.zeroValue126
  t194 := Tryd.underlying127
  a194 := Tryd.isAgg127
  z194 := Tryd.sizeOf127
  v194 := Tryd.zeroValue127
  t196 := Tryd.underlying129
  a196 := Tryd.isAgg129
  z196 := Tryd.sizeOf129
  v196 := Tryd.zeroValue129
  t198 := Tryd.underlying132
  a198 := Tryd.isAgg132
  z198 := Tryd.sizeOf132
  v198 := Tryd.zeroValue132
  t201 := Tryd.underlying135
  a201 := Tryd.isAgg135
  z201 := Tryd.sizeOf135
  v201 := Tryd.zeroValue135
  t226 := Tryd.underlying137
  a226 := Tryd.isAgg137
  z226 := Tryd.sizeOf137
  v226 := Tryd.zeroValue137
  t227 := Tryd.underlying138
  a227 := Tryd.isAgg138
  z227 := Tryd.sizeOf138
  v227 := Tryd.zeroValue138
  g0 := by kernel_rfl
  g6 := by kernel_rfl }
open Go.RowKit Go.Lib in
/-- strings.Fields, the table by 'Lib.TabIs' (as strings.TrimSpace's contract). 'hg': the table's number, by its name: at a dump 'by kernel_rfl'. (LAID: no walk: one application.) -/
theorem Tryd.strings_Fields (s : ByteArray) (w : World) (hs : s.size < 4294967281) (hascii : ∀ (j : Nat) b, s.data.toList[j]? = some b → b.toNat < 128) (htab : Lib.TabIs Tryd.prog w "strings.asciiSpace" .u8 Lib.asciiSpaceTab) :
    Calls Tryd.prog 91 #[.string s] w fun e w' =>
      e = .returned (.slice (some ⟨w.heap.size, 0, none⟩) (Lib.fields s.data.toList).length (Lib.fields s.data.toList).length) ∧ w' = w.alloc (.cells ((Lib.fields s.data.toList).map fun l => Value.string ⟨l.toArray⟩).toArray 9) := Any.strings_Fields Tryd.lays157 (by kernel_rfl) (by kernel_rfl) s w hs hascii htab
open Go.RowKit Go.Sort in
/-- .. and plain. (LAID: no walk: one application.) -/
theorem Tryd.slices_Sort_string_none (p : Option Addr) (cap : Nat) (w : World) :
    Calls Tryd.prog 19 #[.slice p 0 cap] w fun e w' => e = .returned (.tuple #[]) ∧ w' = w := Any.slices_Sort_string_none Tryd.lays190 p cap w
end Go.Proofs
