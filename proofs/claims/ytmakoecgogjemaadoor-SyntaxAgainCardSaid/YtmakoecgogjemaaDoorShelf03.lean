/-
  DERIVED: THE SHELF's CONTRACTS AT THIS DUMP, IN PLAIN WORDS (tools/lay-plain.mjs out of 'TrydShelf.lean', which tools/lay-shelf.mjs wrote): THE SAME DECLARATIONS UNDER THE SAME NAMES: 'import', 'namespace', 'open', 'def', 'theorem' AND NOTHING ELSE: no command of the shelf's: FOR A HAND-IN. Each laying: the table of numbers ('.._ren') and one theorem, a field a fact of the dump's own or the kernel's comparison; each contract: ONE APPLICATION.
-/
import Derived.Shelf.Strings.Fields
import Derived.Test.YtmakoecgogjemaaDoorProg
namespace Go.Proofs
open Go.Shelf
def Tryd.lays157_ren : Go.Shelf.Ren := ⟨fun | 157 => 85 | 229 => 98 | 199 => 99 | 261 => 103 | 311 => 110 | 312 => 111 | n => n, fun | 9 => 9 | 31 => 22 | 3 => 3 | 5 => 5 | 4 => 4 | 119 => 90 | 0 => 0 | 40 => 92 | 152 => 93 | 21 => 21 | 154 => 95 | 51 => 96 | 141 => 98 | 196 => 104 | 193 => 101 | 198 => 107 | 49 => 105 | 194 => 102 | 201 => 110 | 226 => 112 | 46 => 113 | 227 => 114 | n => n, fun | 0 => 0 | 6 => 1 | n => n⟩
theorem Tryd.lays157 : Go.Proofs.Lays.n157 Tryd.prog Tryd.lays157_ren := {
  mixed := by kernel_rfl
  f157 := Tryd.func85.trans (congrArg some (by kernel_rfl))
  f199 := Tryd.func99.trans (congrArg some (by kernel_rfl))
  f229 := Tryd.func98.trans (congrArg some (by kernel_rfl))
  f261 := Tryd.func103.trans (congrArg some (by kernel_rfl))
  f311 := Tryd.func110.trans (congrArg some (by kernel_rfl))
  f312 := Tryd.func111.trans (congrArg some (by kernel_rfl))
  t0 := Tryd.underlying0
  a0 := Tryd.isAgg0
  z0 := Tryd.sizeOf0
  v0 := Tryd.zeroValue0
  t3 := Tryd.underlying3
  a3 := Tryd.isAgg3
  z3 := Tryd.sizeOf3
  v3 := Tryd.zeroValue3
  t4 := Tryd.underlying4
  a4 := Tryd.isAgg4
  z4 := Tryd.sizeOf4
  v4 := Tryd.zeroValue4
  t5 := Tryd.underlying5
  a5 := Tryd.isAgg5
  z5 := Tryd.sizeOf5
  v5 := Tryd.zeroValue5
  t9 := Tryd.underlying9
  a9 := Tryd.isAgg9
  z9 := Tryd.sizeOf9
  v9 := Tryd.zeroValue9
  t21 := Tryd.underlying21
  a21 := Tryd.isAgg21
  z21 := Tryd.sizeOf21
  v21 := Tryd.zeroValue21
  t31 := Tryd.underlying22
  a31 := Tryd.isAgg22
  z31 := Tryd.sizeOf22
  v31 := Tryd.zeroValue22
  t40 := Tryd.underlying92
  a40 := Tryd.isAgg92
  z40 := Tryd.sizeOf92
  v40 := Tryd.zeroValue92
  t46 := Tryd.underlying113
  a46 := Tryd.isAgg113
  z46 := Tryd.sizeOf113
  v46 := Tryd.zeroValue113
  t49 := Tryd.underlying105
  a49 := Tryd.isAgg105
  z49 := Tryd.sizeOf105
  v49 := Tryd.zeroValue105
  t51 := Tryd.underlying96
  a51 := Tryd.isAgg96
  z51 := Tryd.sizeOf96
  v51 := Tryd.zeroValue96
  t119 := Tryd.underlying90
  a119 := Tryd.isAgg90
  z119 := Tryd.sizeOf90
  t141 := Tryd.underlying98
  a141 := Tryd.isAgg98
  z141 := Tryd.sizeOf98
  v141 := Tryd.zeroValue98
  t152 := Tryd.underlying93
  a152 := Tryd.isAgg93
  z152 := Tryd.sizeOf93
  v152 := Tryd.zeroValue93
  t154 := Tryd.underlying95
  a154 := Tryd.isAgg95
  z154 := Tryd.sizeOf95
  v154 := Tryd.zeroValue95
  t193 := Tryd.underlying101
  a193 := Tryd.isAgg101
  z193 := Tryd.sizeOf101
  v193 := Tryd.zeroValue101
  t194 := Tryd.underlying102
  a194 := Tryd.isAgg102
  z194 := Tryd.sizeOf102
  v194 := Tryd.zeroValue102
  t196 := Tryd.underlying104
  a196 := Tryd.isAgg104
  z196 := Tryd.sizeOf104
  v196 := Tryd.zeroValue104
  t198 := Tryd.underlying107
  a198 := Tryd.isAgg107
  z198 := Tryd.sizeOf107
  v198 := Tryd.zeroValue107
  t201 := Tryd.underlying110
  a201 := Tryd.isAgg110
  z201 := Tryd.sizeOf110
  v201 := Tryd.zeroValue110
  t226 := Tryd.underlying112
  a226 := Tryd.isAgg112
  z226 := Tryd.sizeOf112
  v226 := Tryd.zeroValue112
  t227 := Tryd.underlying114
  a227 := Tryd.isAgg114
  z227 := Tryd.sizeOf114
  v227 := Tryd.zeroValue114
  g0 := by kernel_rfl
  g6 := by kernel_rfl }
open Go.RowKit Go.Lib in
/-- strings.Fields, the table by 'Lib.TabIs' (as strings.TrimSpace's contract). 'hg': the table's number, by its name: at a dump 'by kernel_rfl'. (LAID: no walk: one application.) -/
theorem Tryd.strings_Fields (s : ByteArray) (w : World) (hs : s.size < 4294967281) (hascii : ∀ (j : Nat) b, s.data.toList[j]? = some b → b.toNat < 128) (htab : Lib.TabIs Tryd.prog w "strings.asciiSpace" .u8 Lib.asciiSpaceTab) :
    Calls Tryd.prog 85 #[.string s] w fun e w' =>
      e = .returned (.slice (some ⟨w.heap.size, 0, none⟩) (Lib.fields s.data.toList).length (Lib.fields s.data.toList).length) ∧ w' = w.alloc (.cells ((Lib.fields s.data.toList).map fun l => Value.string ⟨l.toArray⟩).toArray 9) := Any.strings_Fields Tryd.lays157 (by kernel_rfl) (by kernel_rfl) s w hs hascii htab
end Go.Proofs
