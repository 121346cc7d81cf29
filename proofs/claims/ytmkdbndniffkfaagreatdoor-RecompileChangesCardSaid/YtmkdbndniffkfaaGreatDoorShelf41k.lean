/-
  DERIVED: THE SHELF's CONTRACTS AT THIS DUMP, IN PLAIN WORDS (tools/lay-plain.mjs out of 'TryzKeys.lean', which tools/lay-shelf.mjs wrote): THE SAME DECLARATIONS UNDER THE SAME NAMES: 'import', 'namespace', 'open', 'def', 'theorem' AND NOTHING ELSE: no command of the shelf's: FOR A HAND-IN. Each laying: the table of numbers ('.._ren') and one theorem, a field a fact of the dump's own or the kernel's comparison; each contract: ONE APPLICATION.
-/
import Derived.Shelf.SlGeneric
import Derived.Shelf.SlIter.Nil
import Derived.Shelf.SortM.Plain
import Derived.Shelf.SortM.SortNone
import Derived.Ground.GgzProg
import Derived.Ground.SlgmProg
import Derived.Test.YtmkdbndniffkfaaGreatDoorProg
namespace Go.Proofs
open Go.Shelf
def Tryz.sortedA_ren : Go.Shelf.Ren := ⟨fun | 6 => 99 | 8 => 121 | 9 => 41 | 11 => 134 | 13 => 79 | 12 => 78 | 23 => 113 | 24 => 114 | 14 => 104 | 15 => 105 | 16 => 106 | 17 => 107 | 18 => 108 | 19 => 109 | 20 => 110 | 21 => 111 | 22 => 112 | 25 => 123 | 26 => 124 | 27 => 125 | 28 => 126 | 29 => 127 | 30 => 128 | 31 => 135 | n => n, fun | 26 => 9 | 28 => 140 | 24 => 30 | 0 => 0 | 3 => 3 | 37 => 85 | 48 => 23 | 50 => 127 | 4 => 4 | 40 => 144 | 39 => 143 | 45 => 148 | 5 => 5 | 9 => 9 | 51 => 157 | 55 => 161 | 57 => 165 | 58 => 166 | 33 => 47 | n => n, fun | n => n⟩
theorem Tryz.sortedA : Go.Proofs.SlLaysZ.n6 Tryz.prog Tryz.sortedA_ren := {
  mixed := by kernel_rfl
  f6 := ⟨Tryz.f99.name, by decide, Tryz.func99.trans (congrArg some (by kernel_rfl))⟩
  f8 := ⟨Tryz.f121.name, by decide, Tryz.func121.trans (congrArg some (by kernel_rfl))⟩
  f11 := ⟨Tryz.f134.name, by decide, Tryz.func134.trans (congrArg some (by kernel_rfl))⟩
  t0 := Tryz.underlying0
  a0 := Tryz.isAgg0
  z0 := Tryz.sizeOf0
  v0 := Tryz.zeroValue0
  t24 := Tryz.underlying30
  a24 := Tryz.isAgg30
  z24 := Tryz.sizeOf30
  v24 := Tryz.zeroValue30
  t26 := Tryz.underlying9
  a26 := Tryz.isAgg9
  z26 := Tryz.sizeOf9
  v26 := Tryz.zeroValue9
  t28 := Tryz.underlying140
  a28 := Tryz.isAgg140
  z28 := Tryz.sizeOf140
  v28 := Tryz.zeroValue140
  i26 := by kernel_rfl }
def Tryz.sortA_ren : Go.Shelf.Ren := ⟨fun | 6 => 41 | 8 => 79 | 9 => 78 | 19 => 113 | 20 => 114 | 21 => 104 | 22 => 105 | 23 => 106 | 24 => 107 | 25 => 108 | 26 => 109 | 27 => 110 | 28 => 111 | 29 => 112 | 36 => 123 | 31 => 124 | 32 => 125 | 37 => 126 | 38 => 127 | 39 => 128 | 41 => 135 | n => n, fun | 27 => 30 | 29 => 9 | 3 => 3 | 32 => 85 | 26 => 30 | 0 => 0 | 44 => 23 | 46 => 127 | 4 => 4 | 36 => 144 | 35 => 143 | 41 => 148 | 5 => 5 | 9 => 9 | 53 => 157 | 57 => 161 | 63 => 165 | 64 => 166 | n => n, fun | n => n⟩
theorem Tryz.sortA : Go.Proofs.SlLaysM.n6 Tryz.prog Tryz.sortA_ren := {
  mixed := by kernel_rfl
  f6 := ⟨Tryz.f41.name, by decide, Tryz.func41.trans (congrArg some (by kernel_rfl))⟩
  f8 := Tryz.func79.trans (congrArg some (by kernel_rfl))
  f9 := ⟨Tryz.f78.name, by decide, Tryz.func78.trans (congrArg some (by kernel_rfl))⟩
  f19 := Tryz.func113.trans (congrArg some (by kernel_rfl))
  f20 := Tryz.func114.trans (congrArg some (by kernel_rfl))
  f21 := ⟨Tryz.f104.name, by decide, Tryz.func104.trans (congrArg some (by kernel_rfl))⟩
  f22 := ⟨Tryz.f105.name, by decide, Tryz.func105.trans (congrArg some (by kernel_rfl))⟩
  f23 := ⟨Tryz.f106.name, by decide, Tryz.func106.trans (congrArg some (by kernel_rfl))⟩
  f24 := ⟨Tryz.f107.name, by decide, Tryz.func107.trans (congrArg some (by kernel_rfl))⟩
  f25 := ⟨Tryz.f108.name, by decide, Tryz.func108.trans (congrArg some (by kernel_rfl))⟩
  f26 := ⟨Tryz.f109.name, by decide, Tryz.func109.trans (congrArg some (by kernel_rfl))⟩
  f27 := ⟨Tryz.f110.name, by decide, Tryz.func110.trans (congrArg some (by kernel_rfl))⟩
  f28 := ⟨Tryz.f111.name, by decide, Tryz.func111.trans (congrArg some (by kernel_rfl))⟩
  f29 := ⟨Tryz.f112.name, by decide, Tryz.func112.trans (congrArg some (by kernel_rfl))⟩
  f31 := Tryz.func124.trans (congrArg some (by kernel_rfl))
  f32 := Tryz.func125.trans (congrArg some (by kernel_rfl))
  f36 := ⟨Tryz.f123.name, by decide, Tryz.func123.trans (congrArg some (by kernel_rfl))⟩
  f37 := ⟨Tryz.f126.name, by decide, Tryz.func126.trans (congrArg some (by kernel_rfl))⟩
  f38 := ⟨Tryz.f127.name, by decide, Tryz.func127.trans (congrArg some (by kernel_rfl))⟩
  f39 := ⟨Tryz.f128.name, by decide, Tryz.func128.trans (congrArg some (by kernel_rfl))⟩
  f41 := ⟨Tryz.f135.name, by decide, Tryz.func135.trans (congrArg some (by kernel_rfl))⟩
  t0 := Tryz.underlying0
  a0 := Tryz.isAgg0
  z0 := Tryz.sizeOf0
  v0 := Tryz.zeroValue0
  t3 := Tryz.underlying3
  a3 := Tryz.isAgg3
  z3 := Tryz.sizeOf3
  v3 := Tryz.zeroValue3
  t4 := Tryz.underlying4
  a4 := Tryz.isAgg4
  z4 := Tryz.sizeOf4
  v4 := Tryz.zeroValue4
  t5 := Tryz.underlying5
  a5 := Tryz.isAgg5
  z5 := Tryz.sizeOf5
  v5 := Tryz.zeroValue5
  t9 := Tryz.underlying9
  a9 := Tryz.isAgg9
  z9 := Tryz.sizeOf9
  v9 := Tryz.zeroValue9
  t26 := Tryz.underlying30
  a26 := Tryz.isAgg30
  z26 := Tryz.sizeOf30
  v26 := Tryz.zeroValue30
  t27 := Tryz.underlying30
  a27 := Tryz.isAgg30
  z27 := Tryz.sizeOf30
  v27 := Tryz.zeroValue30
  t29 := Tryz.underlying9
  a29 := Tryz.isAgg9
  z29 := Tryz.sizeOf9
  v29 := Tryz.zeroValue9
  t32 := Tryz.underlying85
  a32 := Tryz.isAgg85
  z32 := Tryz.sizeOf85
  v32 := Tryz.zeroValue85
  t35 := Tryz.underlying143
  a35 := Tryz.isAgg143
  z35 := Tryz.sizeOf143
  v35 := Tryz.zeroValue143
  t36 := Tryz.underlying144
  a36 := Tryz.isAgg144
  z36 := Tryz.sizeOf144
  v36 := Tryz.zeroValue144
  t41 := Tryz.underlying148
  a41 := Tryz.isAgg148
  z41 := Tryz.sizeOf148
  v41 := Tryz.zeroValue148
  t44 := Tryz.underlying23
  a44 := Tryz.isAgg23
  z44 := Tryz.sizeOf23
  v44 := Tryz.zeroValue23
  t46 := Tryz.underlying127
  a46 := Tryz.isAgg127
  z46 := Tryz.sizeOf127
  v46 := Tryz.zeroValue127
  t53 := Tryz.underlying157
  a53 := Tryz.isAgg157
  z53 := Tryz.sizeOf157
  v53 := Tryz.zeroValue157
  t57 := Tryz.underlying161
  a57 := Tryz.isAgg161
  z57 := Tryz.sizeOf161
  v57 := Tryz.zeroValue161
  t63 := Tryz.underlying165
  a63 := Tryz.isAgg165
  z63 := Tryz.sizeOf165
  v63 := Tryz.zeroValue165
  t64 := Tryz.underlying166
  a64 := Tryz.isAgg166
  z64 := Tryz.sizeOf166
  v64 := Tryz.zeroValue166 }
def Tryz.keysB_ren : Go.Shelf.Ren := ⟨fun | 7 => 100 | 10 => 122 | n => n, fun | 23 => 81 | 26 => 9 | 3 => 30 | 28 => 140 | 0 => 0 | 27 => 139 | 33 => 47 | 4 => 4 | n => n, fun | n => n⟩
theorem Tryz.keysB : Go.Proofs.SlLaysZ.n7 Tryz.prog Tryz.keysB_ren := {
  mixed := by kernel_rfl
  f7 := ⟨Tryz.f100.name, by decide, Tryz.func100.trans (congrArg some (by kernel_rfl))⟩
  f10 := ⟨Tryz.f122.name, by decide, Tryz.func122.trans (congrArg some (by kernel_rfl))⟩
  t0 := Tryz.underlying0
  a0 := Tryz.isAgg0
  z0 := Tryz.sizeOf0
  v0 := Tryz.zeroValue0
  t4 := Tryz.underlying4
  a4 := Tryz.isAgg4
  z4 := Tryz.sizeOf4
  v4 := Tryz.zeroValue4
  t23 := Tryz.underlying81
  a23 := Tryz.isAgg81
  z23 := Tryz.sizeOf81
  v23 := Tryz.zeroValue81
  t26 := Tryz.underlying9
  a26 := Tryz.isAgg9
  z26 := Tryz.sizeOf9
  v26 := Tryz.zeroValue9
  t27 := Tryz.underlying139
  a27 := Tryz.isAgg139
  z27 := Tryz.sizeOf139
  v27 := Tryz.zeroValue139
  t28 := Tryz.underlying140
  a28 := Tryz.isAgg140
  z28 := Tryz.sizeOf140
  v28 := Tryz.zeroValue140
  t33 := Tryz.underlying47
  a33 := Tryz.isAgg47
  z33 := Tryz.sizeOf47
  v33 := Tryz.zeroValue47 }
end Go.Proofs
