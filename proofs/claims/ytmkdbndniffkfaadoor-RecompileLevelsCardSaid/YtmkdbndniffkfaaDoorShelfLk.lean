/-
  DERIVED: THE SHELF's CONTRACTS AT THIS DUMP, IN PLAIN WORDS (tools/lay-plain.mjs out of 'TrydKeys.lean', which tools/lay-shelf.mjs wrote): THE SAME DECLARATIONS UNDER THE SAME NAMES: 'import', 'namespace', 'open', 'def', 'theorem' AND NOTHING ELSE: no command of the shelf's: FOR A HAND-IN. Each laying: the table of numbers ('.._ren') and one theorem, a field a fact of the dump's own or the kernel's comparison; each contract: ONE APPLICATION.
-/
import Derived.Shelf.SlGeneric
import Derived.Shelf.SlIter.Nil
import Derived.Shelf.SortM.Plain
import Derived.Shelf.SortM.SortNone
import Derived.Ground.GgzProg
import Derived.Ground.SlgmProg
import Derived.Test.YtmkdbndniffkfaaDoorProg
namespace Go.Proofs
open Go.Shelf
def Tryd.sortedA_ren : Go.Shelf.Ren := ⟨fun | 6 => 36 | 8 => 54 | 9 => 19 | 11 => 64 | 13 => 30 | 12 => 29 | 23 => 49 | 24 => 50 | 14 => 41 | 15 => 42 | 16 => 43 | 17 => 44 | 18 => 45 | 19 => 46 | 20 => 20 | 21 => 47 | 22 => 48 | 25 => 56 | 26 => 57 | 27 => 58 | 28 => 59 | 29 => 60 | 30 => 31 | 31 => 65 | n => n, fun | 26 => 9 | 28 => 72 | 24 => 30 | 0 => 0 | 3 => 3 | 37 => 65 | 48 => 82 | 50 => 84 | 4 => 4 | 40 => 76 | 39 => 75 | 45 => 35 | 5 => 5 | 9 => 9 | 51 => 87 | 55 => 91 | 57 => 96 | 58 => 97 | 33 => 40 | n => n, fun | n => n⟩
theorem Tryd.sortedA : Go.Proofs.SlLaysZ.n6 Tryd.prog Tryd.sortedA_ren := {
  mixed := by kernel_rfl
  f6 := ⟨Tryd.f36.name, by decide, Tryd.func36.trans (congrArg some (by kernel_rfl))⟩
  f8 := ⟨Tryd.f54.name, by decide, Tryd.func54.trans (congrArg some (by kernel_rfl))⟩
  f11 := ⟨Tryd.f64.name, by decide, Tryd.func64.trans (congrArg some (by kernel_rfl))⟩
  t0 := Tryd.underlying0
  a0 := Tryd.isAgg0
  z0 := Tryd.sizeOf0
  v0 := Tryd.zeroValue0
  t24 := Tryd.underlying30
  a24 := Tryd.isAgg30
  z24 := Tryd.sizeOf30
  v24 := Tryd.zeroValue30
  t26 := Tryd.underlying9
  a26 := Tryd.isAgg9
  z26 := Tryd.sizeOf9
  v26 := Tryd.zeroValue9
  t28 := Tryd.underlying72
  a28 := Tryd.isAgg72
  z28 := Tryd.sizeOf72
  v28 := Tryd.zeroValue72
  i26 := by kernel_rfl }
def Tryd.sortA_ren : Go.Shelf.Ren := ⟨fun | 6 => 19 | 8 => 30 | 9 => 29 | 19 => 49 | 20 => 50 | 21 => 41 | 22 => 42 | 23 => 43 | 24 => 44 | 25 => 45 | 26 => 46 | 27 => 20 | 28 => 47 | 29 => 48 | 36 => 56 | 31 => 57 | 32 => 58 | 37 => 59 | 38 => 60 | 39 => 31 | 41 => 65 | n => n, fun | 27 => 30 | 29 => 9 | 3 => 3 | 32 => 65 | 26 => 30 | 0 => 0 | 44 => 82 | 46 => 84 | 4 => 4 | 36 => 76 | 35 => 75 | 41 => 35 | 5 => 5 | 9 => 9 | 53 => 87 | 57 => 91 | 63 => 96 | 64 => 97 | n => n, fun | n => n⟩
theorem Tryd.sortA : Go.Proofs.SlLaysM.n6 Tryd.prog Tryd.sortA_ren := {
  mixed := by kernel_rfl
  f6 := ⟨Tryd.f19.name, by decide, Tryd.func19.trans (congrArg some (by kernel_rfl))⟩
  f8 := Tryd.func30.trans (congrArg some (by kernel_rfl))
  f9 := ⟨Tryd.f29.name, by decide, Tryd.func29.trans (congrArg some (by kernel_rfl))⟩
  f19 := Tryd.func49.trans (congrArg some (by kernel_rfl))
  f20 := Tryd.func50.trans (congrArg some (by kernel_rfl))
  f21 := ⟨Tryd.f41.name, by decide, Tryd.func41.trans (congrArg some (by kernel_rfl))⟩
  f22 := ⟨Tryd.f42.name, by decide, Tryd.func42.trans (congrArg some (by kernel_rfl))⟩
  f23 := ⟨Tryd.f43.name, by decide, Tryd.func43.trans (congrArg some (by kernel_rfl))⟩
  f24 := ⟨Tryd.f44.name, by decide, Tryd.func44.trans (congrArg some (by kernel_rfl))⟩
  f25 := ⟨Tryd.f45.name, by decide, Tryd.func45.trans (congrArg some (by kernel_rfl))⟩
  f26 := ⟨Tryd.f46.name, by decide, Tryd.func46.trans (congrArg some (by kernel_rfl))⟩
  f27 := ⟨Tryd.f20.name, by decide, Tryd.func20.trans (congrArg some (by kernel_rfl))⟩
  f28 := ⟨Tryd.f47.name, by decide, Tryd.func47.trans (congrArg some (by kernel_rfl))⟩
  f29 := ⟨Tryd.f48.name, by decide, Tryd.func48.trans (congrArg some (by kernel_rfl))⟩
  f31 := Tryd.func57.trans (congrArg some (by kernel_rfl))
  f32 := Tryd.func58.trans (congrArg some (by kernel_rfl))
  f36 := ⟨Tryd.f56.name, by decide, Tryd.func56.trans (congrArg some (by kernel_rfl))⟩
  f37 := ⟨Tryd.f59.name, by decide, Tryd.func59.trans (congrArg some (by kernel_rfl))⟩
  f38 := ⟨Tryd.f60.name, by decide, Tryd.func60.trans (congrArg some (by kernel_rfl))⟩
  f39 := ⟨Tryd.f31.name, by decide, Tryd.func31.trans (congrArg some (by kernel_rfl))⟩
  f41 := ⟨Tryd.f65.name, by decide, Tryd.func65.trans (congrArg some (by kernel_rfl))⟩
  t0 := Tryd.underlying0
  a0 := Tryd.isAgg0
  z0 := Tryd.sizeOf0
  v0 := Tryd.zeroValue0
  t3 := Tryd.underlying3
  a3 := Tryd.isAgg3
  z3 := Tryd.sizeOf3
  v3 := Tryd.zeroValue3
  t4 := Tryd.underlying4
  a4 := Tryd.isAgg4
  z4 := Tryd.sizeOf4
  v4 := Tryd.zeroValue4
  t5 := Tryd.underlying5
  a5 := Tryd.isAgg5
  z5 := Tryd.sizeOf5
  v5 := Tryd.zeroValue5
  t9 := Tryd.underlying9
  a9 := Tryd.isAgg9
  z9 := Tryd.sizeOf9
  v9 := Tryd.zeroValue9
  t26 := Tryd.underlying30
  a26 := Tryd.isAgg30
  z26 := Tryd.sizeOf30
  v26 := Tryd.zeroValue30
  t27 := Tryd.underlying30
  a27 := Tryd.isAgg30
  z27 := Tryd.sizeOf30
  v27 := Tryd.zeroValue30
  t29 := Tryd.underlying9
  a29 := Tryd.isAgg9
  z29 := Tryd.sizeOf9
  v29 := Tryd.zeroValue9
  t32 := Tryd.underlying65
  a32 := Tryd.isAgg65
  z32 := Tryd.sizeOf65
  v32 := Tryd.zeroValue65
  t35 := Tryd.underlying75
  a35 := Tryd.isAgg75
  z35 := Tryd.sizeOf75
  v35 := Tryd.zeroValue75
  t36 := Tryd.underlying76
  a36 := Tryd.isAgg76
  z36 := Tryd.sizeOf76
  v36 := Tryd.zeroValue76
  t41 := Tryd.underlying35
  a41 := Tryd.isAgg35
  z41 := Tryd.sizeOf35
  v41 := Tryd.zeroValue35
  t44 := Tryd.underlying82
  a44 := Tryd.isAgg82
  z44 := Tryd.sizeOf82
  v44 := Tryd.zeroValue82
  t46 := Tryd.underlying84
  a46 := Tryd.isAgg84
  z46 := Tryd.sizeOf84
  v46 := Tryd.zeroValue84
  t53 := Tryd.underlying87
  a53 := Tryd.isAgg87
  z53 := Tryd.sizeOf87
  v53 := Tryd.zeroValue87
  t57 := Tryd.underlying91
  a57 := Tryd.isAgg91
  z57 := Tryd.sizeOf91
  v57 := Tryd.zeroValue91
  t63 := Tryd.underlying96
  a63 := Tryd.isAgg96
  z63 := Tryd.sizeOf96
  v63 := Tryd.zeroValue96
  t64 := Tryd.underlying97
  a64 := Tryd.isAgg97
  z64 := Tryd.sizeOf97
  v64 := Tryd.zeroValue97 }
def Tryd.keysB_ren : Go.Shelf.Ren := ⟨fun | 7 => 37 | 10 => 55 | n => n, fun | 23 => 50 | 26 => 9 | 3 => 30 | 28 => 72 | 0 => 0 | 27 => 71 | 33 => 40 | 4 => 4 | n => n, fun | n => n⟩
theorem Tryd.keysB : Go.Proofs.SlLaysZ.n7 Tryd.prog Tryd.keysB_ren := {
  mixed := by kernel_rfl
  f7 := ⟨Tryd.f37.name, by decide, Tryd.func37.trans (congrArg some (by kernel_rfl))⟩
  f10 := ⟨Tryd.f55.name, by decide, Tryd.func55.trans (congrArg some (by kernel_rfl))⟩
  t0 := Tryd.underlying0
  a0 := Tryd.isAgg0
  z0 := Tryd.sizeOf0
  v0 := Tryd.zeroValue0
  t4 := Tryd.underlying4
  a4 := Tryd.isAgg4
  z4 := Tryd.sizeOf4
  v4 := Tryd.zeroValue4
  t23 := Tryd.underlying50
  a23 := Tryd.isAgg50
  z23 := Tryd.sizeOf50
  v23 := Tryd.zeroValue50
  t26 := Tryd.underlying9
  a26 := Tryd.isAgg9
  z26 := Tryd.sizeOf9
  v26 := Tryd.zeroValue9
  t27 := Tryd.underlying71
  a27 := Tryd.isAgg71
  z27 := Tryd.sizeOf71
  v27 := Tryd.zeroValue71
  t28 := Tryd.underlying72
  a28 := Tryd.isAgg72
  z28 := Tryd.sizeOf72
  v28 := Tryd.zeroValue72
  t33 := Tryd.underlying40
  a33 := Tryd.isAgg40
  z33 := Tryd.sizeOf40
  v33 := Tryd.zeroValue40 }
end Go.Proofs
