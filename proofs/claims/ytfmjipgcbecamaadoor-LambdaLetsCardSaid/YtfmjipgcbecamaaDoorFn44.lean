/- Printed by a program (wip/tools/gen2.py): for each function its condition as a plain formula, and that the formula gives the call. -/
import Derived.Test.YtfmjipgcbecamaaDoorProg
import Derived.Test.YtfmjipgcbecamaaDoorVda
namespace Go.Proofs.YtfmjipgcbecamaaDoor
open Go Go.Vc Go.RowKit
set_option maxRecDepth 100000
set_option linter.unusedVariables false
def TT : List TI := [
  ⟨0, .tuple #[], 1, 0, some (.tuple ⟨[]⟩), (.tup [])⟩,
  ⟨3, .int .i64, 1, 8, some (.int .i64 (0 : Int)), (.e (.one (.int .i64)))⟩,
  ⟨4, .bool, 1, 1, some (.bool false), (.e (.one (.bool)))⟩,
  ⟨9, .string, 1, 16, some (.string (bs [])), (.e (.one (.str)))⟩,
  ⟨22, .slice 24, 1, 24, some (.slice none 0 0), (.e (.one (.sl)))⟩,
  ⟨24, .struct #[{ name := "Op", type := 3, offset := 0, embedded := false, tag := "", pkgPath := "", byteOffset := 0 }, { name := "N", type := 3, offset := 1, embedded := false, tag := "", pkgPath := "", byteOffset := 8 }, { name := "S", type := 9, offset := 2, embedded := false, tag := "", pkgPath := "", byteOffset := 16 }, { name := "L", type := 22, offset := 3, embedded := false, tag := "", pkgPath := "", byteOffset := 32 }], 4, 56, some (.agg ⟨[(.int .i64 (0 : Int)), (.int .i64 (0 : Int)), (.string (bs [])), (.slice none 0 0)]⟩), (.e (.agg [(.int .i64), (.int .i64), (.str), (.sl)]))⟩,
  ⟨26, .func #[24] #[4] false, 1, 8, some .nilFunc, (.e (.one (.fn)))⟩,
  ⟨27, .slice 9, 1, 24, some (.slice none 0 0), (.e (.one (.sl)))⟩,
  ⟨28, .slice 30, 1, 24, some (.slice none 0 0), (.e (.one (.sl)))⟩,
  ⟨30, .struct #[{ name := "Op", type := 3, offset := 0, embedded := false, tag := "", pkgPath := "", byteOffset := 0 }, { name := "N", type := 3, offset := 1, embedded := false, tag := "", pkgPath := "", byteOffset := 8 }, { name := "S", type := 9, offset := 2, embedded := false, tag := "", pkgPath := "", byteOffset := 16 }, { name := "Names", type := 27, offset := 3, embedded := false, tag := "", pkgPath := "", byteOffset := 32 }, { name := "L", type := 28, offset := 4, embedded := false, tag := "", pkgPath := "", byteOffset := 56 }], 5, 80, some (.agg ⟨[(.int .i64 (0 : Int)), (.int .i64 (0 : Int)), (.string (bs [])), (.slice none 0 0), (.slice none 0 0)]⟩), (.e (.agg [(.int .i64), (.int .i64), (.str), (.sl), (.sl)]))⟩,
  ⟨32, .struct #[{ name := "Op", type := 3, offset := 0, embedded := false, tag := "", pkgPath := "", byteOffset := 0 }, { name := "N", type := 3, offset := 1, embedded := false, tag := "", pkgPath := "", byteOffset := 8 }, { name := "Steps", type := 3, offset := 2, embedded := false, tag := "", pkgPath := "", byteOffset := 16 }, { name := "V", type := 30, offset := 3, embedded := false, tag := "", pkgPath := "", byteOffset := 24 }, { name := "Out", type := 27, offset := 8, embedded := false, tag := "", pkgPath := "", byteOffset := 104 }], 9, 128, some (.agg ⟨[(.int .i64 (0 : Int)), (.int .i64 (0 : Int)), (.int .i64 (0 : Int)), (.int .i64 (0 : Int)), (.int .i64 (0 : Int)), (.string (bs [])), (.slice none 0 0), (.slice none 0 0), (.slice none 0 0)]⟩), (.e (.agg [(.int .i64), (.int .i64), (.int .i64), (.int .i64), (.int .i64), (.str), (.sl), (.sl), (.sl)]))⟩,
  ⟨33, .int .i64, 1, 8, some (.int .i64 (0 : Int)), (.e (.one (.int .i64)))⟩,
  ⟨34, .tuple #[32, 33], 1, 0, some (.tuple ⟨[(.agg ⟨[(.int .i64 (0 : Int)), (.int .i64 (0 : Int)), (.int .i64 (0 : Int)), (.int .i64 (0 : Int)), (.int .i64 (0 : Int)), (.string (bs [])), (.slice none 0 0), (.slice none 0 0), (.slice none 0 0)]⟩), (.int .i64 (0 : Int))]⟩), (.tup [(.agg [(.int .i64), (.int .i64), (.int .i64), (.int .i64), (.int .i64), (.str), (.sl), (.sl), (.sl)]), (.one (.int .i64))])⟩,
  ⟨36, .slice 3, 1, 24, some (.slice none 0 0), (.e (.one (.sl)))⟩,
  ⟨42, .int .u16, 1, 2, some (.int .u16 (0 : Int)), (.e (.one (.int .u16)))⟩,
  ⟨47, .func #[24] #[30] false, 1, 8, some .nilFunc, (.e (.one (.fn)))⟩,
  ⟨50, .tuple #[36, 33], 1, 0, some (.tuple ⟨[(.slice none 0 0), (.int .i64 (0 : Int))]⟩), (.tup [(.one (.sl)), (.one (.int .i64))])⟩,
  ⟨54, .func #[24, 24] #[4] false, 1, 8, some .nilFunc, (.e (.one (.fn)))⟩,
  ⟨55, .func #[24, 3] #[] false, 1, 8, some .nilFunc, (.e (.one (.fn)))⟩,
  ⟨56, .pointer 58, 1, 8, some (.pointer none), (.e (.one (.ptr)))⟩,
  ⟨58, .struct #[{ name := "steps", type := 3, offset := 0, embedded := false, tag := "", pkgPath := "pilaster/lambda", byteOffset := 0 }, { name := "fuel", type := 3, offset := 1, embedded := false, tag := "", pkgPath := "pilaster/lambda", byteOffset := 8 }, { name := "out", type := 27, offset := 2, embedded := false, tag := "", pkgPath := "pilaster/lambda", byteOffset := 16 }, { name := "op", type := 3, offset := 3, embedded := false, tag := "", pkgPath := "pilaster/lambda", byteOffset := 40 }, { name := "n", type := 3, offset := 4, embedded := false, tag := "", pkgPath := "pilaster/lambda", byteOffset := 48 }], 5, 56, some (.agg ⟨[(.int .i64 (0 : Int)), (.int .i64 (0 : Int)), (.slice none 0 0), (.int .i64 (0 : Int)), (.int .i64 (0 : Int))]⟩), (.e (.agg [(.int .i64), (.int .i64), (.sl), (.int .i64), (.int .i64)]))⟩,
  ⟨61, .slice 63, 1, 24, some (.slice none 0 0), (.e (.one (.sl)))⟩,
  ⟨63, .struct #[{ name := "Op", type := 3, offset := 0, embedded := false, tag := "", pkgPath := "", byteOffset := 0 }, { name := "N", type := 3, offset := 1, embedded := false, tag := "", pkgPath := "", byteOffset := 8 }, { name := "S", type := 9, offset := 2, embedded := false, tag := "", pkgPath := "", byteOffset := 16 }, { name := "L", type := 61, offset := 3, embedded := false, tag := "", pkgPath := "", byteOffset := 32 }, { name := "Body", type := 24, offset := 4, embedded := false, tag := "", pkgPath := "", byteOffset := 56 }, { name := "Env", type := 61, offset := 8, embedded := false, tag := "", pkgPath := "", byteOffset := 112 }, { name := "Self", type := 4, offset := 9, embedded := false, tag := "", pkgPath := "", byteOffset := 136 }], 10, 144, some (.agg ⟨[(.int .i64 (0 : Int)), (.int .i64 (0 : Int)), (.string (bs [])), (.slice none 0 0), (.int .i64 (0 : Int)), (.int .i64 (0 : Int)), (.string (bs [])), (.slice none 0 0), (.slice none 0 0), (.bool false)]⟩), (.e (.agg [(.int .i64), (.int .i64), (.str), (.sl), (.int .i64), (.int .i64), (.str), (.sl), (.sl), (.bool)]))⟩,
  ⟨65, .struct #[{ name := "fuel", type := 3, offset := 0, embedded := false, tag := "", pkgPath := "pilaster/pilasterref44", byteOffset := 0 }, { name := "steps", type := 3, offset := 1, embedded := false, tag := "", pkgPath := "pilaster/pilasterref44", byteOffset := 8 }, { name := "out", type := 27, offset := 2, embedded := false, tag := "", pkgPath := "pilaster/pilasterref44", byteOffset := 16 }, { name := "end", type := 3, offset := 3, embedded := false, tag := "", pkgPath := "pilaster/pilasterref44", byteOffset := 40 }, { name := "code", type := 3, offset := 4, embedded := false, tag := "", pkgPath := "pilaster/pilasterref44", byteOffset := 48 }], 5, 56, some (.agg ⟨[(.int .i64 (0 : Int)), (.int .i64 (0 : Int)), (.slice none 0 0), (.int .i64 (0 : Int)), (.int .i64 (0 : Int))]⟩), (.e (.agg [(.int .i64), (.int .i64), (.sl), (.int .i64), (.int .i64)]))⟩,
  ⟨66, .tuple #[63, 65], 1, 0, some (.tuple ⟨[(.agg ⟨[(.int .i64 (0 : Int)), (.int .i64 (0 : Int)), (.string (bs [])), (.slice none 0 0), (.int .i64 (0 : Int)), (.int .i64 (0 : Int)), (.string (bs [])), (.slice none 0 0), (.slice none 0 0), (.bool false)]⟩), (.agg ⟨[(.int .i64 (0 : Int)), (.int .i64 (0 : Int)), (.slice none 0 0), (.int .i64 (0 : Int)), (.int .i64 (0 : Int))]⟩)]⟩), (.tup [(.agg [(.int .i64), (.int .i64), (.str), (.sl), (.int .i64), (.int .i64), (.str), (.sl), (.sl), (.bool)]), (.agg [(.int .i64), (.int .i64), (.sl), (.int .i64), (.int .i64)])])⟩,
  ⟨68, .tuple #[30, 3], 1, 0, some (.tuple ⟨[(.agg ⟨[(.int .i64 (0 : Int)), (.int .i64 (0 : Int)), (.string (bs [])), (.slice none 0 0), (.slice none 0 0)]⟩), (.int .i64 (0 : Int))]⟩), (.tup [(.agg [(.int .i64), (.int .i64), (.str), (.sl), (.sl)]), (.one (.int .i64))])⟩,
  ⟨70, .tuple #[3, 4], 1, 0, some (.tuple ⟨[(.int .i64 (0 : Int)), (.bool false)]⟩), (.tup [(.one (.int .i64)), (.one (.bool))])⟩,
  ⟨72, .map 3 4, 1, 8, some (.map none), (.e (.one (.map)))⟩,
  ⟨77, .struct #[], 0, 0, some (.agg ⟨[]⟩), (.e (.agg []))⟩,
  ⟨80, .pointer 100, 1, 8, some (.pointer none), (.e (.one (.ptr)))⟩,
  ⟨82, .pointer 3, 1, 8, some (.pointer none), (.e (.one (.ptr)))⟩,
  ⟨87, .tuple #[61, 65], 1, 0, some (.tuple ⟨[(.slice none 0 0), (.agg ⟨[(.int .i64 (0 : Int)), (.int .i64 (0 : Int)), (.slice none 0 0), (.int .i64 (0 : Int)), (.int .i64 (0 : Int))]⟩)]⟩), (.tup [(.one (.sl)), (.agg [(.int .i64), (.int .i64), (.sl), (.int .i64), (.int .i64)])])⟩,
  ⟨97, .slice 80, 1, 24, some (.slice none 0 0), (.e (.one (.sl)))⟩,
  ⟨98, .pointer 103, 1, 8, some (.pointer none), (.e (.one (.ptr)))⟩,
  ⟨100, .struct #[{ name := "op", type := 3, offset := 0, embedded := false, tag := "", pkgPath := "pilaster/lambda", byteOffset := 0 }, { name := "n", type := 3, offset := 1, embedded := false, tag := "", pkgPath := "pilaster/lambda", byteOffset := 8 }, { name := "s", type := 9, offset := 2, embedded := false, tag := "", pkgPath := "pilaster/lambda", byteOffset := 16 }, { name := "l", type := 97, offset := 3, embedded := false, tag := "", pkgPath := "pilaster/lambda", byteOffset := 32 }, { name := "body", type := 24, offset := 4, embedded := false, tag := "", pkgPath := "pilaster/lambda", byteOffset := 56 }, { name := "env", type := 98, offset := 8, embedded := false, tag := "", pkgPath := "pilaster/lambda", byteOffset := 112 }], 9, 120, some (.agg ⟨[(.int .i64 (0 : Int)), (.int .i64 (0 : Int)), (.string (bs [])), (.slice none 0 0), (.int .i64 (0 : Int)), (.int .i64 (0 : Int)), (.string (bs [])), (.slice none 0 0), (.pointer none)]⟩), (.e (.agg [(.int .i64), (.int .i64), (.str), (.sl), (.int .i64), (.int .i64), (.str), (.sl), (.ptr)]))⟩,
  ⟨103, .struct #[{ name := "v", type := 80, offset := 0, embedded := false, tag := "", pkgPath := "pilaster/lambda", byteOffset := 0 }, { name := "next", type := 98, offset := 1, embedded := false, tag := "", pkgPath := "pilaster/lambda", byteOffset := 8 }], 2, 16, some (.agg ⟨[(.pointer none), (.pointer none)]⟩), (.e (.agg [(.ptr), (.ptr)]))⟩]
theorem TTok : TOk Tryd.prog TT := tok_of (by kernel_rfl)
def FNS : List Nat := [9, 10, 11, 12, 13, 14, 15, 16, 17, 18, 19, 20, 22, 23, 24, 25, 26, 27, 28, 29, 30, 31, 33, 34, 35, 36, 37, 38, 39, 40, 41, 42, 43, 44, 45, 47, 48, 49, 50, 51, 52, 53, 54, 55, 56, 57, 61, 62, 64, 65, 66, 67, 68, 69, 70, 71, 72, 73, 74, 85, 86, 87, 88, 94, 95, 96, 97, 98, 100]
theorem FNSok : FOk Tryd.prog FNS := fok_of (by kernel_rfl)
theorem mixed : Tryd.prog.follows .mixedOrders = true := by kernel_rfl
def TCH : List Nat := [34, 47, 48, 64, 66, 67, 86, 87, 88, 94, 97]
def PNF : List Nat := [47, 48, 64, 66, 67, 86, 87, 88, 94, 97]

/- 3 pilaster/pilasterlaw44.LambdaRuns -/
noncomputable def c3 : Code := match Tryd.f3.body with
  | some c => c
  | none => .skip
def F3 (x0 : Int) (x1 : Int) (x2 : ByteArray) (x3a : Option Addr) (x3l : Nat) (x3c : Nat) (fuel : Int) (g : G) (R : Value → G → Prop) : Prop :=
  ∀ g1 : G, Ex g g1 →
  (CallsP Tryd.prog 9 #[] g1 fun v g2 =>
  ∃ x : Bool, v = (.bool x) ∧ ifB (!x)
  (∀ g3 : G, Ex g2 g3 →
  R (.bool false) g3)
  (∀ J : G → Prop,
  (∀ g4 : G, ((CallsP Tryd.prog 11 #[(.agg ⟨[(.int .i64 x0), (.int .i64 x1), (.string x2), (.slice x3a x3l x3c)]⟩), (.int .i64 fuel)] g4 fun v g5 =>
  ∃ x00 : Int, ∃ x01 : Int, ∃ x02 : Int, ∃ x03 : Int, ∃ x04 : Int, ∃ x05 : ByteArray, ∃ x06a : Option Addr, ∃ x06l : Nat, ∃ x06c : Nat, ∃ x07a : Option Addr, ∃ x07l : Nat, ∃ x07c : Nat, ∃ x08a : Option Addr, ∃ x08l : Nat, ∃ x08c : Nat, ∃ x1_1 : Int, v = (.tuple ⟨[(.agg ⟨[(.int .i64 x00), (.int .i64 x01), (.int .i64 x02), (.int .i64 x03), (.int .i64 x04), (.string x05), (.slice x06a x06l x06c), (.slice x07a x07l x07c), (.slice x08a x08l x08c)]⟩), (.int .i64 x1_1)]⟩) ∧ ∀ J_1 : Bool → G → Prop,
  (∀ v_1 : Bool, ∀ g6 : G, (ifB v_1
  (ifB (eqI x1_1 (1 : Int))
  ((CallsP Tryd.prog 14 #[(.agg ⟨[(.int .i64 x00), (.int .i64 x01), (.int .i64 x02), (.int .i64 x03), (.int .i64 x04), (.string x05), (.slice x06a x06l x06c), (.slice x07a x07l x07c), (.slice x08a x08l x08c)]⟩)] g6 fun v g7 =>
  ∃ x_1 : Bool, v = (.bool x_1) ∧ ∀ g8 : G, Ex g7 g8 →
  R (.bool x_1) g8))
  (∀ g9 : G, Ex g6 g9 →
  R (.bool false) g9))
  (∀ J_2 : Bool → G → Prop,
  (∀ v_2 : Bool, ∀ g10 : G, (ifB v_2
  (ifB (eqI x1_1 (2 : Int))
  ((CallsP Tryd.prog 14 #[(.agg ⟨[(.int .i64 x00), (.int .i64 x01), (.int .i64 x02), (.int .i64 x03), (.int .i64 x04), (.string x05), (.slice x06a x06l x06c), (.slice x07a x07l x07c), (.slice x08a x08l x08c)]⟩)] g10 fun v g11 =>
  ∃ x_2 : Bool, v = (.bool x_2) ∧ ∀ g12 : G, Ex g11 g12 →
  R (.bool x_2) g12))
  (∀ g13 : G, Ex g10 g13 →
  R (.bool false) g13))
  (∀ g14 : G, Ex g10 g14 →
  ifB (eqI x1_1 (0 : Int))
  ((CallsP Tryd.prog 16 #[(.agg ⟨[(.int .i64 x0), (.int .i64 x1), (.string x2), (.slice x3a x3l x3c)]⟩), (.int .i64 fuel)] g14 fun v g15 =>
  ∃ x0_1 : Int, ∃ x1_2 : Int, ∃ x2_1 : Int, ∃ x3 : Int, ∃ x4 : Int, ∃ x5 : ByteArray, ∃ x6a : Option Addr, ∃ x6l : Nat, ∃ x6c : Nat, ∃ x7a : Option Addr, ∃ x7l : Nat, ∃ x7c : Nat, ∃ x8a : Option Addr, ∃ x8l : Nat, ∃ x8c : Nat, v = (.agg ⟨[(.int .i64 x0_1), (.int .i64 x1_2), (.int .i64 x2_1), (.int .i64 x3), (.int .i64 x4), (.string x5), (.slice x6a x6l x6c), (.slice x7a x7l x7c), (.slice x8a x8l x8c)]⟩) ∧ (CallsP Tryd.prog 15 #[(.agg ⟨[(.int .i64 x00), (.int .i64 x01), (.int .i64 x02), (.int .i64 x03), (.int .i64 x04), (.string x05), (.slice x06a x06l x06c), (.slice x07a x07l x07c), (.slice x08a x08l x08c)]⟩), (.agg ⟨[(.int .i64 x0_1), (.int .i64 x1_2), (.int .i64 x2_1), (.int .i64 x3), (.int .i64 x4), (.string x5), (.slice x6a x6l x6c), (.slice x7a x7l x7c), (.slice x8a x8l x8c)]⟩)] g15 fun v g16 =>
  ∃ x_3 : Bool, v = (.bool x_3) ∧ ∀ g17 : G, Ex g16 g17 →
  R (.bool x_3) g17)))
  (∀ g18 : G, Ex g14 g18 →
  R (.bool false) g18))) → J_2 v_2 g10) →
  ifB (ltI fuel (0 : Int))
  (J_2 true g6)
  (J_2 (ltI (1048576 : Int) fuel) g6))) → J_1 v_1 g6) →
  ∀ g19 : G, Ex g5 g19 →
  (CallsP Tryd.prog 12 #[(.agg ⟨[(.int .i64 x0), (.int .i64 x1), (.string x2), (.slice x3a x3l x3c)]⟩)] g19 fun v g20 =>
  ∃ x_4 : Bool, v = (.bool x_4) ∧ ifB (!x_4)
  (J_1 true g20)
  ((CallsP Tryd.prog 13 #[(.agg ⟨[(.int .i64 x0), (.int .i64 x1), (.string x2), (.slice x3a x3l x3c)]⟩)] g20 fun v g21 =>
  ∃ xa : Option Addr, ∃ xl : Nat, ∃ xc : Nat, v = (.slice xa xl xc) ∧ J_1 (ltI (0 : Int) ((xl : Nat) : Int)) g21))))) → J g4) →
  (CallsP Tryd.prog 10 #[(.agg ⟨[(.int .i64 x0), (.int .i64 x1), (.string x2), (.slice x3a x3l x3c)]⟩)] g2 fun v g22 =>
  ∃ x_5 : Bool, v = (.bool x_5) ∧ ifB x_5
  (∀ g23 : G, Ex g22 g23 →
  R (.bool true) g23)
  (ifB (ltI (5000 : Int) fuel)
  (ifB (leI fuel (1048576 : Int))
  (∀ g24 : G, Ex g22 g24 →
  R (.bool true) g24)
  (J g22))
  (J g22)))))
/- 4 pilaster/pilasterlaw44.LambdaFuel -/
noncomputable def c4 : Code := match Tryd.f4.body with
  | some c => c
  | none => .skip
/- 5 pilaster/pilasterlaw44.LambdaLets -/
noncomputable def c5 : Code := match Tryd.f5.body with
  | some c => c
  | none => .skip
noncomputable def cfg5 : Cfg := ⟨Tryd.prog, TT, FNS, [3, 4, 5, 7, 8, 9, 11, 13, 15, 17, 18, 20], [(3, 3), (4, 4), (5, 5), (7, 7), (8, 8), (9, 9), (11, 11), (13, 13), (15, 15), (17, 17), (18, 18), (20, 20), (57, 9), (61, 11), (95, 13), (100, 15), (137, 18), (142, 20)], [], TCH, false, false, none, PNF, false⟩
def an5 : AnnG := (.seq .leaf (.seq (.seq .leaf (.cond (.seq .leaf .leaf) .leaf)) (.join ⟨[], [], []⟩ (.seq .leaf (.cond (.seq .leaf .leaf) .leaf)) (.seq .leaf (.join ⟨[], [(8, 8, 0)], [(8, [(.int .i64), (.int .i64), (.str), (.sl)])]⟩ (.treeP false [] 7 (.quiet 0 (.quiet 3 (.eff 1 (.eff 2 (.eff 4 (.eff 5 (.eff 6 .fin .fin) (.eff 6 (.eff 5 .fin .fin) .fin)) (.eff 6 (.eff 4 (.eff 5 .fin .fin) .fin) .fin)) (.eff 6 (.eff 2 (.eff 4 (.eff 5 .fin .fin) .fin) .fin) .fin)) (.eff 6 (.eff 1 (.eff 2 (.eff 4 (.eff 5 .fin .fin) .fin) .fin) .fin) .fin))))) (.seq .leaf (.seq .leaf (.seq (.seq .leaf (.cond (.seq .leaf .leaf) .leaf)) (.join ⟨[], [], []⟩ (.seq .leaf (.cond (.seq .leaf .leaf) .leaf)) (.join ⟨[(14, .int .i64)], [(13, 13, 0)], [(13, [(.int .i64), (.int .i64), (.int .i64), (.int .i64), (.int .i64), (.str), (.sl), (.sl), (.sl)])]⟩ (.treeP false [] 14 (.quiet 0 (.quiet 1 (.eff 2 (.eff 3 (.eff 4 (.eff 5 (.eff 6 (.eff 7 (.eff 8 (.quiet 9 (.quiet 10 (.quiet 11 (.eff 12 (.eff 13 .fin .fin) .fin)))) (.eff 12 (.eff 8 (.quiet 9 (.quiet 10 (.quiet 11 (.eff 13 .fin .fin)))) .fin) .fin)) (.eff 12 (.eff 7 (.eff 8 (.quiet 9 (.quiet 10 (.quiet 11 (.eff 13 .fin .fin)))) .fin) .fin) .fin)) (.eff 12 (.eff 6 (.eff 7 (.eff 8 (.quiet 9 (.quiet 10 (.quiet 11 (.eff 13 .fin .fin)))) .fin) .fin) .fin) .fin)) (.eff 12 (.eff 5 (.eff 6 (.eff 7 (.eff 8 (.quiet 9 (.quiet 10 (.quiet 11 (.eff 13 .fin .fin)))) .fin) .fin) .fin) .fin) .fin)) (.eff 12 (.eff 4 (.eff 5 (.eff 6 (.eff 7 (.eff 8 (.quiet 9 (.quiet 10 (.quiet 11 (.eff 13 .fin .fin)))) .fin) .fin) .fin) .fin) .fin) .fin)) (.eff 12 (.eff 3 (.eff 4 (.eff 5 (.eff 6 (.eff 7 (.eff 8 (.quiet 9 (.quiet 10 (.quiet 11 (.eff 13 .fin .fin)))) .fin) .fin) .fin) .fin) .fin) .fin) .fin)) (.eff 12 (.eff 2 (.eff 3 (.eff 4 (.eff 5 (.eff 6 (.eff 7 (.eff 8 (.quiet 9 (.quiet 10 (.quiet 11 (.eff 13 .fin .fin)))) .fin) .fin) .fin) .fin) .fin) .fin) .fin) .fin))))) (.seq .leaf (.join ⟨[], [], []⟩ (.seq .leaf (.cond (.seq .leaf .leaf) .leaf)) (.seq .leaf (.seq .leaf (.join ⟨[(21, .int .i64)], [(20, 20, 0)], [(20, [(.int .i64), (.int .i64), (.int .i64), (.int .i64), (.int .i64), (.str), (.sl), (.sl), (.sl)])]⟩ (.treeP false [] 10 (.quiet 1 (.eff 0 (.eff 2 (.eff 3 (.eff 4 (.quiet 5 (.quiet 6 (.quiet 7 (.eff 8 (.eff 9 .fin .fin) .fin)))) (.eff 8 (.eff 4 (.quiet 5 (.quiet 6 (.quiet 7 (.eff 9 .fin .fin)))) .fin) .fin)) (.eff 8 (.eff 3 (.eff 4 (.quiet 5 (.quiet 6 (.quiet 7 (.eff 9 .fin .fin)))) .fin) .fin) .fin)) (.eff 8 (.eff 2 (.eff 3 (.eff 4 (.quiet 5 (.quiet 6 (.quiet 7 (.eff 9 .fin .fin)))) .fin) .fin) .fin) .fin)) (.eff 8 (.eff 0 (.eff 2 (.eff 3 (.eff 4 (.quiet 5 (.quiet 6 (.quiet 7 (.eff 9 .fin .fin)))) .fin) .fin) .fin) .fin) .fin)))) (.seq .leaf .leaf))))))))))))))))
def F5 (x0 : Int) (x1 : Int) (x2 : ByteArray) (x3a : Option Addr) (x3l : Nat) (x3c : Nat) (y0 : Int) (y1 : Int) (y2 : ByteArray) (y3a : Option Addr) (y3l : Nat) (y3c : Nat) (z0 : Int) (z1 : Int) (z2 : ByteArray) (z3a : Option Addr) (z3l : Nat) (z3c : Nat) (g : G) (R : Value → G → Prop) : Prop :=
  ∀ g1 : G, Ex g g1 →
  (CallsP Tryd.prog 9 #[] g1 fun v g2 =>
  ∃ x : Bool, v = (.bool x) ∧ ifB (!x)
  (∀ g3 : G, Ex g2 g3 →
  R (.bool false) g3)
  (∀ J : G → Prop,
  (∀ g4 : G, (∀ g5 : G, NewL g4 g5 24 [(.int .i64 x0), (.int .i64 x1), (.string x2), (.slice x3a x3l x3c), (.int .i64 y0), (.int .i64 y1), (.string y2), (.slice y3a y3l y3c)] →
  (CallsP Tryd.prog 18 #[(.int .i64 (11 : Int)), (.int .i64 (0 : Int)), (.slice (some ⟨g4.w.heap.size, 0, none⟩) 2 2)] g5 fun v g6 =>
  ∃ x0_1 : Int, ∃ x1_1 : Int, ∃ x2_1 : ByteArray, ∃ x3a_1 : Option Addr, ∃ x3l_1 : Nat, ∃ x3c_1 : Nat, v = (.agg ⟨[(.int .i64 x0_1), (.int .i64 x1_1), (.string x2_1), (.slice x3a_1 x3l_1 x3c_1)]⟩) ∧ ∀ J_1 : Int → Int → ByteArray → Option Addr → Nat → Nat → G → Prop,
  (∀ app0 : Int, ∀ app1 : Int, ∀ app2 : ByteArray, ∀ app3a : Option Addr, ∀ app3l : Nat, ∀ app3c : Nat, ∀ g7 : G, ((CallsP Tryd.prog 11 #[(.agg ⟨[(.int .i64 x0_1), (.int .i64 x1_1), (.string x2_1), (.slice x3a_1 x3l_1 x3c_1)]⟩), (.int .i64 (6000 : Int))] g7 fun v g8 =>
  ∃ x00 : Int, ∃ x01 : Int, ∃ x02 : Int, ∃ x03 : Int, ∃ x04 : Int, ∃ x05 : ByteArray, ∃ x06a : Option Addr, ∃ x06l : Nat, ∃ x06c : Nat, ∃ x07a : Option Addr, ∃ x07l : Nat, ∃ x07c : Nat, ∃ x08a : Option Addr, ∃ x08l : Nat, ∃ x08c : Nat, ∃ x1_2 : Int, v = (.tuple ⟨[(.agg ⟨[(.int .i64 x00), (.int .i64 x01), (.int .i64 x02), (.int .i64 x03), (.int .i64 x04), (.string x05), (.slice x06a x06l x06c), (.slice x07a x07l x07c), (.slice x08a x08l x08c)]⟩), (.int .i64 x1_2)]⟩) ∧ ∀ g9 : G, Ex g8 g9 →
  (CallsP Tryd.prog 11 #[(.agg ⟨[(.int .i64 app0), (.int .i64 app1), (.string app2), (.slice app3a app3l app3c)]⟩), (.int .i64 (6000 : Int))] g9 fun v g10 =>
  ∃ x00_1 : Int, ∃ x01_1 : Int, ∃ x02_1 : Int, ∃ x03_1 : Int, ∃ x04_1 : Int, ∃ x05_1 : ByteArray, ∃ x06a_1 : Option Addr, ∃ x06l_1 : Nat, ∃ x06c_1 : Nat, ∃ x07a_1 : Option Addr, ∃ x07l_1 : Nat, ∃ x07c_1 : Nat, ∃ x08a_1 : Option Addr, ∃ x08l_1 : Nat, ∃ x08c_1 : Nat, ∃ x1_3 : Int, v = (.tuple ⟨[(.agg ⟨[(.int .i64 x00_1), (.int .i64 x01_1), (.int .i64 x02_1), (.int .i64 x03_1), (.int .i64 x04_1), (.string x05_1), (.slice x06a_1 x06l_1 x06c_1), (.slice x07a_1 x07l_1 x07c_1), (.slice x08a_1 x08l_1 x08c_1)]⟩), (.int .i64 x1_3)]⟩) ∧ ifB (!eqI x1_2 x1_3)
  (∀ g11 : G, Ex g10 g11 →
  R (.bool false) g11)
  (∀ J_2 : G → Prop,
  (∀ g12 : G, (∀ J_3 : Int → Int → Int → Int → Int → Int → ByteArray → Option Addr → Nat → Nat → Option Addr → Nat → Nat → Option Addr → Nat → Nat → G → Prop,
  (∀ g_1 : Int, ∀ c0 : Int, ∀ c1 : Int, ∀ c2 : Int, ∀ c3 : Int, ∀ c4 : Int, ∀ c5 : ByteArray, ∀ c6a : Option Addr, ∀ c6l : Nat, ∀ c6c : Nat, ∀ c7a : Option Addr, ∀ c7l : Nat, ∀ c7c : Nat, ∀ c8a : Option Addr, ∀ c8l : Nat, ∀ c8c : Nat, ∀ g13 : G, ((CallsP Tryd.prog 11 #[(.agg ⟨[(.int .i64 x0), (.int .i64 x1), (.string x2), (.slice x3a x3l x3c)]⟩), (.int .i64 (6000 : Int))] g13 fun v g14 =>
  ∃ x00_2 : Int, ∃ x01_2 : Int, ∃ x02_2 : Int, ∃ x03_2 : Int, ∃ x04_2 : Int, ∃ x05_2 : ByteArray, ∃ x06a_2 : Option Addr, ∃ x06l_2 : Nat, ∃ x06c_2 : Nat, ∃ x07a_2 : Option Addr, ∃ x07l_2 : Nat, ∃ x07c_2 : Nat, ∃ x08a_2 : Option Addr, ∃ x08l_2 : Nat, ∃ x08c_2 : Nat, ∃ x1_4 : Int, v = (.tuple ⟨[(.agg ⟨[(.int .i64 x00_2), (.int .i64 x01_2), (.int .i64 x02_2), (.int .i64 x03_2), (.int .i64 x04_2), (.string x05_2), (.slice x06a_2 x06l_2 x06c_2), (.slice x07a_2 x07l_2 x07c_2), (.slice x08a_2 x08l_2 x08c_2)]⟩), (.int .i64 x1_4)]⟩) ∧ ∀ J_4 : G → Prop,
  (∀ g15 : G, ((CallsP Tryd.prog 18 #[(.int .i64 (6 : Int)), (.int .i64 (0 : Int)), (.slice none 0 0)] g15 fun v g16 =>
  ∃ x0_2 : Int, ∃ x1_5 : Int, ∃ x2_2 : ByteArray, ∃ x3a_2 : Option Addr, ∃ x3l_2 : Nat, ∃ x3c_2 : Nat, v = (.agg ⟨[(.int .i64 x0_2), (.int .i64 x1_5), (.string x2_2), (.slice x3a_2 x3l_2 x3c_2)]⟩) ∧ ∀ g17 : G, NewL g16 g17 24 [(.int .i64 x0_2), (.int .i64 x1_5), (.string x2_2), (.slice x3a_2 x3l_2 x3c_2)] →
  (CallsP Tryd.prog 18 #[(.int .i64 (8 : Int)), (.int .i64 (1 : Int)), (.slice (some ⟨g16.w.heap.size, 0, none⟩) 1 1)] g17 fun v g18 =>
  ∃ x0_3 : Int, ∃ x1_6 : Int, ∃ x2_3 : ByteArray, ∃ x3a_3 : Option Addr, ∃ x3l_3 : Nat, ∃ x3c_3 : Nat, v = (.agg ⟨[(.int .i64 x0_3), (.int .i64 x1_6), (.string x2_3), (.slice x3a_3 x3l_3 x3c_3)]⟩) ∧ ∀ g19 : G, Ex g18 g19 →
  ∀ g20 : G, NewL g19 g20 24 [(.int .i64 x0_3), (.int .i64 x1_6), (.string x2_3), (.slice x3a_3 x3l_3 x3c_3), (.int .i64 z0), (.int .i64 z1), (.string z2), (.slice z3a z3l z3c), (.int .i64 y0), (.int .i64 y1), (.string y2), (.slice y3a y3l y3c)] →
  (CallsP Tryd.prog 18 #[(.int .i64 (9 : Int)), (.int .i64 (0 : Int)), (.slice (some ⟨g19.w.heap.size, 0, none⟩) 3 3)] g20 fun v g21 =>
  ∃ x0_4 : Int, ∃ x1_7 : Int, ∃ x2_4 : ByteArray, ∃ x3a_4 : Option Addr, ∃ x3l_4 : Nat, ∃ x3c_4 : Nat, v = (.agg ⟨[(.int .i64 x0_4), (.int .i64 x1_7), (.string x2_4), (.slice x3a_4 x3l_4 x3c_4)]⟩) ∧ (CallsP Tryd.prog 11 #[(.agg ⟨[(.int .i64 x0_4), (.int .i64 x1_7), (.string x2_4), (.slice x3a_4 x3l_4 x3c_4)]⟩), (.int .i64 (6000 : Int))] g21 fun v g22 =>
  ∃ x00_3 : Int, ∃ x01_3 : Int, ∃ x02_3 : Int, ∃ x03_3 : Int, ∃ x04_3 : Int, ∃ x05_3 : ByteArray, ∃ x06a_3 : Option Addr, ∃ x06l_3 : Nat, ∃ x06c_3 : Nat, ∃ x07a_3 : Option Addr, ∃ x07l_3 : Nat, ∃ x07c_3 : Nat, ∃ x08a_3 : Option Addr, ∃ x08l_3 : Nat, ∃ x08c_3 : Nat, ∃ x1_8 : Int, v = (.tuple ⟨[(.agg ⟨[(.int .i64 x00_3), (.int .i64 x01_3), (.int .i64 x02_3), (.int .i64 x03_3), (.int .i64 x04_3), (.string x05_3), (.slice x06a_3 x06l_3 x06c_3), (.slice x07a_3 x07l_3 x07c_3), (.slice x08a_3 x08l_3 x08c_3)]⟩), (.int .i64 x1_8)]⟩) ∧ ∀ J_5 : Int → Int → Int → Int → Int → Int → ByteArray → Option Addr → Nat → Nat → Option Addr → Nat → Nat → Option Addr → Nat → Nat → G → Prop,
  (∀ j : Int, ∀ q0 : Int, ∀ q1 : Int, ∀ q2 : Int, ∀ q3 : Int, ∀ q4 : Int, ∀ q5 : ByteArray, ∀ q6a : Option Addr, ∀ q6l : Nat, ∀ q6c : Nat, ∀ q7a : Option Addr, ∀ q7l : Nat, ∀ q7c : Nat, ∀ q8a : Option Addr, ∀ q8l : Nat, ∀ q8c : Nat, ∀ g23 : G, (ifB (!eqI x1_8 (0 : Int))
  (∀ g24 : G, Ex g23 g24 →
  R (.bool true) g24)
  (ifB (!eqI j (0 : Int))
  (∀ g25 : G, Ex g23 g25 →
  R (.bool true) g25)
  (ifB (eqI x00_3 (3 : Int))
  (∀ g26 : G, Ex g23 g26 →
  R (.bool true) g26)
  (ifB (eqI q0 (3 : Int))
  (∀ g27 : G, Ex g23 g27 →
  R (.bool true) g27)
  ((CallsP Tryd.prog 19 #[(.agg ⟨[(.int .i64 x00_3), (.int .i64 x01_3), (.int .i64 x02_3), (.int .i64 x03_3), (.int .i64 x04_3), (.string x05_3), (.slice x06a_3 x06l_3 x06c_3), (.slice x07a_3 x07l_3 x07c_3), (.slice x08a_3 x08l_3 x08c_3)]⟩), (.agg ⟨[(.int .i64 q0), (.int .i64 q1), (.int .i64 q2), (.int .i64 q3), (.int .i64 q4), (.string q5), (.slice q6a q6l q6c), (.slice q7a q7l q7c), (.slice q8a q8l q8c)]⟩)] g23 fun v g28 =>
  ∃ x_1 : Bool, v = (.bool x_1) ∧ ∀ g29 : G, Ex g28 g29 →
  R (.bool x_1) g29)))))) → J_5 j q0 q1 q2 q3 q4 q5 q6a q6l q6c q7a q7l q7c q8a q8l q8c g23) →
  ∀ g30 : G, Ex g22 g30 →
  (∀ g31 : G, Ex g30 g31 →
  (CallsP Tryd.prog 18 #[(.int .i64 (6 : Int)), (.int .i64 (0 : Int)), (.slice none 0 0)] g31 fun v g32 =>
  ∃ x0_5 : Int, ∃ x1_9 : Int, ∃ x2_5 : ByteArray, ∃ x3a_5 : Option Addr, ∃ x3l_5 : Nat, ∃ x3c_5 : Nat, v = (.agg ⟨[(.int .i64 x0_5), (.int .i64 x1_9), (.string x2_5), (.slice x3a_5 x3l_5 x3c_5)]⟩) ∧ (∀ g33 : G, Ex g32 g33 →
  ∀ g34 : G, NewL g33 g34 24 [(.int .i64 x0_5), (.int .i64 x1_9), (.string x2_5), (.slice x3a_5 x3l_5 x3c_5), (.int .i64 y0), (.int .i64 y1), (.string y2), (.slice y3a y3l y3c)] →
  (∀ g35 : G, Ex g34 g35 →
  (CallsP Tryd.prog 18 #[(.int .i64 (11 : Int)), (.int .i64 (0 : Int)), (.slice (some ⟨g33.w.heap.size, 0, none⟩) 2 2)] g35 fun v g36 =>
  ∃ x0_6 : Int, ∃ x1_10 : Int, ∃ x2_6 : ByteArray, ∃ x3a_6 : Option Addr, ∃ x3l_6 : Nat, ∃ x3c_6 : Nat, v = (.agg ⟨[(.int .i64 x0_6), (.int .i64 x1_10), (.string x2_6), (.slice x3a_6 x3l_6 x3c_6)]⟩) ∧ Rep 1 (∀ g37 : G, Ex g36 g37 →
  (CallsP Tryd.prog 11 #[(.agg ⟨[(.int .i64 x0_6), (.int .i64 x1_10), (.string x2_6), (.slice x3a_6 x3l_6 x3c_6)]⟩), (.int .i64 (6000 : Int))] g37 fun v g38 =>
  ∃ x00_4 : Int, ∃ x01_4 : Int, ∃ x02_4 : Int, ∃ x03_4 : Int, ∃ x04_4 : Int, ∃ x05_4 : ByteArray, ∃ x06a_4 : Option Addr, ∃ x06l_4 : Nat, ∃ x06c_4 : Nat, ∃ x07a_4 : Option Addr, ∃ x07l_4 : Nat, ∃ x07c_4 : Nat, ∃ x08a_4 : Option Addr, ∃ x08l_4 : Nat, ∃ x08c_4 : Nat, ∃ x1_11 : Int, v = (.tuple ⟨[(.agg ⟨[(.int .i64 x00_4), (.int .i64 x01_4), (.int .i64 x02_4), (.int .i64 x03_4), (.int .i64 x04_4), (.string x05_4), (.slice x06a_4 x06l_4 x06c_4), (.slice x07a_4 x07l_4 x07c_4), (.slice x08a_4 x08l_4 x08c_4)]⟩), (.int .i64 x1_11)]⟩) ∧ ∀ g39 : G, Ex g38 g39 →
  J_5 x1_11 x00_4 x01_4 x02_4 x03_4 x04_4 x05_4 x06a_4 x06l_4 x06c_4 x07a_4 x07l_4 x07c_4 x08a_4 x08l_4 x08c_4 g39)))) ∧ (∀ g43 : G, Ex g34 g43 →
  (CallsP Tryd.prog 18 #[(.int .i64 (11 : Int)), (.int .i64 (0 : Int)), (.slice (some ⟨g33.w.heap.size, 0, none⟩) 2 2)] g43 fun v g44 =>
  ∃ x0_7 : Int, ∃ x1_13 : Int, ∃ x2_7 : ByteArray, ∃ x3a_7 : Option Addr, ∃ x3l_7 : Nat, ∃ x3c_7 : Nat, v = (.agg ⟨[(.int .i64 x0_7), (.int .i64 x1_13), (.string x2_7), (.slice x3a_7 x3l_7 x3c_7)]⟩) ∧ ∀ g45 : G, Ex g44 g45 →
  (CallsP Tryd.prog 11 #[(.agg ⟨[(.int .i64 x0_7), (.int .i64 x1_13), (.string x2_7), (.slice x3a_7 x3l_7 x3c_7)]⟩), (.int .i64 (6000 : Int))] g45 fun v g46 =>
  ∃ x00_6 : Int, ∃ x01_6 : Int, ∃ x02_6 : Int, ∃ x03_6 : Int, ∃ x04_6 : Int, ∃ x05_6 : ByteArray, ∃ x06a_6 : Option Addr, ∃ x06l_6 : Nat, ∃ x06c_6 : Nat, ∃ x07a_6 : Option Addr, ∃ x07l_6 : Nat, ∃ x07c_6 : Nat, ∃ x08a_6 : Option Addr, ∃ x08l_6 : Nat, ∃ x08c_6 : Nat, ∃ x1_14 : Int, v = (.tuple ⟨[(.agg ⟨[(.int .i64 x00_6), (.int .i64 x01_6), (.int .i64 x02_6), (.int .i64 x03_6), (.int .i64 x04_6), (.string x05_6), (.slice x06a_6 x06l_6 x06c_6), (.slice x07a_6 x07l_6 x07c_6), (.slice x08a_6 x08l_6 x08c_6)]⟩), (.int .i64 x1_14)]⟩) ∧ ∀ g47 : G, Ex g46 g47 →
  J_5 x1_14 x00_6 x01_6 x02_6 x03_6 x04_6 x05_6 x06a_6 x06l_6 x06c_6 x07a_6 x07l_6 x07c_6 x08a_6 x08l_6 x08c_6 g47)))) ∧ (∀ g48 : G, Ex g32 g48 →
  ∀ g49 : G, NewL g48 g49 24 [(.int .i64 x0_5), (.int .i64 x1_9), (.string x2_5), (.slice x3a_5 x3l_5 x3c_5), (.int .i64 y0), (.int .i64 y1), (.string y2), (.slice y3a y3l y3c)] →
  ∀ g50 : G, Ex g49 g50 →
  (CallsP Tryd.prog 18 #[(.int .i64 (11 : Int)), (.int .i64 (0 : Int)), (.slice (some ⟨g48.w.heap.size, 0, none⟩) 2 2)] g50 fun v g51 =>
  ∃ x0_8 : Int, ∃ x1_15 : Int, ∃ x2_8 : ByteArray, ∃ x3a_8 : Option Addr, ∃ x3l_8 : Nat, ∃ x3c_8 : Nat, v = (.agg ⟨[(.int .i64 x0_8), (.int .i64 x1_15), (.string x2_8), (.slice x3a_8 x3l_8 x3c_8)]⟩) ∧ ∀ g52 : G, Ex g51 g52 →
  (CallsP Tryd.prog 11 #[(.agg ⟨[(.int .i64 x0_8), (.int .i64 x1_15), (.string x2_8), (.slice x3a_8 x3l_8 x3c_8)]⟩), (.int .i64 (6000 : Int))] g52 fun v g53 =>
  ∃ x00_7 : Int, ∃ x01_7 : Int, ∃ x02_7 : Int, ∃ x03_7 : Int, ∃ x04_7 : Int, ∃ x05_7 : ByteArray, ∃ x06a_7 : Option Addr, ∃ x06l_7 : Nat, ∃ x06c_7 : Nat, ∃ x07a_7 : Option Addr, ∃ x07l_7 : Nat, ∃ x07c_7 : Nat, ∃ x08a_7 : Option Addr, ∃ x08l_7 : Nat, ∃ x08c_7 : Nat, ∃ x1_16 : Int, v = (.tuple ⟨[(.agg ⟨[(.int .i64 x00_7), (.int .i64 x01_7), (.int .i64 x02_7), (.int .i64 x03_7), (.int .i64 x04_7), (.string x05_7), (.slice x06a_7 x06l_7 x06c_7), (.slice x07a_7 x07l_7 x07c_7), (.slice x08a_7 x08l_7 x08c_7)]⟩), (.int .i64 x1_16)]⟩) ∧ ∀ g54 : G, Ex g53 g54 →
  J_5 x1_16 x00_7 x01_7 x02_7 x03_7 x04_7 x05_7 x06a_7 x06l_7 x06c_7 x07a_7 x07l_7 x07c_7 x08a_7 x08l_7 x08c_7 g54))))) ∧ (∀ g55 : G, Ex g30 g55 →
  (CallsP Tryd.prog 18 #[(.int .i64 (6 : Int)), (.int .i64 (0 : Int)), (.slice none 0 0)] g55 fun v g56 =>
  ∃ x0_9 : Int, ∃ x1_17 : Int, ∃ x2_9 : ByteArray, ∃ x3a_9 : Option Addr, ∃ x3l_9 : Nat, ∃ x3c_9 : Nat, v = (.agg ⟨[(.int .i64 x0_9), (.int .i64 x1_17), (.string x2_9), (.slice x3a_9 x3l_9 x3c_9)]⟩) ∧ ∀ g57 : G, Ex g56 g57 →
  ∀ g58 : G, NewL g57 g58 24 [(.int .i64 x0_9), (.int .i64 x1_17), (.string x2_9), (.slice x3a_9 x3l_9 x3c_9), (.int .i64 y0), (.int .i64 y1), (.string y2), (.slice y3a y3l y3c)] →
  ∀ g59 : G, Ex g58 g59 →
  (CallsP Tryd.prog 18 #[(.int .i64 (11 : Int)), (.int .i64 (0 : Int)), (.slice (some ⟨g57.w.heap.size, 0, none⟩) 2 2)] g59 fun v g60 =>
  ∃ x0_10 : Int, ∃ x1_18 : Int, ∃ x2_10 : ByteArray, ∃ x3a_10 : Option Addr, ∃ x3l_10 : Nat, ∃ x3c_10 : Nat, v = (.agg ⟨[(.int .i64 x0_10), (.int .i64 x1_18), (.string x2_10), (.slice x3a_10 x3l_10 x3c_10)]⟩) ∧ ∀ g61 : G, Ex g60 g61 →
  (CallsP Tryd.prog 11 #[(.agg ⟨[(.int .i64 x0_10), (.int .i64 x1_18), (.string x2_10), (.slice x3a_10 x3l_10 x3c_10)]⟩), (.int .i64 (6000 : Int))] g61 fun v g62 =>
  ∃ x00_8 : Int, ∃ x01_8 : Int, ∃ x02_8 : Int, ∃ x03_8 : Int, ∃ x04_8 : Int, ∃ x05_8 : ByteArray, ∃ x06a_8 : Option Addr, ∃ x06l_8 : Nat, ∃ x06c_8 : Nat, ∃ x07a_8 : Option Addr, ∃ x07l_8 : Nat, ∃ x07c_8 : Nat, ∃ x08a_8 : Option Addr, ∃ x08l_8 : Nat, ∃ x08c_8 : Nat, ∃ x1_19 : Int, v = (.tuple ⟨[(.agg ⟨[(.int .i64 x00_8), (.int .i64 x01_8), (.int .i64 x02_8), (.int .i64 x03_8), (.int .i64 x04_8), (.string x05_8), (.slice x06a_8 x06l_8 x06c_8), (.slice x07a_8 x07l_8 x07c_8), (.slice x08a_8 x08l_8 x08c_8)]⟩), (.int .i64 x1_19)]⟩) ∧ ∀ g63 : G, Ex g62 g63 →
  J_5 x1_19 x00_8 x01_8 x02_8 x03_8 x04_8 x05_8 x06a_8 x06l_8 x06c_8 x07a_8 x07l_8 x07c_8 x08a_8 x08l_8 x08c_8 g63))))))))) → J_4 g15) →
  ifB (eqI g_1 (0 : Int))
  (ifB (eqI x1_4 (0 : Int))
  (ifB (!eqI c0 (3 : Int))
  (ifB (!eqI x00_2 (3 : Int))
  (∀ g64 : G, Ex g14 g64 →
  (CallsP Tryd.prog 19 #[(.agg ⟨[(.int .i64 c0), (.int .i64 c1), (.int .i64 c2), (.int .i64 c3), (.int .i64 c4), (.string c5), (.slice c6a c6l c6c), (.slice c7a c7l c7c), (.slice c8a c8l c8c)]⟩), (.agg ⟨[(.int .i64 x00_2), (.int .i64 x01_2), (.int .i64 x02_2), (.int .i64 x03_2), (.int .i64 x04_2), (.string x05_2), (.slice x06a_2 x06l_2 x06c_2), (.slice x07a_2 x07l_2 x07c_2), (.slice x08a_2 x08l_2 x08c_2)]⟩)] g64 fun v g65 =>
  ∃ x_2 : Bool, v = (.bool x_2) ∧ ifB (!x_2)
  (∀ g66 : G, Ex g65 g66 →
  R (.bool false) g66)
  (J_4 g65)))
  (∀ g67 : G, Ex g14 g67 →
  J_4 g67))
  (∀ g68 : G, Ex g14 g68 →
  J_4 g68))
  (∀ g69 : G, Ex g14 g69 →
  J_4 g69))
  (∀ g70 : G, Ex g14 g70 →
  J_4 g70))) → J_3 g_1 c0 c1 c2 c3 c4 c5 c6a c6l c6c c7a c7l c7c c8a c8l c8c g13) →
  ∀ g71 : G, Ex g12 g71 →
  (∀ g72 : G, Ex g71 g72 →
  ∀ g73 : G, NewL g72 g73 24 [(.int .i64 z0), (.int .i64 z1), (.string z2), (.slice z3a z3l z3c)] →
  (∀ g74 : G, Ex g73 g74 →
  (CallsP Tryd.prog 18 #[(.int .i64 (4 : Int)), (.int .i64 (0 : Int)), (.slice (some ⟨g72.w.heap.size, 0, none⟩) 1 1)] g74 fun v g75 =>
  ∃ x0_11 : Int, ∃ x1_20 : Int, ∃ x2_11 : ByteArray, ∃ x3a_11 : Option Addr, ∃ x3l_11 : Nat, ∃ x3c_11 : Nat, v = (.agg ⟨[(.int .i64 x0_11), (.int .i64 x1_20), (.string x2_11), (.slice x3a_11 x3l_11 x3c_11)]⟩) ∧ (∀ g76 : G, Ex g75 g76 →
  ∀ g77 : G, NewL g76 g77 24 [(.int .i64 x0), (.int .i64 x1), (.string x2), (.slice x3a x3l x3c), (.int .i64 x0_11), (.int .i64 x1_20), (.string x2_11), (.slice x3a_11 x3l_11 x3c_11)] →
  (∀ g78 : G, Ex g77 g78 →
  (CallsP Tryd.prog 18 #[(.int .i64 (6 : Int)), (.int .i64 (0 : Int)), (.slice (some ⟨g76.w.heap.size, 0, none⟩) 2 2)] g78 fun v g79 =>
  ∃ x0_12 : Int, ∃ x1_21 : Int, ∃ x2_12 : ByteArray, ∃ x3a_12 : Option Addr, ∃ x3l_12 : Nat, ∃ x3c_12 : Nat, v = (.agg ⟨[(.int .i64 x0_12), (.int .i64 x1_21), (.string x2_12), (.slice x3a_12 x3l_12 x3c_12)]⟩) ∧ (∀ g80 : G, Ex g79 g80 →
  ∀ g81 : G, NewL g80 g81 24 [(.int .i64 x0_12), (.int .i64 x1_21), (.string x2_12), (.slice x3a_12 x3l_12 x3c_12)] →
  (∀ g82 : G, Ex g81 g82 →
  (CallsP Tryd.prog 18 #[(.int .i64 (7 : Int)), (.int .i64 (0 : Int)), (.slice (some ⟨g80.w.heap.size, 0, none⟩) 1 1)] g82 fun v g83 =>
  ∃ x0_13 : Int, ∃ x1_22 : Int, ∃ x2_13 : ByteArray, ∃ x3a_13 : Option Addr, ∃ x3l_13 : Nat, ∃ x3c_13 : Nat, v = (.agg ⟨[(.int .i64 x0_13), (.int .i64 x1_22), (.string x2_13), (.slice x3a_13 x3l_13 x3c_13)]⟩) ∧ Rep 1 (∀ g84 : G, Ex g83 g84 →
  (CallsP Tryd.prog 11 #[(.agg ⟨[(.int .i64 x0_13), (.int .i64 x1_22), (.string x2_13), (.slice x3a_13 x3l_13 x3c_13)]⟩), (.int .i64 (6000 : Int))] g84 fun v g85 =>
  ∃ x00_9 : Int, ∃ x01_9 : Int, ∃ x02_9 : Int, ∃ x03_9 : Int, ∃ x04_9 : Int, ∃ x05_9 : ByteArray, ∃ x06a_9 : Option Addr, ∃ x06l_9 : Nat, ∃ x06c_9 : Nat, ∃ x07a_9 : Option Addr, ∃ x07l_9 : Nat, ∃ x07c_9 : Nat, ∃ x08a_9 : Option Addr, ∃ x08l_9 : Nat, ∃ x08c_9 : Nat, ∃ x1_23 : Int, v = (.tuple ⟨[(.agg ⟨[(.int .i64 x00_9), (.int .i64 x01_9), (.int .i64 x02_9), (.int .i64 x03_9), (.int .i64 x04_9), (.string x05_9), (.slice x06a_9 x06l_9 x06c_9), (.slice x07a_9 x07l_9 x07c_9), (.slice x08a_9 x08l_9 x08c_9)]⟩), (.int .i64 x1_23)]⟩) ∧ ∀ g86 : G, Ex g85 g86 →
  J_3 x1_23 x00_9 x01_9 x02_9 x03_9 x04_9 x05_9 x06a_9 x06l_9 x06c_9 x07a_9 x07l_9 x07c_9 x08a_9 x08l_9 x08c_9 g86)))) ∧ (∀ g90 : G, Ex g81 g90 →
  (CallsP Tryd.prog 18 #[(.int .i64 (7 : Int)), (.int .i64 (0 : Int)), (.slice (some ⟨g80.w.heap.size, 0, none⟩) 1 1)] g90 fun v g91 =>
  ∃ x0_14 : Int, ∃ x1_25 : Int, ∃ x2_14 : ByteArray, ∃ x3a_14 : Option Addr, ∃ x3l_14 : Nat, ∃ x3c_14 : Nat, v = (.agg ⟨[(.int .i64 x0_14), (.int .i64 x1_25), (.string x2_14), (.slice x3a_14 x3l_14 x3c_14)]⟩) ∧ ∀ g92 : G, Ex g91 g92 →
  (CallsP Tryd.prog 11 #[(.agg ⟨[(.int .i64 x0_14), (.int .i64 x1_25), (.string x2_14), (.slice x3a_14 x3l_14 x3c_14)]⟩), (.int .i64 (6000 : Int))] g92 fun v g93 =>
  ∃ x00_11 : Int, ∃ x01_11 : Int, ∃ x02_11 : Int, ∃ x03_11 : Int, ∃ x04_11 : Int, ∃ x05_11 : ByteArray, ∃ x06a_11 : Option Addr, ∃ x06l_11 : Nat, ∃ x06c_11 : Nat, ∃ x07a_11 : Option Addr, ∃ x07l_11 : Nat, ∃ x07c_11 : Nat, ∃ x08a_11 : Option Addr, ∃ x08l_11 : Nat, ∃ x08c_11 : Nat, ∃ x1_26 : Int, v = (.tuple ⟨[(.agg ⟨[(.int .i64 x00_11), (.int .i64 x01_11), (.int .i64 x02_11), (.int .i64 x03_11), (.int .i64 x04_11), (.string x05_11), (.slice x06a_11 x06l_11 x06c_11), (.slice x07a_11 x07l_11 x07c_11), (.slice x08a_11 x08l_11 x08c_11)]⟩), (.int .i64 x1_26)]⟩) ∧ ∀ g94 : G, Ex g93 g94 →
  J_3 x1_26 x00_11 x01_11 x02_11 x03_11 x04_11 x05_11 x06a_11 x06l_11 x06c_11 x07a_11 x07l_11 x07c_11 x08a_11 x08l_11 x08c_11 g94)))) ∧ (∀ g95 : G, Ex g79 g95 →
  ∀ g96 : G, NewL g95 g96 24 [(.int .i64 x0_12), (.int .i64 x1_21), (.string x2_12), (.slice x3a_12 x3l_12 x3c_12)] →
  ∀ g97 : G, Ex g96 g97 →
  (CallsP Tryd.prog 18 #[(.int .i64 (7 : Int)), (.int .i64 (0 : Int)), (.slice (some ⟨g95.w.heap.size, 0, none⟩) 1 1)] g97 fun v g98 =>
  ∃ x0_15 : Int, ∃ x1_27 : Int, ∃ x2_15 : ByteArray, ∃ x3a_15 : Option Addr, ∃ x3l_15 : Nat, ∃ x3c_15 : Nat, v = (.agg ⟨[(.int .i64 x0_15), (.int .i64 x1_27), (.string x2_15), (.slice x3a_15 x3l_15 x3c_15)]⟩) ∧ ∀ g99 : G, Ex g98 g99 →
  (CallsP Tryd.prog 11 #[(.agg ⟨[(.int .i64 x0_15), (.int .i64 x1_27), (.string x2_15), (.slice x3a_15 x3l_15 x3c_15)]⟩), (.int .i64 (6000 : Int))] g99 fun v g100 =>
  ∃ x00_12 : Int, ∃ x01_12 : Int, ∃ x02_12 : Int, ∃ x03_12 : Int, ∃ x04_12 : Int, ∃ x05_12 : ByteArray, ∃ x06a_12 : Option Addr, ∃ x06l_12 : Nat, ∃ x06c_12 : Nat, ∃ x07a_12 : Option Addr, ∃ x07l_12 : Nat, ∃ x07c_12 : Nat, ∃ x08a_12 : Option Addr, ∃ x08l_12 : Nat, ∃ x08c_12 : Nat, ∃ x1_28 : Int, v = (.tuple ⟨[(.agg ⟨[(.int .i64 x00_12), (.int .i64 x01_12), (.int .i64 x02_12), (.int .i64 x03_12), (.int .i64 x04_12), (.string x05_12), (.slice x06a_12 x06l_12 x06c_12), (.slice x07a_12 x07l_12 x07c_12), (.slice x08a_12 x08l_12 x08c_12)]⟩), (.int .i64 x1_28)]⟩) ∧ ∀ g101 : G, Ex g100 g101 →
  J_3 x1_28 x00_12 x01_12 x02_12 x03_12 x04_12 x05_12 x06a_12 x06l_12 x06c_12 x07a_12 x07l_12 x07c_12 x08a_12 x08l_12 x08c_12 g101))))) ∧ (∀ g102 : G, Ex g77 g102 →
  (CallsP Tryd.prog 18 #[(.int .i64 (6 : Int)), (.int .i64 (0 : Int)), (.slice (some ⟨g76.w.heap.size, 0, none⟩) 2 2)] g102 fun v g103 =>
  ∃ x0_16 : Int, ∃ x1_29 : Int, ∃ x2_16 : ByteArray, ∃ x3a_16 : Option Addr, ∃ x3l_16 : Nat, ∃ x3c_16 : Nat, v = (.agg ⟨[(.int .i64 x0_16), (.int .i64 x1_29), (.string x2_16), (.slice x3a_16 x3l_16 x3c_16)]⟩) ∧ ∀ g104 : G, Ex g103 g104 →
  ∀ g105 : G, NewL g104 g105 24 [(.int .i64 x0_16), (.int .i64 x1_29), (.string x2_16), (.slice x3a_16 x3l_16 x3c_16)] →
  ∀ g106 : G, Ex g105 g106 →
  (CallsP Tryd.prog 18 #[(.int .i64 (7 : Int)), (.int .i64 (0 : Int)), (.slice (some ⟨g104.w.heap.size, 0, none⟩) 1 1)] g106 fun v g107 =>
  ∃ x0_17 : Int, ∃ x1_30 : Int, ∃ x2_17 : ByteArray, ∃ x3a_17 : Option Addr, ∃ x3l_17 : Nat, ∃ x3c_17 : Nat, v = (.agg ⟨[(.int .i64 x0_17), (.int .i64 x1_30), (.string x2_17), (.slice x3a_17 x3l_17 x3c_17)]⟩) ∧ ∀ g108 : G, Ex g107 g108 →
  (CallsP Tryd.prog 11 #[(.agg ⟨[(.int .i64 x0_17), (.int .i64 x1_30), (.string x2_17), (.slice x3a_17 x3l_17 x3c_17)]⟩), (.int .i64 (6000 : Int))] g108 fun v g109 =>
  ∃ x00_13 : Int, ∃ x01_13 : Int, ∃ x02_13 : Int, ∃ x03_13 : Int, ∃ x04_13 : Int, ∃ x05_13 : ByteArray, ∃ x06a_13 : Option Addr, ∃ x06l_13 : Nat, ∃ x06c_13 : Nat, ∃ x07a_13 : Option Addr, ∃ x07l_13 : Nat, ∃ x07c_13 : Nat, ∃ x08a_13 : Option Addr, ∃ x08l_13 : Nat, ∃ x08c_13 : Nat, ∃ x1_31 : Int, v = (.tuple ⟨[(.agg ⟨[(.int .i64 x00_13), (.int .i64 x01_13), (.int .i64 x02_13), (.int .i64 x03_13), (.int .i64 x04_13), (.string x05_13), (.slice x06a_13 x06l_13 x06c_13), (.slice x07a_13 x07l_13 x07c_13), (.slice x08a_13 x08l_13 x08c_13)]⟩), (.int .i64 x1_31)]⟩) ∧ ∀ g110 : G, Ex g109 g110 →
  J_3 x1_31 x00_13 x01_13 x02_13 x03_13 x04_13 x05_13 x06a_13 x06l_13 x06c_13 x07a_13 x07l_13 x07c_13 x08a_13 x08l_13 x08c_13 g110))))) ∧ (∀ g111 : G, Ex g75 g111 →
  ∀ g112 : G, NewL g111 g112 24 [(.int .i64 x0), (.int .i64 x1), (.string x2), (.slice x3a x3l x3c), (.int .i64 x0_11), (.int .i64 x1_20), (.string x2_11), (.slice x3a_11 x3l_11 x3c_11)] →
  ∀ g113 : G, Ex g112 g113 →
  (CallsP Tryd.prog 18 #[(.int .i64 (6 : Int)), (.int .i64 (0 : Int)), (.slice (some ⟨g111.w.heap.size, 0, none⟩) 2 2)] g113 fun v g114 =>
  ∃ x0_18 : Int, ∃ x1_32 : Int, ∃ x2_18 : ByteArray, ∃ x3a_18 : Option Addr, ∃ x3l_18 : Nat, ∃ x3c_18 : Nat, v = (.agg ⟨[(.int .i64 x0_18), (.int .i64 x1_32), (.string x2_18), (.slice x3a_18 x3l_18 x3c_18)]⟩) ∧ ∀ g115 : G, Ex g114 g115 →
  ∀ g116 : G, NewL g115 g116 24 [(.int .i64 x0_18), (.int .i64 x1_32), (.string x2_18), (.slice x3a_18 x3l_18 x3c_18)] →
  ∀ g117 : G, Ex g116 g117 →
  (CallsP Tryd.prog 18 #[(.int .i64 (7 : Int)), (.int .i64 (0 : Int)), (.slice (some ⟨g115.w.heap.size, 0, none⟩) 1 1)] g117 fun v g118 =>
  ∃ x0_19 : Int, ∃ x1_33 : Int, ∃ x2_19 : ByteArray, ∃ x3a_19 : Option Addr, ∃ x3l_19 : Nat, ∃ x3c_19 : Nat, v = (.agg ⟨[(.int .i64 x0_19), (.int .i64 x1_33), (.string x2_19), (.slice x3a_19 x3l_19 x3c_19)]⟩) ∧ ∀ g119 : G, Ex g118 g119 →
  (CallsP Tryd.prog 11 #[(.agg ⟨[(.int .i64 x0_19), (.int .i64 x1_33), (.string x2_19), (.slice x3a_19 x3l_19 x3c_19)]⟩), (.int .i64 (6000 : Int))] g119 fun v g120 =>
  ∃ x00_14 : Int, ∃ x01_14 : Int, ∃ x02_14 : Int, ∃ x03_14 : Int, ∃ x04_14 : Int, ∃ x05_14 : ByteArray, ∃ x06a_14 : Option Addr, ∃ x06l_14 : Nat, ∃ x06c_14 : Nat, ∃ x07a_14 : Option Addr, ∃ x07l_14 : Nat, ∃ x07c_14 : Nat, ∃ x08a_14 : Option Addr, ∃ x08l_14 : Nat, ∃ x08c_14 : Nat, ∃ x1_34 : Int, v = (.tuple ⟨[(.agg ⟨[(.int .i64 x00_14), (.int .i64 x01_14), (.int .i64 x02_14), (.int .i64 x03_14), (.int .i64 x04_14), (.string x05_14), (.slice x06a_14 x06l_14 x06c_14), (.slice x07a_14 x07l_14 x07c_14), (.slice x08a_14 x08l_14 x08c_14)]⟩), (.int .i64 x1_34)]⟩) ∧ ∀ g121 : G, Ex g120 g121 →
  J_3 x1_34 x00_14 x01_14 x02_14 x03_14 x04_14 x05_14 x06a_14 x06l_14 x06c_14 x07a_14 x07l_14 x07c_14 x08a_14 x08l_14 x08c_14 g121)))))) ∧ (∀ g122 : G, Ex g73 g122 →
  (CallsP Tryd.prog 18 #[(.int .i64 (4 : Int)), (.int .i64 (0 : Int)), (.slice (some ⟨g72.w.heap.size, 0, none⟩) 1 1)] g122 fun v g123 =>
  ∃ x0_20 : Int, ∃ x1_35 : Int, ∃ x2_20 : ByteArray, ∃ x3a_20 : Option Addr, ∃ x3l_20 : Nat, ∃ x3c_20 : Nat, v = (.agg ⟨[(.int .i64 x0_20), (.int .i64 x1_35), (.string x2_20), (.slice x3a_20 x3l_20 x3c_20)]⟩) ∧ ∀ g124 : G, Ex g123 g124 →
  ∀ g125 : G, NewL g124 g125 24 [(.int .i64 x0), (.int .i64 x1), (.string x2), (.slice x3a x3l x3c), (.int .i64 x0_20), (.int .i64 x1_35), (.string x2_20), (.slice x3a_20 x3l_20 x3c_20)] →
  ∀ g126 : G, Ex g125 g126 →
  (CallsP Tryd.prog 18 #[(.int .i64 (6 : Int)), (.int .i64 (0 : Int)), (.slice (some ⟨g124.w.heap.size, 0, none⟩) 2 2)] g126 fun v g127 =>
  ∃ x0_21 : Int, ∃ x1_36 : Int, ∃ x2_21 : ByteArray, ∃ x3a_21 : Option Addr, ∃ x3l_21 : Nat, ∃ x3c_21 : Nat, v = (.agg ⟨[(.int .i64 x0_21), (.int .i64 x1_36), (.string x2_21), (.slice x3a_21 x3l_21 x3c_21)]⟩) ∧ ∀ g128 : G, Ex g127 g128 →
  ∀ g129 : G, NewL g128 g129 24 [(.int .i64 x0_21), (.int .i64 x1_36), (.string x2_21), (.slice x3a_21 x3l_21 x3c_21)] →
  ∀ g130 : G, Ex g129 g130 →
  (CallsP Tryd.prog 18 #[(.int .i64 (7 : Int)), (.int .i64 (0 : Int)), (.slice (some ⟨g128.w.heap.size, 0, none⟩) 1 1)] g130 fun v g131 =>
  ∃ x0_22 : Int, ∃ x1_37 : Int, ∃ x2_22 : ByteArray, ∃ x3a_22 : Option Addr, ∃ x3l_22 : Nat, ∃ x3c_22 : Nat, v = (.agg ⟨[(.int .i64 x0_22), (.int .i64 x1_37), (.string x2_22), (.slice x3a_22 x3l_22 x3c_22)]⟩) ∧ ∀ g132 : G, Ex g131 g132 →
  (CallsP Tryd.prog 11 #[(.agg ⟨[(.int .i64 x0_22), (.int .i64 x1_37), (.string x2_22), (.slice x3a_22 x3l_22 x3c_22)]⟩), (.int .i64 (6000 : Int))] g132 fun v g133 =>
  ∃ x00_15 : Int, ∃ x01_15 : Int, ∃ x02_15 : Int, ∃ x03_15 : Int, ∃ x04_15 : Int, ∃ x05_15 : ByteArray, ∃ x06a_15 : Option Addr, ∃ x06l_15 : Nat, ∃ x06c_15 : Nat, ∃ x07a_15 : Option Addr, ∃ x07l_15 : Nat, ∃ x07c_15 : Nat, ∃ x08a_15 : Option Addr, ∃ x08l_15 : Nat, ∃ x08c_15 : Nat, ∃ x1_38 : Int, v = (.tuple ⟨[(.agg ⟨[(.int .i64 x00_15), (.int .i64 x01_15), (.int .i64 x02_15), (.int .i64 x03_15), (.int .i64 x04_15), (.string x05_15), (.slice x06a_15 x06l_15 x06c_15), (.slice x07a_15 x07l_15 x07c_15), (.slice x08a_15 x08l_15 x08c_15)]⟩), (.int .i64 x1_38)]⟩) ∧ ∀ g134 : G, Ex g133 g134 →
  J_3 x1_38 x00_15 x01_15 x02_15 x03_15 x04_15 x05_15 x06a_15 x06l_15 x06c_15 x07a_15 x07l_15 x07c_15 x08a_15 x08l_15 x08c_15 g134)))))) ∧ (∀ g135 : G, Ex g71 g135 →
  ∀ g136 : G, NewL g135 g136 24 [(.int .i64 z0), (.int .i64 z1), (.string z2), (.slice z3a z3l z3c)] →
  ∀ g137 : G, Ex g136 g137 →
  (CallsP Tryd.prog 18 #[(.int .i64 (4 : Int)), (.int .i64 (0 : Int)), (.slice (some ⟨g135.w.heap.size, 0, none⟩) 1 1)] g137 fun v g138 =>
  ∃ x0_23 : Int, ∃ x1_39 : Int, ∃ x2_23 : ByteArray, ∃ x3a_23 : Option Addr, ∃ x3l_23 : Nat, ∃ x3c_23 : Nat, v = (.agg ⟨[(.int .i64 x0_23), (.int .i64 x1_39), (.string x2_23), (.slice x3a_23 x3l_23 x3c_23)]⟩) ∧ ∀ g139 : G, Ex g138 g139 →
  ∀ g140 : G, NewL g139 g140 24 [(.int .i64 x0), (.int .i64 x1), (.string x2), (.slice x3a x3l x3c), (.int .i64 x0_23), (.int .i64 x1_39), (.string x2_23), (.slice x3a_23 x3l_23 x3c_23)] →
  ∀ g141 : G, Ex g140 g141 →
  (CallsP Tryd.prog 18 #[(.int .i64 (6 : Int)), (.int .i64 (0 : Int)), (.slice (some ⟨g139.w.heap.size, 0, none⟩) 2 2)] g141 fun v g142 =>
  ∃ x0_24 : Int, ∃ x1_40 : Int, ∃ x2_24 : ByteArray, ∃ x3a_24 : Option Addr, ∃ x3l_24 : Nat, ∃ x3c_24 : Nat, v = (.agg ⟨[(.int .i64 x0_24), (.int .i64 x1_40), (.string x2_24), (.slice x3a_24 x3l_24 x3c_24)]⟩) ∧ ∀ g143 : G, Ex g142 g143 →
  ∀ g144 : G, NewL g143 g144 24 [(.int .i64 x0_24), (.int .i64 x1_40), (.string x2_24), (.slice x3a_24 x3l_24 x3c_24)] →
  ∀ g145 : G, Ex g144 g145 →
  (CallsP Tryd.prog 18 #[(.int .i64 (7 : Int)), (.int .i64 (0 : Int)), (.slice (some ⟨g143.w.heap.size, 0, none⟩) 1 1)] g145 fun v g146 =>
  ∃ x0_25 : Int, ∃ x1_41 : Int, ∃ x2_25 : ByteArray, ∃ x3a_25 : Option Addr, ∃ x3l_25 : Nat, ∃ x3c_25 : Nat, v = (.agg ⟨[(.int .i64 x0_25), (.int .i64 x1_41), (.string x2_25), (.slice x3a_25 x3l_25 x3c_25)]⟩) ∧ ∀ g147 : G, Ex g146 g147 →
  (CallsP Tryd.prog 11 #[(.agg ⟨[(.int .i64 x0_25), (.int .i64 x1_41), (.string x2_25), (.slice x3a_25 x3l_25 x3c_25)]⟩), (.int .i64 (6000 : Int))] g147 fun v g148 =>
  ∃ x00_16 : Int, ∃ x01_16 : Int, ∃ x02_16 : Int, ∃ x03_16 : Int, ∃ x04_16 : Int, ∃ x05_16 : ByteArray, ∃ x06a_16 : Option Addr, ∃ x06l_16 : Nat, ∃ x06c_16 : Nat, ∃ x07a_16 : Option Addr, ∃ x07l_16 : Nat, ∃ x07c_16 : Nat, ∃ x08a_16 : Option Addr, ∃ x08l_16 : Nat, ∃ x08c_16 : Nat, ∃ x1_42 : Int, v = (.tuple ⟨[(.agg ⟨[(.int .i64 x00_16), (.int .i64 x01_16), (.int .i64 x02_16), (.int .i64 x03_16), (.int .i64 x04_16), (.string x05_16), (.slice x06a_16 x06l_16 x06c_16), (.slice x07a_16 x07l_16 x07c_16), (.slice x08a_16 x08l_16 x08c_16)]⟩), (.int .i64 x1_42)]⟩) ∧ ∀ g149 : G, Ex g148 g149 →
  J_3 x1_42 x00_16 x01_16 x02_16 x03_16 x04_16 x05_16 x06a_16 x06l_16 x06c_16 x07a_16 x07l_16 x07c_16 x08a_16 x08l_16 x08c_16 g149)))))) → J_2 g12) →
  ifB (!eqI x00 (3 : Int))
  (ifB (!eqI x00_1 (3 : Int))
  (∀ g150 : G, Ex g10 g150 →
  (CallsP Tryd.prog 19 #[(.agg ⟨[(.int .i64 x00), (.int .i64 x01), (.int .i64 x02), (.int .i64 x03), (.int .i64 x04), (.string x05), (.slice x06a x06l x06c), (.slice x07a x07l x07c), (.slice x08a x08l x08c)]⟩), (.agg ⟨[(.int .i64 x00_1), (.int .i64 x01_1), (.int .i64 x02_1), (.int .i64 x03_1), (.int .i64 x04_1), (.string x05_1), (.slice x06a_1 x06l_1 x06c_1), (.slice x07a_1 x07l_1 x07c_1), (.slice x08a_1 x08l_1 x08c_1)]⟩)] g150 fun v g151 =>
  ∃ x_3 : Bool, v = (.bool x_3) ∧ ifB (!x_3)
  (∀ g152 : G, Ex g151 g152 →
  R (.bool false) g152)
  (J_2 g151)))
  (∀ g153 : G, Ex g10 g153 →
  J_2 g153))
  (∀ g154 : G, Ex g10 g154 →
  J_2 g154))))) → J_1 app0 app1 app2 app3a app3l app3c g7) →
  ∀ g155 : G, Ex g6 g155 →
  (∀ g156 : G, Ex g155 g156 →
  ∀ g157 : G, NewL g156 g157 24 [(.int .i64 y0), (.int .i64 y1), (.string y2), (.slice y3a y3l y3c)] →
  (∀ g158 : G, Ex g157 g158 →
  (CallsP Tryd.prog 18 #[(.int .i64 (4 : Int)), (.int .i64 (0 : Int)), (.slice (some ⟨g156.w.heap.size, 0, none⟩) 1 1)] g158 fun v g159 =>
  ∃ x0_26 : Int, ∃ x1_43 : Int, ∃ x2_26 : ByteArray, ∃ x3a_26 : Option Addr, ∃ x3l_26 : Nat, ∃ x3c_26 : Nat, v = (.agg ⟨[(.int .i64 x0_26), (.int .i64 x1_43), (.string x2_26), (.slice x3a_26 x3l_26 x3c_26)]⟩) ∧ (∀ g160 : G, Ex g159 g160 →
  ∀ g161 : G, NewL g160 g161 24 [(.int .i64 x0_26), (.int .i64 x1_43), (.string x2_26), (.slice x3a_26 x3l_26 x3c_26), (.int .i64 x0), (.int .i64 x1), (.string x2), (.slice x3a x3l x3c)] →
  Rep 1 (∀ g162 : G, Ex g161 g162 →
  (CallsP Tryd.prog 18 #[(.int .i64 (5 : Int)), (.int .i64 (0 : Int)), (.slice (some ⟨g160.w.heap.size, 0, none⟩) 2 2)] g162 fun v g163 =>
  ∃ x0_27 : Int, ∃ x1_44 : Int, ∃ x2_27 : ByteArray, ∃ x3a_27 : Option Addr, ∃ x3l_27 : Nat, ∃ x3c_27 : Nat, v = (.agg ⟨[(.int .i64 x0_27), (.int .i64 x1_44), (.string x2_27), (.slice x3a_27 x3l_27 x3c_27)]⟩) ∧ ∀ g164 : G, Ex g163 g164 →
  J_1 x0_27 x1_44 x2_27 x3a_27 x3l_27 x3c_27 g164))) ∧ (∀ g168 : G, Ex g159 g168 →
  ∀ g169 : G, NewL g168 g169 24 [(.int .i64 x0_26), (.int .i64 x1_43), (.string x2_26), (.slice x3a_26 x3l_26 x3c_26), (.int .i64 x0), (.int .i64 x1), (.string x2), (.slice x3a x3l x3c)] →
  ∀ g170 : G, Ex g169 g170 →
  (CallsP Tryd.prog 18 #[(.int .i64 (5 : Int)), (.int .i64 (0 : Int)), (.slice (some ⟨g168.w.heap.size, 0, none⟩) 2 2)] g170 fun v g171 =>
  ∃ x0_29 : Int, ∃ x1_46 : Int, ∃ x2_29 : ByteArray, ∃ x3a_29 : Option Addr, ∃ x3l_29 : Nat, ∃ x3c_29 : Nat, v = (.agg ⟨[(.int .i64 x0_29), (.int .i64 x1_46), (.string x2_29), (.slice x3a_29 x3l_29 x3c_29)]⟩) ∧ ∀ g172 : G, Ex g171 g172 →
  J_1 x0_29 x1_46 x2_29 x3a_29 x3l_29 x3c_29 g172)))) ∧ (∀ g173 : G, Ex g157 g173 →
  (CallsP Tryd.prog 18 #[(.int .i64 (4 : Int)), (.int .i64 (0 : Int)), (.slice (some ⟨g156.w.heap.size, 0, none⟩) 1 1)] g173 fun v g174 =>
  ∃ x0_30 : Int, ∃ x1_47 : Int, ∃ x2_30 : ByteArray, ∃ x3a_30 : Option Addr, ∃ x3l_30 : Nat, ∃ x3c_30 : Nat, v = (.agg ⟨[(.int .i64 x0_30), (.int .i64 x1_47), (.string x2_30), (.slice x3a_30 x3l_30 x3c_30)]⟩) ∧ ∀ g175 : G, Ex g174 g175 →
  ∀ g176 : G, NewL g175 g176 24 [(.int .i64 x0_30), (.int .i64 x1_47), (.string x2_30), (.slice x3a_30 x3l_30 x3c_30), (.int .i64 x0), (.int .i64 x1), (.string x2), (.slice x3a x3l x3c)] →
  ∀ g177 : G, Ex g176 g177 →
  (CallsP Tryd.prog 18 #[(.int .i64 (5 : Int)), (.int .i64 (0 : Int)), (.slice (some ⟨g175.w.heap.size, 0, none⟩) 2 2)] g177 fun v g178 =>
  ∃ x0_31 : Int, ∃ x1_48 : Int, ∃ x2_31 : ByteArray, ∃ x3a_31 : Option Addr, ∃ x3l_31 : Nat, ∃ x3c_31 : Nat, v = (.agg ⟨[(.int .i64 x0_31), (.int .i64 x1_48), (.string x2_31), (.slice x3a_31 x3l_31 x3c_31)]⟩) ∧ ∀ g179 : G, Ex g178 g179 →
  J_1 x0_31 x1_48 x2_31 x3a_31 x3l_31 x3c_31 g179)))) ∧ (∀ g180 : G, Ex g155 g180 →
  ∀ g181 : G, NewL g180 g181 24 [(.int .i64 y0), (.int .i64 y1), (.string y2), (.slice y3a y3l y3c)] →
  ∀ g182 : G, Ex g181 g182 →
  (CallsP Tryd.prog 18 #[(.int .i64 (4 : Int)), (.int .i64 (0 : Int)), (.slice (some ⟨g180.w.heap.size, 0, none⟩) 1 1)] g182 fun v g183 =>
  ∃ x0_32 : Int, ∃ x1_49 : Int, ∃ x2_32 : ByteArray, ∃ x3a_32 : Option Addr, ∃ x3l_32 : Nat, ∃ x3c_32 : Nat, v = (.agg ⟨[(.int .i64 x0_32), (.int .i64 x1_49), (.string x2_32), (.slice x3a_32 x3l_32 x3c_32)]⟩) ∧ ∀ g184 : G, Ex g183 g184 →
  ∀ g185 : G, NewL g184 g185 24 [(.int .i64 x0_32), (.int .i64 x1_49), (.string x2_32), (.slice x3a_32 x3l_32 x3c_32), (.int .i64 x0), (.int .i64 x1), (.string x2), (.slice x3a x3l x3c)] →
  ∀ g186 : G, Ex g185 g186 →
  (CallsP Tryd.prog 18 #[(.int .i64 (5 : Int)), (.int .i64 (0 : Int)), (.slice (some ⟨g184.w.heap.size, 0, none⟩) 2 2)] g186 fun v g187 =>
  ∃ x0_33 : Int, ∃ x1_50 : Int, ∃ x2_33 : ByteArray, ∃ x3a_33 : Option Addr, ∃ x3l_33 : Nat, ∃ x3c_33 : Nat, v = (.agg ⟨[(.int .i64 x0_33), (.int .i64 x1_50), (.string x2_33), (.slice x3a_33 x3l_33 x3c_33)]⟩) ∧ ∀ g188 : G, Ex g187 g188 →
  J_1 x0_33 x1_50 x2_33 x3a_33 x3l_33 x3c_33 g188))))) → J g4) →
  (CallsP Tryd.prog 10 #[(.agg ⟨[(.int .i64 x0), (.int .i64 x1), (.string x2), (.slice x3a x3l x3c)]⟩)] g2 fun v g189 =>
  ∃ x_4 : Bool, v = (.bool x_4) ∧ ifB x_4
  (∀ g190 : G, Ex g189 g190 →
  R (.bool true) g190)
  ((CallsP Tryd.prog 10 #[(.agg ⟨[(.int .i64 y0), (.int .i64 y1), (.string y2), (.slice y3a y3l y3c)]⟩)] g189 fun v g191 =>
  ∃ x_5 : Bool, v = (.bool x_5) ∧ ifB x_5
  (∀ g192 : G, Ex g191 g192 →
  R (.bool true) g192)
  ((CallsP Tryd.prog 10 #[(.agg ⟨[(.int .i64 z0), (.int .i64 z1), (.string z2), (.slice z3a z3l z3c)]⟩)] g191 fun v g193 =>
  ∃ x_6 : Bool, v = (.bool x_6) ∧ ifB x_6
  (∀ g194 : G, Ex g193 g194 →
  R (.bool true) g194)
  (J g193))))))))
theorem F5_eq (x0 : Int) (x1 : Int) (x2 : ByteArray) (x3a : Option Addr) (x3l : Nat) (x3c : Nat) (y0 : Int) (y1 : Int) (y2 : ByteArray) (y3a : Option Addr) (y3l : Nat) (y3c : Nat) (z0 : Int) (z1 : Int) (z2 : ByteArray) (z3a : Option Addr) (z3l : Nat) (z3c : Nat) (g : G) (R : Value → G → Prop) : fnG cfg5 151 [.tmp 6] c5 an5 [(.agg ⟨[(.int .i64 x0), (.int .i64 x1), (.string x2), (.slice x3a x3l x3c)]⟩), (.agg ⟨[(.int .i64 y0), (.int .i64 y1), (.string y2), (.slice y3a y3l y3c)]⟩), (.agg ⟨[(.int .i64 z0), (.int .i64 z1), (.string z2), (.slice z3a z3l z3c)]⟩)] g nobody R = F5 x0 x1 x2 x3a x3l x3c y0 y1 y2 y3a y3l y3c z0 z1 z2 z3a z3l z3c g R := by kernel_rfl
theorem call5 (x0 : Int) (x1 : Int) (x2 : ByteArray) (x3a : Option Addr) (x3l : Nat) (x3c : Nat) (y0 : Int) (y1 : Int) (y2 : ByteArray) (y3a : Option Addr) (y3l : Nat) (y3c : Nat) (z0 : Int) (z1 : Int) (z2 : ByteArray) (z3a : Option Addr) (z3l : Nat) (z3c : Nat) (g : G) (R : Value → G → Prop) (hF : F5 x0 x1 x2 x3a x3l x3c y0 y1 y2 y3a y3l y3c z0 z1 z2 z3a z3l z3c g R) : CallsG Tryd.prog 5 #[(.agg ⟨[(.int .i64 x0), (.int .i64 x1), (.string x2), (.slice x3a x3l x3c)]⟩), (.agg ⟨[(.int .i64 y0), (.int .i64 y1), (.string y2), (.slice y3a y3l y3c)]⟩), (.agg ⟨[(.int .i64 z0), (.int .i64 z1), (.string z2), (.slice z3a z3l z3c)]⟩)] g nobody R :=
  fn_soundG (c := cfg5) TTok FNSok mixed Tryd.func5 (show Tryd.f5.body = some c5 by kernel_rfl) (show Tryd.f5.ntmps = 151 by kernel_rfl) (show Tryd.f5.results.toList = [.tmp 6] by kernel_rfl) rfl ((F5_eq x0 x1 x2 x3a x3l x3c y0 y1 y2 y3a y3l y3c z0 z1 z2 z3a z3l z3c g R ).mpr hF)

/- 6 pilaster/pilasterlaw44.LambdaValues -/
/- 7 pilaster/pilasterlaw44.LambdaFree -/
/- 8 pilaster/pilasterlaw44.LambdaForms -/
/- 9 pilaster/pilasterlaw44.awake -/
noncomputable def c9 : Code := match Tryd.f9.body with
  | some c => c
  | none => .skip
noncomputable def cfg9 : Cfg := ⟨Tryd.prog, TT, FNS, [1, 2, 4, 5], [(1, 1), (2, 2), (4, 4), (5, 5), (38, 2), (43, 2), (44, 2), (49, 2), (50, 2), (55, 2), (64, 5), (69, 5)], [], TCH, false, false, none, PNF, false⟩
def an9 : AnnG := (.seq .leaf (.seq .leaf (.seq .leaf (.seq .leaf (.join ⟨[(6, .int .i64)], [(5, 5, 0)], [(5, [(.int .i64), (.int .i64), (.int .i64), (.int .i64), (.int .i64), (.str), (.sl), (.sl), (.sl)])]⟩ (.treeP false [] 10 (.quiet 0 (.eff 1 (.eff 2 (.eff 3 (.eff 4 (.quiet 5 (.quiet 6 (.quiet 7 (.eff 8 (.eff 9 .fin .fin) .fin)))) (.eff 8 (.eff 4 (.quiet 5 (.quiet 6 (.quiet 7 (.eff 9 .fin .fin)))) .fin) .fin)) (.eff 8 (.eff 3 (.eff 4 (.quiet 5 (.quiet 6 (.quiet 7 (.eff 9 .fin .fin)))) .fin) .fin) .fin)) (.eff 8 (.eff 2 (.eff 3 (.eff 4 (.quiet 5 (.quiet 6 (.quiet 7 (.eff 9 .fin .fin)))) .fin) .fin) .fin) .fin)) (.eff 8 (.eff 1 (.eff 2 (.eff 3 (.eff 4 (.quiet 5 (.quiet 6 (.quiet 7 (.eff 9 .fin .fin)))) .fin) .fin) .fin) .fin) .fin)))) (.seq .leaf .leaf))))))
def F9 (g : G) (R : Value → G → Prop) : Prop :=
  (CallsP Tryd.prog 18 #[(.int .i64 (2 : Int)), (.int .i64 (2 : Int)), (.slice none 0 0)] g fun v g1 =>
  ∃ x0 : Int, ∃ x1 : Int, ∃ x2 : ByteArray, ∃ x3a : Option Addr, ∃ x3l : Nat, ∃ x3c : Nat, v = (.agg ⟨[(.int .i64 x0), (.int .i64 x1), (.string x2), (.slice x3a x3l x3c)]⟩) ∧ (CallsP Tryd.prog 18 #[(.int .i64 (1 : Int)), (.int .i64 (0 : Int)), (.slice none 0 0)] g1 fun v g2 =>
  ∃ x0_1 : Int, ∃ x1_1 : Int, ∃ x2_1 : ByteArray, ∃ x3a_1 : Option Addr, ∃ x3l_1 : Nat, ∃ x3c_1 : Nat, v = (.agg ⟨[(.int .i64 x0_1), (.int .i64 x1_1), (.string x2_1), (.slice x3a_1 x3l_1 x3c_1)]⟩) ∧ (CallsP Tryd.prog 18 #[(.int .i64 (1 : Int)), (.int .i64 (0 : Int)), (.slice none 0 0)] g2 fun v g3 =>
  ∃ x0_2 : Int, ∃ x1_2 : Int, ∃ x2_2 : ByteArray, ∃ x3a_2 : Option Addr, ∃ x3l_2 : Nat, ∃ x3c_2 : Nat, v = (.agg ⟨[(.int .i64 x0_2), (.int .i64 x1_2), (.string x2_2), (.slice x3a_2 x3l_2 x3c_2)]⟩) ∧ ∀ g4 : G, NewL g3 g4 24 [(.int .i64 x0_1), (.int .i64 x1_1), (.string x2_1), (.slice x3a_1 x3l_1 x3c_1), (.int .i64 x0_2), (.int .i64 x1_2), (.string x2_2), (.slice x3a_2 x3l_2 x3c_2)] →
  (CallsP Tryd.prog 18 #[(.int .i64 (12 : Int)), (.int .i64 (1 : Int)), (.slice (some ⟨g3.w.heap.size, 0, none⟩) 2 2)] g4 fun v g5 =>
  ∃ x0_3 : Int, ∃ x1_3 : Int, ∃ x2_3 : ByteArray, ∃ x3a_3 : Option Addr, ∃ x3l_3 : Nat, ∃ x3c_3 : Nat, v = (.agg ⟨[(.int .i64 x0_3), (.int .i64 x1_3), (.string x2_3), (.slice x3a_3 x3l_3 x3c_3)]⟩) ∧ ∀ g6 : G, NewL g5 g6 24 [(.int .i64 x0), (.int .i64 x1), (.string x2), (.slice x3a x3l x3c), (.int .i64 x0_3), (.int .i64 x1_3), (.string x2_3), (.slice x3a_3 x3l_3 x3c_3)] →
  (CallsP Tryd.prog 18 #[(.int .i64 (11 : Int)), (.int .i64 (0 : Int)), (.slice (some ⟨g5.w.heap.size, 0, none⟩) 2 2)] g6 fun v g7 =>
  ∃ x0_4 : Int, ∃ x1_4 : Int, ∃ x2_4 : ByteArray, ∃ x3a_4 : Option Addr, ∃ x3l_4 : Nat, ∃ x3c_4 : Nat, v = (.agg ⟨[(.int .i64 x0_4), (.int .i64 x1_4), (.string x2_4), (.slice x3a_4 x3l_4 x3c_4)]⟩) ∧ ∀ g8 : G, Ex g7 g8 →
  (CallsP Tryd.prog 11 #[(.agg ⟨[(.int .i64 x0_4), (.int .i64 x1_4), (.string x2_4), (.slice x3a_4 x3l_4 x3c_4)]⟩), (.int .i64 (100 : Int))] g8 fun v g9 =>
  ∃ x00 : Int, ∃ x01 : Int, ∃ x02 : Int, ∃ x03 : Int, ∃ x04 : Int, ∃ x05 : ByteArray, ∃ x06a : Option Addr, ∃ x06l : Nat, ∃ x06c : Nat, ∃ x07a : Option Addr, ∃ x07l : Nat, ∃ x07c : Nat, ∃ x08a : Option Addr, ∃ x08l : Nat, ∃ x08c : Nat, ∃ x1_5 : Int, v = (.tuple ⟨[(.agg ⟨[(.int .i64 x00), (.int .i64 x01), (.int .i64 x02), (.int .i64 x03), (.int .i64 x04), (.string x05), (.slice x06a x06l x06c), (.slice x07a x07l x07c), (.slice x08a x08l x08c)]⟩), (.int .i64 x1_5)]⟩) ∧ ∀ g10 : G, Ex g9 g10 →
  (CallsP Tryd.prog 18 #[(.int .i64 (1 : Int)), (.int .i64 (1 : Int)), (.slice none 0 0)] g10 fun v g11 =>
  ∃ x0_5 : Int, ∃ x1_6 : Int, ∃ x2_5 : ByteArray, ∃ x3a_5 : Option Addr, ∃ x3l_5 : Nat, ∃ x3c_5 : Nat, v = (.agg ⟨[(.int .i64 x0_5), (.int .i64 x1_6), (.string x2_5), (.slice x3a_5 x3l_5 x3c_5)]⟩) ∧ (CallsP Tryd.prog 18 #[(.int .i64 (1 : Int)), (.int .i64 (0 : Int)), (.slice none 0 0)] g11 fun v g12 =>
  ∃ x0_6 : Int, ∃ x1_7 : Int, ∃ x2_6 : ByteArray, ∃ x3a_6 : Option Addr, ∃ x3l_6 : Nat, ∃ x3c_6 : Nat, v = (.agg ⟨[(.int .i64 x0_6), (.int .i64 x1_7), (.string x2_6), (.slice x3a_6 x3l_6 x3c_6)]⟩) ∧ ∀ g13 : G, NewL g12 g13 24 [(.int .i64 x0_5), (.int .i64 x1_6), (.string x2_5), (.slice x3a_5 x3l_5 x3c_5), (.int .i64 x0_6), (.int .i64 x1_7), (.string x2_6), (.slice x3a_6 x3l_6 x3c_6)] →
  (CallsP Tryd.prog 18 #[(.int .i64 (5 : Int)), (.int .i64 (0 : Int)), (.slice (some ⟨g12.w.heap.size, 0, none⟩) 2 2)] g13 fun v g14 =>
  ∃ x0_7 : Int, ∃ x1_8 : Int, ∃ x2_7 : ByteArray, ∃ x3a_7 : Option Addr, ∃ x3l_7 : Nat, ∃ x3c_7 : Nat, v = (.agg ⟨[(.int .i64 x0_7), (.int .i64 x1_8), (.string x2_7), (.slice x3a_7 x3l_7 x3c_7)]⟩) ∧ ∀ g15 : G, NewL g14 g15 24 [(.int .i64 x0_7), (.int .i64 x1_8), (.string x2_7), (.slice x3a_7 x3l_7 x3c_7)] →
  (CallsP Tryd.prog 18 #[(.int .i64 (4 : Int)), (.int .i64 (0 : Int)), (.slice (some ⟨g14.w.heap.size, 0, none⟩) 1 1)] g15 fun v g16 =>
  ∃ x0_8 : Int, ∃ x1_9 : Int, ∃ x2_8 : ByteArray, ∃ x3a_8 : Option Addr, ∃ x3l_8 : Nat, ∃ x3c_8 : Nat, v = (.agg ⟨[(.int .i64 x0_8), (.int .i64 x1_9), (.string x2_8), (.slice x3a_8 x3l_8 x3c_8)]⟩) ∧ ∀ g17 : G, NewL g16 g17 24 [(.int .i64 x0_8), (.int .i64 x1_9), (.string x2_8), (.slice x3a_8 x3l_8 x3c_8)] →
  (CallsP Tryd.prog 18 #[(.int .i64 (10 : Int)), (.int .i64 (0 : Int)), (.slice (some ⟨g16.w.heap.size, 0, none⟩) 1 1)] g17 fun v g18 =>
  ∃ x0_9 : Int, ∃ x1_10 : Int, ∃ x2_9 : ByteArray, ∃ x3a_9 : Option Addr, ∃ x3l_9 : Nat, ∃ x3c_9 : Nat, v = (.agg ⟨[(.int .i64 x0_9), (.int .i64 x1_10), (.string x2_9), (.slice x3a_9 x3l_9 x3c_9)]⟩) ∧ ∀ J : Int → Int → Int → Int → Int → Int → ByteArray → Option Addr → Nat → Nat → Option Addr → Nat → Nat → Option Addr → Nat → Nat → G → Prop,
  (∀ f : Int, ∀ y0 : Int, ∀ y1 : Int, ∀ y2 : Int, ∀ y3 : Int, ∀ y4 : Int, ∀ y5 : ByteArray, ∀ y6a : Option Addr, ∀ y6l : Nat, ∀ y6c : Nat, ∀ y7a : Option Addr, ∀ y7l : Nat, ∀ y7c : Nat, ∀ y8a : Option Addr, ∀ y8l : Nat, ∀ y8c : Nat, ∀ g19 : G, (ifB (eqI x1_5 (0 : Int))
  (ifB (eqI x00 (1 : Int))
  (ifB (eqI x03 (1 : Int))
  (ifB (eqI x04 (4 : Int))
  (ifB (eqI x02 (5 : Int))
  (ifB (eqI f (0 : Int))
  (ifB (eqI y0 (3 : Int))
  (∀ g20 : G, Ex g19 g20 →
  R (.bool (eqI y2 (100 : Int))) g20)
  (∀ g21 : G, Ex g19 g21 →
  R (.bool false) g21))
  (∀ g22 : G, Ex g19 g22 →
  R (.bool false) g22))
  (∀ g23 : G, Ex g19 g23 →
  R (.bool false) g23))
  (∀ g24 : G, Ex g19 g24 →
  R (.bool false) g24))
  (∀ g25 : G, Ex g19 g25 →
  R (.bool false) g25))
  (∀ g26 : G, Ex g19 g26 →
  R (.bool false) g26))
  (∀ g27 : G, Ex g19 g27 →
  R (.bool false) g27)) → J f y0 y1 y2 y3 y4 y5 y6a y6l y6c y7a y7l y7c y8a y8l y8c g19) →
  ∀ g28 : G, Ex g18 g28 →
  (∀ g29 : G, Ex g28 g29 →
  (CallsP Tryd.prog 18 #[(.int .i64 (2 : Int)), (.int .i64 (0 : Int)), (.slice none 0 0)] g29 fun v g30 =>
  ∃ x0_10 : Int, ∃ x1_11 : Int, ∃ x2_10 : ByteArray, ∃ x3a_10 : Option Addr, ∃ x3l_10 : Nat, ∃ x3c_10 : Nat, v = (.agg ⟨[(.int .i64 x0_10), (.int .i64 x1_11), (.string x2_10), (.slice x3a_10 x3l_10 x3c_10)]⟩) ∧ (∀ g31 : G, Ex g30 g31 →
  ∀ g32 : G, NewL g31 g32 24 [(.int .i64 x0_9), (.int .i64 x1_10), (.string x2_9), (.slice x3a_9 x3l_9 x3c_9), (.int .i64 x0_10), (.int .i64 x1_11), (.string x2_10), (.slice x3a_10 x3l_10 x3c_10)] →
  (∀ g33 : G, Ex g32 g33 →
  (CallsP Tryd.prog 18 #[(.int .i64 (5 : Int)), (.int .i64 (0 : Int)), (.slice (some ⟨g31.w.heap.size, 0, none⟩) 2 2)] g33 fun v g34 =>
  ∃ x0_11 : Int, ∃ x1_12 : Int, ∃ x2_11 : ByteArray, ∃ x3a_11 : Option Addr, ∃ x3l_11 : Nat, ∃ x3c_11 : Nat, v = (.agg ⟨[(.int .i64 x0_11), (.int .i64 x1_12), (.string x2_11), (.slice x3a_11 x3l_11 x3c_11)]⟩) ∧ Rep 1 (∀ g35 : G, Ex g34 g35 →
  (CallsP Tryd.prog 11 #[(.agg ⟨[(.int .i64 x0_11), (.int .i64 x1_12), (.string x2_11), (.slice x3a_11 x3l_11 x3c_11)]⟩), (.int .i64 (100 : Int))] g35 fun v g36 =>
  ∃ x00_1 : Int, ∃ x01_1 : Int, ∃ x02_1 : Int, ∃ x03_1 : Int, ∃ x04_1 : Int, ∃ x05_1 : ByteArray, ∃ x06a_1 : Option Addr, ∃ x06l_1 : Nat, ∃ x06c_1 : Nat, ∃ x07a_1 : Option Addr, ∃ x07l_1 : Nat, ∃ x07c_1 : Nat, ∃ x08a_1 : Option Addr, ∃ x08l_1 : Nat, ∃ x08c_1 : Nat, ∃ x1_13 : Int, v = (.tuple ⟨[(.agg ⟨[(.int .i64 x00_1), (.int .i64 x01_1), (.int .i64 x02_1), (.int .i64 x03_1), (.int .i64 x04_1), (.string x05_1), (.slice x06a_1 x06l_1 x06c_1), (.slice x07a_1 x07l_1 x07c_1), (.slice x08a_1 x08l_1 x08c_1)]⟩), (.int .i64 x1_13)]⟩) ∧ ∀ g37 : G, Ex g36 g37 →
  J x1_13 x00_1 x01_1 x02_1 x03_1 x04_1 x05_1 x06a_1 x06l_1 x06c_1 x07a_1 x07l_1 x07c_1 x08a_1 x08l_1 x08c_1 g37)))) ∧ (∀ g41 : G, Ex g32 g41 →
  (CallsP Tryd.prog 18 #[(.int .i64 (5 : Int)), (.int .i64 (0 : Int)), (.slice (some ⟨g31.w.heap.size, 0, none⟩) 2 2)] g41 fun v g42 =>
  ∃ x0_12 : Int, ∃ x1_15 : Int, ∃ x2_12 : ByteArray, ∃ x3a_12 : Option Addr, ∃ x3l_12 : Nat, ∃ x3c_12 : Nat, v = (.agg ⟨[(.int .i64 x0_12), (.int .i64 x1_15), (.string x2_12), (.slice x3a_12 x3l_12 x3c_12)]⟩) ∧ ∀ g43 : G, Ex g42 g43 →
  (CallsP Tryd.prog 11 #[(.agg ⟨[(.int .i64 x0_12), (.int .i64 x1_15), (.string x2_12), (.slice x3a_12 x3l_12 x3c_12)]⟩), (.int .i64 (100 : Int))] g43 fun v g44 =>
  ∃ x00_3 : Int, ∃ x01_3 : Int, ∃ x02_3 : Int, ∃ x03_3 : Int, ∃ x04_3 : Int, ∃ x05_3 : ByteArray, ∃ x06a_3 : Option Addr, ∃ x06l_3 : Nat, ∃ x06c_3 : Nat, ∃ x07a_3 : Option Addr, ∃ x07l_3 : Nat, ∃ x07c_3 : Nat, ∃ x08a_3 : Option Addr, ∃ x08l_3 : Nat, ∃ x08c_3 : Nat, ∃ x1_16 : Int, v = (.tuple ⟨[(.agg ⟨[(.int .i64 x00_3), (.int .i64 x01_3), (.int .i64 x02_3), (.int .i64 x03_3), (.int .i64 x04_3), (.string x05_3), (.slice x06a_3 x06l_3 x06c_3), (.slice x07a_3 x07l_3 x07c_3), (.slice x08a_3 x08l_3 x08c_3)]⟩), (.int .i64 x1_16)]⟩) ∧ ∀ g45 : G, Ex g44 g45 →
  J x1_16 x00_3 x01_3 x02_3 x03_3 x04_3 x05_3 x06a_3 x06l_3 x06c_3 x07a_3 x07l_3 x07c_3 x08a_3 x08l_3 x08c_3 g45)))) ∧ (∀ g46 : G, Ex g30 g46 →
  ∀ g47 : G, NewL g46 g47 24 [(.int .i64 x0_9), (.int .i64 x1_10), (.string x2_9), (.slice x3a_9 x3l_9 x3c_9), (.int .i64 x0_10), (.int .i64 x1_11), (.string x2_10), (.slice x3a_10 x3l_10 x3c_10)] →
  ∀ g48 : G, Ex g47 g48 →
  (CallsP Tryd.prog 18 #[(.int .i64 (5 : Int)), (.int .i64 (0 : Int)), (.slice (some ⟨g46.w.heap.size, 0, none⟩) 2 2)] g48 fun v g49 =>
  ∃ x0_13 : Int, ∃ x1_17 : Int, ∃ x2_13 : ByteArray, ∃ x3a_13 : Option Addr, ∃ x3l_13 : Nat, ∃ x3c_13 : Nat, v = (.agg ⟨[(.int .i64 x0_13), (.int .i64 x1_17), (.string x2_13), (.slice x3a_13 x3l_13 x3c_13)]⟩) ∧ ∀ g50 : G, Ex g49 g50 →
  (CallsP Tryd.prog 11 #[(.agg ⟨[(.int .i64 x0_13), (.int .i64 x1_17), (.string x2_13), (.slice x3a_13 x3l_13 x3c_13)]⟩), (.int .i64 (100 : Int))] g50 fun v g51 =>
  ∃ x00_4 : Int, ∃ x01_4 : Int, ∃ x02_4 : Int, ∃ x03_4 : Int, ∃ x04_4 : Int, ∃ x05_4 : ByteArray, ∃ x06a_4 : Option Addr, ∃ x06l_4 : Nat, ∃ x06c_4 : Nat, ∃ x07a_4 : Option Addr, ∃ x07l_4 : Nat, ∃ x07c_4 : Nat, ∃ x08a_4 : Option Addr, ∃ x08l_4 : Nat, ∃ x08c_4 : Nat, ∃ x1_18 : Int, v = (.tuple ⟨[(.agg ⟨[(.int .i64 x00_4), (.int .i64 x01_4), (.int .i64 x02_4), (.int .i64 x03_4), (.int .i64 x04_4), (.string x05_4), (.slice x06a_4 x06l_4 x06c_4), (.slice x07a_4 x07l_4 x07c_4), (.slice x08a_4 x08l_4 x08c_4)]⟩), (.int .i64 x1_18)]⟩) ∧ ∀ g52 : G, Ex g51 g52 →
  J x1_18 x00_4 x01_4 x02_4 x03_4 x04_4 x05_4 x06a_4 x06l_4 x06c_4 x07a_4 x07l_4 x07c_4 x08a_4 x08l_4 x08c_4 g52))))) ∧ (∀ g53 : G, Ex g28 g53 →
  (CallsP Tryd.prog 18 #[(.int .i64 (2 : Int)), (.int .i64 (0 : Int)), (.slice none 0 0)] g53 fun v g54 =>
  ∃ x0_14 : Int, ∃ x1_19 : Int, ∃ x2_14 : ByteArray, ∃ x3a_14 : Option Addr, ∃ x3l_14 : Nat, ∃ x3c_14 : Nat, v = (.agg ⟨[(.int .i64 x0_14), (.int .i64 x1_19), (.string x2_14), (.slice x3a_14 x3l_14 x3c_14)]⟩) ∧ ∀ g55 : G, Ex g54 g55 →
  ∀ g56 : G, NewL g55 g56 24 [(.int .i64 x0_9), (.int .i64 x1_10), (.string x2_9), (.slice x3a_9 x3l_9 x3c_9), (.int .i64 x0_14), (.int .i64 x1_19), (.string x2_14), (.slice x3a_14 x3l_14 x3c_14)] →
  ∀ g57 : G, Ex g56 g57 →
  (CallsP Tryd.prog 18 #[(.int .i64 (5 : Int)), (.int .i64 (0 : Int)), (.slice (some ⟨g55.w.heap.size, 0, none⟩) 2 2)] g57 fun v g58 =>
  ∃ x0_15 : Int, ∃ x1_20 : Int, ∃ x2_15 : ByteArray, ∃ x3a_15 : Option Addr, ∃ x3l_15 : Nat, ∃ x3c_15 : Nat, v = (.agg ⟨[(.int .i64 x0_15), (.int .i64 x1_20), (.string x2_15), (.slice x3a_15 x3l_15 x3c_15)]⟩) ∧ ∀ g59 : G, Ex g58 g59 →
  (CallsP Tryd.prog 11 #[(.agg ⟨[(.int .i64 x0_15), (.int .i64 x1_20), (.string x2_15), (.slice x3a_15 x3l_15 x3c_15)]⟩), (.int .i64 (100 : Int))] g59 fun v g60 =>
  ∃ x00_5 : Int, ∃ x01_5 : Int, ∃ x02_5 : Int, ∃ x03_5 : Int, ∃ x04_5 : Int, ∃ x05_5 : ByteArray, ∃ x06a_5 : Option Addr, ∃ x06l_5 : Nat, ∃ x06c_5 : Nat, ∃ x07a_5 : Option Addr, ∃ x07l_5 : Nat, ∃ x07c_5 : Nat, ∃ x08a_5 : Option Addr, ∃ x08l_5 : Nat, ∃ x08c_5 : Nat, ∃ x1_21 : Int, v = (.tuple ⟨[(.agg ⟨[(.int .i64 x00_5), (.int .i64 x01_5), (.int .i64 x02_5), (.int .i64 x03_5), (.int .i64 x04_5), (.string x05_5), (.slice x06a_5 x06l_5 x06c_5), (.slice x07a_5 x07l_5 x07c_5), (.slice x08a_5 x08l_5 x08c_5)]⟩), (.int .i64 x1_21)]⟩) ∧ ∀ g61 : G, Ex g60 g61 →
  J x1_21 x00_5 x01_5 x02_5 x03_5 x04_5 x05_5 x06a_5 x06l_5 x06c_5 x07a_5 x07l_5 x07c_5 x08a_5 x08l_5 x08c_5 g61)))))))))))))))
theorem F9_eq (g : G) (R : Value → G → Prop) : fnG cfg9 73 [.tmp 0] c9 an9 [] g nobody R = F9 g R := by kernel_rfl
theorem call9 (g : G) (R : Value → G → Prop) (hF : F9 g R) : CallsG Tryd.prog 9 #[] g nobody R :=
  fn_soundG (c := cfg9) TTok FNSok mixed Tryd.func9 (show Tryd.f9.body = some c9 by kernel_rfl) (show Tryd.f9.ntmps = 73 by kernel_rfl) (show Tryd.f9.results.toList = [.tmp 0] by kernel_rfl) rfl ((F9_eq g R ).mpr hF)

/- 10 pilaster/pilasterlaw44.big -/
noncomputable def c10 : Code := match Tryd.f10.body with
  | some c => c
  | none => .skip
noncomputable def cfg10 : Cfg := ⟨Tryd.prog, TT, FNS, [1], [(1, 1)], [4], TCH, false, false, none, PNF, false⟩
def an10 : AnnG := (.seq .leaf (.seq .leaf (.seq .leaf (.seq .leaf (.seq .leaf (.seq .leaf .leaf))))))
def F10 (x0 : Int) (x1 : Int) (x2 : ByteArray) (x3a : Option Addr) (x3l : Nat) (x3c : Nat) (g : G) (R : Value → G → Prop) : Prop :=
  ∀ g1 : G, Ex g g1 →
  ∀ g2 : G, NewD g1 g2 3 [(.int .i64 (0 : Int))] →
  stOk g2.w ⟨g1.w.heap.size, 0, none⟩ 1 ∧ ¬ g2.X (Addr.block ⟨g1.w.heap.size, 0, none⟩) ∧ mutAt g2 ⟨g1.w.heap.size, 0, none⟩ 1 ∧ ((Addr.block ⟨g1.w.heap.size, 0, none⟩) < g.w.heap.size → nobody (Addr.block ⟨g1.w.heap.size, 0, none⟩)) ∧ ∀ g3 : G, StG false g2 ⟨g1.w.heap.size, 0, none⟩ [(.int .i64 (0 : Int))] g3 →
  ∀ g4 : G, NewD g3 g4 55 [.nilFunc] →
  stOk g4.w ⟨g3.w.heap.size, 0, none⟩ 1 ∧ ¬ g4.X (Addr.block ⟨g3.w.heap.size, 0, none⟩) ∧ mutAt g4 ⟨g3.w.heap.size, 0, none⟩ 1 ∧ ((Addr.block ⟨g3.w.heap.size, 0, none⟩) < g.w.heap.size → nobody (Addr.block ⟨g3.w.heap.size, 0, none⟩)) ∧ ∀ g5 : G, StG true g4 ⟨g3.w.heap.size, 0, none⟩ [(.func (.func 32) #[] ⟨[(.pointer (some ⟨g1.w.heap.size, 0, none⟩)), (.pointer (some ⟨g3.w.heap.size, 0, none⟩))]⟩)] g5 →
  ∃ walkf : FuncId, ∃ walkc : Array Value, g5.w.cell? ⟨g3.w.heap.size, 0, none⟩ = some (.func (.func walkf) #[] walkc) ∧ Enters Tryd.prog walkf ∧ (CallsP Tryd.prog walkf ((⟨[(.agg ⟨[(.int .i64 x0), (.int .i64 x1), (.string x2), (.slice x3a x3l x3c)]⟩), (.int .i64 (1 : Int))]⟩ : Array Value) ++ walkc) g5 fun v g6 =>
  v = (.tuple ⟨[]⟩) ∧ ∃ n : Int, g6.w.cell? ⟨g1.w.heap.size, 0, none⟩ = some (.int .i64 n) ∧ ∀ g7 : G, Ex g6 g7 →
  R (.bool (ltI (200 : Int) n)) g7)
theorem F10_eq (x0 : Int) (x1 : Int) (x2 : ByteArray) (x3a : Option Addr) (x3l : Nat) (x3c : Nat) (g : G) (R : Value → G → Prop) : fnG cfg10 11 [.tmp 2] c10 an10 [(.agg ⟨[(.int .i64 x0), (.int .i64 x1), (.string x2), (.slice x3a x3l x3c)]⟩)] g nobody R = F10 x0 x1 x2 x3a x3l x3c g R := by kernel_rfl
theorem call10 (x0 : Int) (x1 : Int) (x2 : ByteArray) (x3a : Option Addr) (x3l : Nat) (x3c : Nat) (g : G) (R : Value → G → Prop) (hF : F10 x0 x1 x2 x3a x3l x3c g R) : CallsG Tryd.prog 10 #[(.agg ⟨[(.int .i64 x0), (.int .i64 x1), (.string x2), (.slice x3a x3l x3c)]⟩)] g nobody R :=
  fn_soundG (c := cfg10) TTok FNSok mixed Tryd.func10 (show Tryd.f10.body = some c10 by kernel_rfl) (show Tryd.f10.ntmps = 11 by kernel_rfl) (show Tryd.f10.results.toList = [.tmp 2] by kernel_rfl) rfl ((F10_eq x0 x1 x2 x3a x3l x3c g R ).mpr hF)

/- 11 pilaster/lambda.Run -/
noncomputable def c11 : Code := match Tryd.f11.body with
  | some c => c
  | none => .skip
noncomputable def cfg11 : Cfg := ⟨Tryd.prog, TT, FNS, [2, 4, 7], [(2, 2), (4, 4), (7, 7)], [], TCH, false, false, none, PNF, false⟩
def an11 : AnnG := (.seq .leaf (.join ⟨[], [(4, 4, 0)], [(4, [(.int .i64), (.int .i64), (.int .i64), (.int .i64), (.int .i64), (.str), (.sl), (.sl), (.sl)])]⟩ (.blk (.seq .leaf (.cond (.seq .leaf .leaf) (.seq .leaf (.cond (.seq .leaf .leaf) .leaf))))) (.seq .leaf (.seq .leaf (.seq (.treeP false [4] 17 (.quiet 0 (.quiet 1 (.quiet 2 (.quiet 3 (.quiet 4 (.quiet 5 (.quiet 6 (.quiet 7 (.quiet 8 (.quiet 9 (.quiet 10 (.quiet 11 (.quiet 12 (.quiet 13 (.quiet 14 (.quiet 15 (.quiet 16 .fin)))))))))))))))))) .leaf)))))
def F11 (x0 : Int) (x1 : Int) (x2 : ByteArray) (x3a : Option Addr) (x3l : Nat) (x3c : Nat) (fuel : Int) (g : G) (R : Value → G → Prop) : Prop :=
  ∀ J : Int → Int → Int → Int → Int → ByteArray → Option Addr → Nat → Nat → Option Addr → Nat → Nat → Option Addr → Nat → Nat → G → Prop,
  (∀ x0_1 : Int, ∀ x1_1 : Int, ∀ x2_1 : Int, ∀ x3 : Int, ∀ x4 : Int, ∀ x5 : ByteArray, ∀ x6a : Option Addr, ∀ x6l : Nat, ∀ x6c : Nat, ∀ x7a : Option Addr, ∀ x7l : Nat, ∀ x7c : Nat, ∀ x8a : Option Addr, ∀ x8l : Nat, ∀ x8c : Nat, ∀ g1 : G, (∀ g2 : G, NewD g1 g2 58 ([(.int .i64 (0 : Int)), (.int .i64 fuel), (.slice none 0 0), (.int .i64 (1 : Int)), (.int .i64 (0 : Int))] : List Value) →
  ∃ M1 : Nat → Prop, (∀ b, b < g.w.heap.size → M1 b → nobody b) ∧ (CallsG Tryd.prog 34 #[(.pointer (some ⟨g1.w.heap.size, 0, none⟩)), (.agg ⟨[(.int .i64 x0), (.int .i64 x1), (.string x2), (.slice x3a x3l x3c)]⟩)] g2 M1 fun v g3 =>
  ∃ x0_2 : Int, ∃ x1_2 : Int, ∃ x2_2 : ByteArray, ∃ x3a_1 : Option Addr, ∃ x3l_1 : Nat, ∃ x3c_1 : Nat, ∃ x4a : Option Addr, ∃ x4l : Nat, ∃ x4c : Nat, v = (.agg ⟨[(.int .i64 x0_2), (.int .i64 x1_2), (.string x2_2), (.slice x3a_1 x3l_1 x3c_1), (.slice x4a x4l x4c)]⟩) ∧ ∀ g4 : G, Ex g3 g4 →
  ¬ g4.X (Addr.block (Addr.add ⟨g1.w.heap.size, 0, none⟩ 3)) ∧ ∃ x : Int, g4.w.cell? (Addr.add ⟨g1.w.heap.size, 0, none⟩ 3) = some (.int .i64 x) ∧ ¬ g4.X (Addr.block (Addr.add ⟨g1.w.heap.size, 0, none⟩ 4)) ∧ ∃ x_1 : Int, g4.w.cell? (Addr.add ⟨g1.w.heap.size, 0, none⟩ 4) = some (.int .i64 x_1) ∧ ¬ g4.X (Addr.block ⟨g1.w.heap.size, 0, none⟩) ∧ ∃ x_2 : Int, g4.w.cell? ⟨g1.w.heap.size, 0, none⟩ = some (.int .i64 x_2) ∧ ¬ g4.X (Addr.block (Addr.add ⟨g1.w.heap.size, 0, none⟩ 2)) ∧ ∃ xa : Option Addr, ∃ xl : Nat, ∃ xc : Nat, g4.w.cell? (Addr.add ⟨g1.w.heap.size, 0, none⟩ 2) = some (.slice xa xl xc) ∧ ∀ g5 : G, Ex g4 g5 →
  R (.tuple ⟨[(.agg ⟨[(.int .i64 x), (.int .i64 x_1), (.int .i64 x_2), (.int .i64 x0_2), (.int .i64 x1_2), (.string x2_2), (.slice x3a_1 x3l_1 x3c_1), (.slice x4a x4l x4c), (.slice xa xl xc)]⟩), (.int .i64 (0 : Int))]⟩) g5)) → J x0_1 x1_1 x2_1 x3 x4 x5 x6a x6l x6c x7a x7l x7c x8a x8l x8c g1) →
  ∀ g6 : G, Ex g g6 →
  (CallsP Tryd.prog 33 #[(.agg ⟨[(.int .i64 x0), (.int .i64 x1), (.string x2), (.slice x3a x3l x3c)]⟩)] g6 fun v g7 =>
  ∃ x_3 : Bool, v = (.bool x_3) ∧ ifB (!x_3)
  (∀ g8 : G, Ex g7 g8 →
  R (.tuple ⟨[(.agg ⟨[(.int .i64 (0 : Int)), (.int .i64 (0 : Int)), (.int .i64 (0 : Int)), (.int .i64 (0 : Int)), (.int .i64 (0 : Int)), (.string (bs [])), (.slice none 0 0), (.slice none 0 0), (.slice none 0 0)]⟩), (.int .i64 (1 : Int))]⟩) g8)
  (ifB (ltI fuel (0 : Int))
  (∀ g9 : G, Ex g7 g9 →
  R (.tuple ⟨[(.agg ⟨[(.int .i64 (0 : Int)), (.int .i64 (0 : Int)), (.int .i64 (0 : Int)), (.int .i64 (0 : Int)), (.int .i64 (0 : Int)), (.string (bs [])), (.slice none 0 0), (.slice none 0 0), (.slice none 0 0)]⟩), (.int .i64 (2 : Int))]⟩) g9)
  (ifB (ltI (1048576 : Int) fuel)
  (∀ g10 : G, Ex g7 g10 →
  R (.tuple ⟨[(.agg ⟨[(.int .i64 (0 : Int)), (.int .i64 (0 : Int)), (.int .i64 (0 : Int)), (.int .i64 (0 : Int)), (.int .i64 (0 : Int)), (.string (bs [])), (.slice none 0 0), (.slice none 0 0), (.slice none 0 0)]⟩), (.int .i64 (2 : Int))]⟩) g10)
  (J (0 : Int) (0 : Int) (0 : Int) (0 : Int) (0 : Int) (bs []) none 0 0 none 0 0 none 0 0 g7))))
theorem F11_eq (x0 : Int) (x1 : Int) (x2 : ByteArray) (x3a : Option Addr) (x3l : Nat) (x3c : Nat) (fuel : Int) (g : G) (R : Value → G → Prop) : fnG cfg11 45 [.cell 4 32, .tmp 5] c11 an11 [(.agg ⟨[(.int .i64 x0), (.int .i64 x1), (.string x2), (.slice x3a x3l x3c)]⟩), (.int .i64 fuel)] g nobody R = F11 x0 x1 x2 x3a x3l x3c fuel g R := by kernel_rfl
theorem call11 (x0 : Int) (x1 : Int) (x2 : ByteArray) (x3a : Option Addr) (x3l : Nat) (x3c : Nat) (fuel : Int) (g : G) (R : Value → G → Prop) (hF : F11 x0 x1 x2 x3a x3l x3c fuel g R) : CallsG Tryd.prog 11 #[(.agg ⟨[(.int .i64 x0), (.int .i64 x1), (.string x2), (.slice x3a x3l x3c)]⟩), (.int .i64 fuel)] g nobody R :=
  fn_soundG (c := cfg11) TTok FNSok mixed Tryd.func11 (show Tryd.f11.body = some c11 by kernel_rfl) (show Tryd.f11.ntmps = 45 by kernel_rfl) (show Tryd.f11.results.toList = [.cell 4 32, .tmp 5] by kernel_rfl) rfl ((F11_eq x0 x1 x2 x3a x3l x3c fuel g R ).mpr hF)

/- 12 pilaster/pilasterref44.Valid -/
/- 13 pilaster/pilasterref44.Free -/
/- 14 pilaster/pilasterlaw44.none -/
/- 15 pilaster/pilasterref44.SameOutcome -/
/- 16 pilaster/pilasterref44.Run -/
/- 17 pilaster/pilasterref44.SameTexts -/
noncomputable def c17 : Code := match Tryd.f17.body with
  | some c => c
  | none => .skip
noncomputable def cfg17 : Cfg := ⟨Tryd.prog, TT, FNS, [], [], [], TCH, false, false, none, PNF, false⟩
def an17 : AnnG := (.seq .leaf (.seq (.seq .leaf (.cond (.seq .leaf .leaf) .leaf)) (.seq (.seq .leaf (.blk (.loop ⟨[(5, .int .i64)], [], []⟩ (.seq (.seq .leaf (.cond .leaf .leaf)) (.seq (.blk (.seq (.tree 8 (.quiet 0 (.quiet 1 (.quiet 2 (.quiet 3 (.quiet 4 (.quiet 5 (.quiet 6 (.quiet 7 .fin))))))))) (.cond (.seq .leaf .leaf) .leaf))) .leaf))))) (.seq .leaf .leaf))))
def F17 (aa : Option Addr) (al : Nat) (ac : Nat) (ba : Option Addr) (bl : Nat) (bc : Nat) (g : G) (R : Value → G → Prop) : Prop :=
  ifB (!eqI ((al : Nat) : Int) ((bl : Nat) : Int))
  (∀ g1 : G, Ex g g1 →
  R (.bool false) g1)
  (∃ Inv : Nat → Int → G → Prop, ((∃ m0 : Nat, Inv m0 (0 : Int) g)) ∧
  ∀ m : Nat, ∀ i : Int, ∀ g2 : G, Le g g2 → Inv m i g2 →
  ifB (ltI i ((al : Nat) : Int))
  (∀ g3 : G, Ex g2 g3 →
  (0 ≤ i ∧ i < ((al : Nat) : Int)) ∧ derefP aa fun ad => ∃ x : ByteArray, g3.w.cell? (Addr.add ad (Int.toNat i * 1)) = some (.string x) ∧ (0 ≤ i ∧ i < ((bl : Nat) : Int)) ∧ derefP ba fun ad_1 => ∃ x_1 : ByteArray, g3.w.cell? (Addr.add ad_1 (Int.toNat i * 1)) = some (.string x_1) ∧ ifB (!strEq x x_1)
  (∀ g4 : G, Ex g3 g4 →
  R (.bool false) g4)
  (InI64 (i + (1 : Int)) ∧ (∃ m_1 : Nat, m_1 < m ∧ Inv m_1 (i + (1 : Int)) g3)))
  (∀ g5 : G, Ex g2 g5 →
  R (.bool true) g5))
theorem F17_eq (aa : Option Addr) (al : Nat) (ac : Nat) (ba : Option Addr) (bl : Nat) (bc : Nat) (g : G) (R : Value → G → Prop) : fnG cfg17 26 [.tmp 4] c17 an17 [(.slice aa al ac), (.slice ba bl bc)] g nobody R = F17 aa al ac ba bl bc g R := by kernel_rfl
theorem call17 (aa : Option Addr) (al : Nat) (ac : Nat) (ba : Option Addr) (bl : Nat) (bc : Nat) (g : G) (R : Value → G → Prop) (hF : F17 aa al ac ba bl bc g R) : CallsG Tryd.prog 17 #[(.slice aa al ac), (.slice ba bl bc)] g nobody R :=
  fn_soundG (c := cfg17) TTok FNSok mixed Tryd.func17 (show Tryd.f17.body = some c17 by kernel_rfl) (show Tryd.f17.ntmps = 26 by kernel_rfl) (show Tryd.f17.results.toList = [.tmp 4] by kernel_rfl) rfl ((F17_eq aa al ac ba bl bc g R ).mpr hF)

/- 18 pilaster/pilasterlaw44.u -/
noncomputable def c18 : Code := match Tryd.f18.body with
  | some c => c
  | none => .skip
noncomputable def cfg18 : Cfg := ⟨Tryd.prog, TT, FNS, [6], [(6, 6)], [], TCH, false, false, none, PNF, false⟩
def an18 : AnnG := (.seq .leaf (.seq .leaf .leaf))
def F18 (op : Int) (n : Int) (la : Option Addr) (ll : Nat) (lc : Nat) (g : G) (R : Value → G → Prop) : Prop :=
  ∀ g1 : G, Ex g g1 →
  ∀ g2 : G, Ex g1 g2 →
  R (.agg ⟨[(.int .i64 op), (.int .i64 n), (.string (bs [])), (.slice la ll lc)]⟩) g2
theorem F18_eq (op : Int) (n : Int) (la : Option Addr) (ll : Nat) (lc : Nat) (g : G) (R : Value → G → Prop) : fnG cfg18 11 [.cell 6 24] c18 an18 [(.int .i64 op), (.int .i64 n), (.slice la ll lc)] g nobody R = F18 op n la ll lc g R := by kernel_rfl
theorem call18 (op : Int) (n : Int) (la : Option Addr) (ll : Nat) (lc : Nat) (g : G) (R : Value → G → Prop) (hF : F18 op n la ll lc g R) : CallsG Tryd.prog 18 #[(.int .i64 op), (.int .i64 n), (.slice la ll lc)] g nobody R :=
  fn_soundG (c := cfg18) TTok FNSok mixed Tryd.func18 (show Tryd.f18.body = some c18 by kernel_rfl) (show Tryd.f18.ntmps = 11 by kernel_rfl) (show Tryd.f18.results.toList = [.cell 6 24] by kernel_rfl) rfl ((F18_eq op n la ll lc g R ).mpr hF)

/- 19 pilaster/pilasterref44.SameEnd -/
noncomputable def c19 : Code := match Tryd.f19.body with
  | some c => c
  | none => .skip
noncomputable def cfg19 : Cfg := ⟨Tryd.prog, TT, FNS, [2, 3], [(2, 2), (3, 3), (5, 2), (7, 3), (11, 2), (13, 3), (18, 2), (20, 3), (25, 2), (27, 3)], [], TCH, false, false, none, PNF, false⟩
def an19 : AnnG := (.seq .leaf (.seq .leaf .leaf))
def F19 (a0 : Int) (a1 : Int) (a2 : Int) (a3 : Int) (a4 : Int) (a5 : ByteArray) (a6a : Option Addr) (a6l : Nat) (a6c : Nat) (a7a : Option Addr) (a7l : Nat) (a7c : Nat) (a8a : Option Addr) (a8l : Nat) (a8c : Nat) (b0 : Int) (b1 : Int) (b2 : Int) (b3 : Int) (b4 : Int) (b5 : ByteArray) (b6a : Option Addr) (b6l : Nat) (b6c : Nat) (b7a : Option Addr) (b7l : Nat) (b7c : Nat) (b8a : Option Addr) (b8l : Nat) (b8c : Nat) (g : G) (R : Value → G → Prop) : Prop :=
  ifB (eqI a0 b0)
  (ifB (eqI a1 b1)
  (∀ g1 : G, Ex g g1 →
  (CallsP Tryd.prog 22 #[(.agg ⟨[(.int .i64 a3), (.int .i64 a4), (.string a5), (.slice a6a a6l a6c), (.slice a7a a7l a7c)]⟩), (.agg ⟨[(.int .i64 b3), (.int .i64 b4), (.string b5), (.slice b6a b6l b6c), (.slice b7a b7l b7c)]⟩)] g1 fun v g2 =>
  ∃ x : Bool, v = (.bool x) ∧ ifB x
  ((CallsP Tryd.prog 17 #[(.slice a8a a8l a8c), (.slice b8a b8l b8c)] g2 fun v g3 =>
  ∃ x_1 : Bool, v = (.bool x_1) ∧ ∀ g4 : G, Ex g3 g4 →
  R (.bool x_1) g4))
  (∀ g5 : G, Ex g2 g5 →
  R (.bool false) g5)))
  (∀ g6 : G, Ex g g6 →
  R (.bool false) g6))
  (∀ g7 : G, Ex g g7 →
  R (.bool false) g7)
theorem F19_eq (a0 : Int) (a1 : Int) (a2 : Int) (a3 : Int) (a4 : Int) (a5 : ByteArray) (a6a : Option Addr) (a6l : Nat) (a6c : Nat) (a7a : Option Addr) (a7l : Nat) (a7c : Nat) (a8a : Option Addr) (a8l : Nat) (a8c : Nat) (b0 : Int) (b1 : Int) (b2 : Int) (b3 : Int) (b4 : Int) (b5 : ByteArray) (b6a : Option Addr) (b6l : Nat) (b6c : Nat) (b7a : Option Addr) (b7l : Nat) (b7c : Nat) (b8a : Option Addr) (b8l : Nat) (b8c : Nat) (g : G) (R : Value → G → Prop) : fnG cfg19 31 [.tmp 4] c19 an19 [(.agg ⟨[(.int .i64 a0), (.int .i64 a1), (.int .i64 a2), (.int .i64 a3), (.int .i64 a4), (.string a5), (.slice a6a a6l a6c), (.slice a7a a7l a7c), (.slice a8a a8l a8c)]⟩), (.agg ⟨[(.int .i64 b0), (.int .i64 b1), (.int .i64 b2), (.int .i64 b3), (.int .i64 b4), (.string b5), (.slice b6a b6l b6c), (.slice b7a b7l b7c), (.slice b8a b8l b8c)]⟩)] g nobody R = F19 a0 a1 a2 a3 a4 a5 a6a a6l a6c a7a a7l a7c a8a a8l a8c b0 b1 b2 b3 b4 b5 b6a b6l b6c b7a b7l b7c b8a b8l b8c g R := by kernel_rfl
theorem call19 (a0 : Int) (a1 : Int) (a2 : Int) (a3 : Int) (a4 : Int) (a5 : ByteArray) (a6a : Option Addr) (a6l : Nat) (a6c : Nat) (a7a : Option Addr) (a7l : Nat) (a7c : Nat) (a8a : Option Addr) (a8l : Nat) (a8c : Nat) (b0 : Int) (b1 : Int) (b2 : Int) (b3 : Int) (b4 : Int) (b5 : ByteArray) (b6a : Option Addr) (b6l : Nat) (b6c : Nat) (b7a : Option Addr) (b7l : Nat) (b7c : Nat) (b8a : Option Addr) (b8l : Nat) (b8c : Nat) (g : G) (R : Value → G → Prop) (hF : F19 a0 a1 a2 a3 a4 a5 a6a a6l a6c a7a a7l a7c a8a a8l a8c b0 b1 b2 b3 b4 b5 b6a b6l b6c b7a b7l b7c b8a b8l b8c g R) : CallsG Tryd.prog 19 #[(.agg ⟨[(.int .i64 a0), (.int .i64 a1), (.int .i64 a2), (.int .i64 a3), (.int .i64 a4), (.string a5), (.slice a6a a6l a6c), (.slice a7a a7l a7c), (.slice a8a a8l a8c)]⟩), (.agg ⟨[(.int .i64 b0), (.int .i64 b1), (.int .i64 b2), (.int .i64 b3), (.int .i64 b4), (.string b5), (.slice b6a b6l b6c), (.slice b7a b7l b7c), (.slice b8a b8l b8c)]⟩)] g nobody R :=
  fn_soundG (c := cfg19) TTok FNSok mixed Tryd.func19 (show Tryd.f19.body = some c19 by kernel_rfl) (show Tryd.f19.ntmps = 31 by kernel_rfl) (show Tryd.f19.results.toList = [.tmp 4] by kernel_rfl) rfl ((F19_eq a0 a1 a2 a3 a4 a5 a6a a6l a6c a7a a7l a7c a8a a8l a8c b0 b1 b2 b3 b4 b5 b6a b6l b6c b7a b7l b7c b8a b8l b8c g R ).mpr hF)

/- 20 pilaster/pilasterref44.Value -/
/- 21 pilaster/pilasterlaw44.LambdaValues$1 -/
/- 22 pilaster/pilasterref44.SameValue -/
noncomputable def c22 : Code := match Tryd.f22.body with
  | some c => c
  | none => .skip
noncomputable def cfg22 : Cfg := ⟨Tryd.prog, TT, FNS, [2, 3], [(2, 2), (3, 3), (7, 2), (9, 3), (13, 2), (15, 3), (20, 2), (22, 3), (27, 2), (30, 3), (36, 2), (39, 3), (45, 2), (51, 2), (56, 3), (63, 2), (69, 2), (74, 3)], [], TCH, false, false, none, PNF, false⟩
def an22 : AnnG := (.seq .leaf (.join ⟨[], [], []⟩ (.seq .leaf (.cond (.seq .leaf .leaf) .leaf)) (.seq (.seq .leaf (.blk (.loop ⟨[(5, .int .i64)], [], []⟩ (.seq (.seq .leaf (.cond .leaf .leaf)) (.seq (.blk (.seq (.tree 10 (.quiet 0 (.quiet 1 (.quiet 2 (.quiet 3 (.quiet 4 (.quiet 5 (.quiet 6 (.quiet 7 (.quiet 8 (.quiet 9 .fin))))))))))) (.cond (.seq .leaf .leaf) .leaf))) .leaf))))) (.seq (.seq .leaf (.blk (.loop ⟨[(6, .int .i64)], [], []⟩ (.seq (.seq .leaf (.cond .leaf .leaf)) (.seq (.blk (.seq (.tree 10 (.quiet 0 (.quiet 1 (.quiet 2 (.quiet 3 (.quiet 4 (.quiet 5 (.quiet 6 (.quiet 7 (.quiet 8 (.quiet 9 .fin))))))))))) (.cond (.seq .leaf .leaf) .leaf))) .leaf))))) (.seq .leaf .leaf)))))
def F22 (a0 : Int) (a1 : Int) (a2 : ByteArray) (a3a : Option Addr) (a3l : Nat) (a3c : Nat) (a4a : Option Addr) (a4l : Nat) (a4c : Nat) (b0 : Int) (b1 : Int) (b2 : ByteArray) (b3a : Option Addr) (b3l : Nat) (b3c : Nat) (b4a : Option Addr) (b4l : Nat) (b4c : Nat) (g : G) (R : Value → G → Prop) : Prop :=
  ∀ J : G → Prop,
  (∀ g1 : G, (∃ Inv : Nat → Int → G → Prop, ((∃ m0 : Nat, Inv m0 (0 : Int) g1)) ∧
  ∀ m : Nat, ∀ i : Int, ∀ g2 : G, Le g1 g2 → Inv m i g2 →
  ifB (ltI i ((a3l : Nat) : Int))
  (∀ g3 : G, Ex g2 g3 →
  (0 ≤ i ∧ i < ((a3l : Nat) : Int)) ∧ derefP a3a fun ad => ∃ x : ByteArray, g3.w.cell? (Addr.add ad (Int.toNat i * 1)) = some (.string x) ∧ (0 ≤ i ∧ i < ((b3l : Nat) : Int)) ∧ derefP b3a fun ad_1 => ∃ x_1 : ByteArray, g3.w.cell? (Addr.add ad_1 (Int.toNat i * 1)) = some (.string x_1) ∧ ifB (!strEq x x_1)
  (∀ g4 : G, Ex g3 g4 →
  R (.bool false) g4)
  (InI64 (i + (1 : Int)) ∧ (∃ m_1 : Nat, m_1 < m ∧ Inv m_1 (i + (1 : Int)) g3)))
  (∃ Inv_1 : Nat → Int → G → Prop, ((∃ m0 : Nat, Inv_1 m0 (0 : Int) g2)) ∧
  ∀ m_2 : Nat, ∀ i_1 : Int, ∀ g5 : G, Le g2 g5 → Inv_1 m_2 i_1 g5 →
  ifB (ltI i_1 ((a4l : Nat) : Int))
  (∀ g6 : G, Ex g5 g6 →
  (0 ≤ i_1 ∧ i_1 < ((a4l : Nat) : Int)) ∧ derefP a4a fun ad_2 => ∃ x0 : Int, ∃ x1 : Int, ∃ x2 : ByteArray, ∃ x3a : Option Addr, ∃ x3l : Nat, ∃ x3c : Nat, ∃ x4a : Option Addr, ∃ x4l : Nat, ∃ x4c : Nat, g6.w.cell? (Addr.add ad_2 (Int.toNat i_1 * 5)) = some (.int .i64 x0) ∧ g6.w.cell? (Addr.add (Addr.add ad_2 (Int.toNat i_1 * 5)) 1) = some (.int .i64 x1) ∧ g6.w.cell? (Addr.add (Addr.add ad_2 (Int.toNat i_1 * 5)) 2) = some (.string x2) ∧ g6.w.cell? (Addr.add (Addr.add ad_2 (Int.toNat i_1 * 5)) 3) = some (.slice x3a x3l x3c) ∧ g6.w.cell? (Addr.add (Addr.add ad_2 (Int.toNat i_1 * 5)) 4) = some (.slice x4a x4l x4c) ∧ (0 ≤ i_1 ∧ i_1 < ((b4l : Nat) : Int)) ∧ derefP b4a fun ad_3 => ∃ x0_1 : Int, ∃ x1_1 : Int, ∃ x2_1 : ByteArray, ∃ x3a_1 : Option Addr, ∃ x3l_1 : Nat, ∃ x3c_1 : Nat, ∃ x4a_1 : Option Addr, ∃ x4l_1 : Nat, ∃ x4c_1 : Nat, g6.w.cell? (Addr.add ad_3 (Int.toNat i_1 * 5)) = some (.int .i64 x0_1) ∧ g6.w.cell? (Addr.add (Addr.add ad_3 (Int.toNat i_1 * 5)) 1) = some (.int .i64 x1_1) ∧ g6.w.cell? (Addr.add (Addr.add ad_3 (Int.toNat i_1 * 5)) 2) = some (.string x2_1) ∧ g6.w.cell? (Addr.add (Addr.add ad_3 (Int.toNat i_1 * 5)) 3) = some (.slice x3a_1 x3l_1 x3c_1) ∧ g6.w.cell? (Addr.add (Addr.add ad_3 (Int.toNat i_1 * 5)) 4) = some (.slice x4a_1 x4l_1 x4c_1) ∧ (CallsP Tryd.prog 22 #[(.agg ⟨[(.int .i64 x0), (.int .i64 x1), (.string x2), (.slice x3a x3l x3c), (.slice x4a x4l x4c)]⟩), (.agg ⟨[(.int .i64 x0_1), (.int .i64 x1_1), (.string x2_1), (.slice x3a_1 x3l_1 x3c_1), (.slice x4a_1 x4l_1 x4c_1)]⟩)] g6 fun v g7 =>
  ∃ x_2 : Bool, v = (.bool x_2) ∧ ifB (!x_2)
  (∀ g8 : G, Ex g7 g8 →
  R (.bool false) g8)
  (InI64 (i_1 + (1 : Int)) ∧ (∃ m_3 : Nat, m_3 < m_2 ∧ Inv_1 m_3 (i_1 + (1 : Int)) g7))))
  (∀ g9 : G, Ex g5 g9 →
  R (.bool true) g9))) → J g1) →
  ifB (!eqI a0 b0)
  (∀ g10 : G, Ex g g10 →
  R (.bool false) g10)
  (ifB (!eqI a1 b1)
  (∀ g11 : G, Ex g g11 →
  R (.bool false) g11)
  (ifB (!strEq a2 b2)
  (∀ g12 : G, Ex g g12 →
  R (.bool false) g12)
  (ifB (!eqI ((a4l : Nat) : Int) ((b4l : Nat) : Int))
  (∀ g13 : G, Ex g g13 →
  R (.bool false) g13)
  (ifB (!eqI ((a3l : Nat) : Int) ((b3l : Nat) : Int))
  (∀ g14 : G, Ex g g14 →
  R (.bool false) g14)
  (∀ g15 : G, Ex g g15 →
  J g15)))))
theorem F22_eq (a0 : Int) (a1 : Int) (a2 : ByteArray) (a3a : Option Addr) (a3l : Nat) (a3c : Nat) (a4a : Option Addr) (a4l : Nat) (a4c : Nat) (b0 : Int) (b1 : Int) (b2 : ByteArray) (b3a : Option Addr) (b3l : Nat) (b3c : Nat) (b4a : Option Addr) (b4l : Nat) (b4c : Nat) (g : G) (R : Value → G → Prop) : fnG cfg22 81 [.tmp 4] c22 an22 [(.agg ⟨[(.int .i64 a0), (.int .i64 a1), (.string a2), (.slice a3a a3l a3c), (.slice a4a a4l a4c)]⟩), (.agg ⟨[(.int .i64 b0), (.int .i64 b1), (.string b2), (.slice b3a b3l b3c), (.slice b4a b4l b4c)]⟩)] g nobody R = F22 a0 a1 a2 a3a a3l a3c a4a a4l a4c b0 b1 b2 b3a b3l b3c b4a b4l b4c g R := by kernel_rfl
theorem call22 (a0 : Int) (a1 : Int) (a2 : ByteArray) (a3a : Option Addr) (a3l : Nat) (a3c : Nat) (a4a : Option Addr) (a4l : Nat) (a4c : Nat) (b0 : Int) (b1 : Int) (b2 : ByteArray) (b3a : Option Addr) (b3l : Nat) (b3c : Nat) (b4a : Option Addr) (b4l : Nat) (b4c : Nat) (g : G) (R : Value → G → Prop) (hF : F22 a0 a1 a2 a3a a3l a3c a4a a4l a4c b0 b1 b2 b3a b3l b3c b4a b4l b4c g R) : CallsG Tryd.prog 22 #[(.agg ⟨[(.int .i64 a0), (.int .i64 a1), (.string a2), (.slice a3a a3l a3c), (.slice a4a a4l a4c)]⟩), (.agg ⟨[(.int .i64 b0), (.int .i64 b1), (.string b2), (.slice b3a b3l b3c), (.slice b4a b4l b4c)]⟩)] g nobody R :=
  fn_soundG (c := cfg22) TTok FNSok mixed Tryd.func22 (show Tryd.f22.body = some c22 by kernel_rfl) (show Tryd.f22.ntmps = 81 by kernel_rfl) (show Tryd.f22.results.toList = [.tmp 4] by kernel_rfl) rfl ((F22_eq a0 a1 a2 a3a a3l a3c a4a a4l a4c b0 b1 b2 b3a b3l b3c b4a b4l b4c g R ).mpr hF)

/- 23 pilaster/lambda.Size -/
/- 24 pilaster/lambda.Free -/
noncomputable def c24 : Code := match Tryd.f24.body with
  | some c => c
  | none => .skip
noncomputable def cfg24 : Cfg := ⟨Tryd.prog, TT, FNS, [1], [(1, 1), (1000015, 72)], [], TCH, false, false, none, PNF, false⟩
def an24 : AnnG := (.seq .leaf (.seq (.seq .leaf (.cond (.seq .leaf .leaf) .leaf)) (.seq .leaf (.seq .leaf (.seq .leaf (.seq (.seq .leaf (.blk (.loop ⟨[(5, .sl)], [], []⟩ (.seq .leaf (.seq (.cond .leaf .leaf) (.blk (.seq .leaf .leaf))))))) (.seq .leaf (.seq .leaf .leaf))))))))
def F24 (x0 : Int) (x1 : Int) (x2 : ByteArray) (x3a : Option Addr) (x3l : Nat) (x3c : Nat) (g : G) (R : Value → G → Prop) : Prop :=
  ∀ g1 : G, Ex g g1 →
  (CallsP Tryd.prog 27 #[(.agg ⟨[(.int .i64 x0), (.int .i64 x1), (.string x2), (.slice x3a x3l x3c)]⟩)] g1 fun v g2 =>
  ∃ x : Bool, v = (.bool x) ∧ ifB (!x)
  (∀ g3 : G, Ex g2 g3 →
  R (.tuple ⟨[(.slice none 0 0), (.int .i64 (1 : Int))]⟩) g3)
  (∀ g4 : G, NewM g2 g4 →
  (CallsP Tryd.prog 41 #[(.map (some g2.w.heap.size)), (.agg ⟨[(.int .i64 x0), (.int .i64 x1), (.string x2), (.slice x3a x3l x3c)]⟩), (.int .i64 (0 : Int))] g4 fun v g5 =>
  v = (.tuple ⟨[]⟩) ∧ ∃ x_1 : Option Addr, ∃ wo1 : World, Sem.run Tryd.prog (Instr.range 72 (.map (some g2.w.heap.size))) g5.w = .ok (.pointer x_1) wo1 ∧ ∃ g6 : G, g6.w = wo1 ∧ Stp g.w.heap.size nobody g5 g6 ∧ ∃ Inv : Nat → Option Addr → Nat → Nat → G → Prop, ((∃ m0 : Nat, Inv m0 none 0 0 g6)) ∧
  ∀ m : Nat, ∀ outa : Option Addr, ∀ outl : Nat, ∀ outc : Nat, ∀ g7 : G, Le g6 g7 → Inv m outa outl outc g7 →
  (∃ wo2 : World, Sem.run Tryd.prog (Instr.next (.pointer x_1) false 0) g7.w = .ok (.tuple ⟨[(.bool false)]⟩) wo2 ∧ ∃ g8 : G, g8.w = wo2 ∧ Stp g.w.heap.size nobody g7 g8 ∧ (CallsP Tryd.prog 42 #[(.slice outa outl outc)] g8 fun v g9 =>
  v = (.tuple ⟨[]⟩) ∧ ∀ g10 : G, Ex g9 g10 →
  R (.tuple ⟨[(.slice outa outl outc), (.int .i64 (0 : Int))]⟩) g10)) ∨
  (∃ x0_1 : Bool, ∃ x1_1 : Int, ∃ x2_1 : Bool, ∃ wo3 : World, Sem.run Tryd.prog (Instr.next (.pointer x_1) false 0) g7.w = .ok (.tuple ⟨[(.bool x0_1), (.int .i64 x1_1), (.bool x2_1)]⟩) wo3 ∧ ∃ g11 : G, g11.w = wo3 ∧ Stp g.w.heap.size nobody g7 g11 ∧ ifB x0_1
  (∃ x0_2 : Int, ∃ x1_2 : Bool, ∃ wo4 : World, Sem.run Tryd.prog (Instr.entry (.pointer x_1)) g11.w = .ok (.tuple ⟨[(.int .i64 x0_2), (.bool x1_2)]⟩) wo4 ∧ ∃ g12 : G, g12.w = wo4 ∧ Stp g.w.heap.size nobody g11 g12 ∧ ∀ g13 : G, NewL g12 g13 3 [(.int .i64 x0_2)] →
  ∃ outa_1 : Option Addr, ∃ outl_1 : Nat, ∃ outc_1 : Nat, ∃ wo5 : World, Sem.run Tryd.prog (Builtin.append_ #[36, 36] 36 #[(.slice outa outl outc), (.slice (some ⟨g12.w.heap.size, 0, none⟩) 1 1)]) g13.w = .ok (.slice outa_1 outl_1 outc_1) wo5 ∧ ∃ g14 : G, g14.w = wo5 ∧ Stp g.w.heap.size nobody g13 g14 ∧ (∃ m_1 : Nat, m_1 < m ∧ Inv m_1 outa_1 outl_1 outc_1 g14))
  ((CallsP Tryd.prog 42 #[(.slice outa outl outc)] g11 fun v g15 =>
  v = (.tuple ⟨[]⟩) ∧ ∀ g16 : G, Ex g15 g16 →
  R (.tuple ⟨[(.slice outa outl outc), (.int .i64 (0 : Int))]⟩) g16))))))
theorem F24_eq (x0 : Int) (x1 : Int) (x2 : ByteArray) (x3a : Option Addr) (x3l : Nat) (x3c : Nat) (g : G) (R : Value → G → Prop) : fnG cfg24 27 [.tmp 2, .tmp 3] c24 an24 [(.agg ⟨[(.int .i64 x0), (.int .i64 x1), (.string x2), (.slice x3a x3l x3c)]⟩)] g nobody R = F24 x0 x1 x2 x3a x3l x3c g R := by kernel_rfl
theorem call24 (x0 : Int) (x1 : Int) (x2 : ByteArray) (x3a : Option Addr) (x3l : Nat) (x3c : Nat) (g : G) (R : Value → G → Prop) (hF : F24 x0 x1 x2 x3a x3l x3c g R) : CallsG Tryd.prog 24 #[(.agg ⟨[(.int .i64 x0), (.int .i64 x1), (.string x2), (.slice x3a x3l x3c)]⟩)] g nobody R :=
  fn_soundG (c := cfg24) TTok FNSok mixed Tryd.func24 (show Tryd.f24.body = some c24 by kernel_rfl) (show Tryd.f24.ntmps = 27 by kernel_rfl) (show Tryd.f24.results.toList = [.tmp 2, .tmp 3] by kernel_rfl) rfl ((F24_eq x0 x1 x2 x3a x3l x3c g R ).mpr hF)

/- 25 slices.IsSorted[[]int,int] -/
/- 26 slices.Equal[[]int,int] -/
/- 27 pilaster/lambda.Valid -/
noncomputable def c27 : Code := match Tryd.f27.body with
  | some c => c
  | none => .skip
noncomputable def cfg27 : Cfg := ⟨Tryd.prog, TT, FNS, [1], [(1, 1)], [], TCH, false, false, none, PNF, false⟩
def an27 : AnnG := (.seq .leaf (.seq .leaf (.seq .leaf .leaf)))
def F27 (x0 : Int) (x1 : Int) (x2 : ByteArray) (x3a : Option Addr) (x3l : Nat) (x3c : Nat) (g : G) (R : Value → G → Prop) : Prop :=
  ∀ g1 : G, Ex g g1 →
  (CallsP Tryd.prog 40 #[(.agg ⟨[(.int .i64 x0), (.int .i64 x1), (.string x2), (.slice x3a x3l x3c)]⟩), (.int .i64 (20000 : Int)), (.int .i64 (1 : Int))] g1 fun v g2 =>
  ∃ x0_1 : Int, ∃ x1_1 : Bool, v = (.tuple ⟨[(.int .i64 x0_1), (.bool x1_1)]⟩) ∧ ∀ g3 : G, Ex g2 g3 →
  R (.bool x1_1) g3)
theorem F27_eq (x0 : Int) (x1 : Int) (x2 : ByteArray) (x3a : Option Addr) (x3l : Nat) (x3c : Nat) (g : G) (R : Value → G → Prop) : fnG cfg27 11 [.tmp 2] c27 an27 [(.agg ⟨[(.int .i64 x0), (.int .i64 x1), (.string x2), (.slice x3a x3l x3c)]⟩)] g nobody R = F27 x0 x1 x2 x3a x3l x3c g R := by kernel_rfl
theorem call27 (x0 : Int) (x1 : Int) (x2 : ByteArray) (x3a : Option Addr) (x3l : Nat) (x3c : Nat) (g : G) (R : Value → G → Prop) (hF : F27 x0 x1 x2 x3a x3l x3c g R) : CallsG Tryd.prog 27 #[(.agg ⟨[(.int .i64 x0), (.int .i64 x1), (.string x2), (.slice x3a x3l x3c)]⟩)] g nobody R :=
  fn_soundG (c := cfg27) TTok FNSok mixed Tryd.func27 (show Tryd.f27.body = some c27 by kernel_rfl) (show Tryd.f27.ntmps = 11 by kernel_rfl) (show Tryd.f27.results.toList = [.tmp 2] by kernel_rfl) rfl ((F27_eq x0 x1 x2 x3a x3l x3c g R ).mpr hF)

/- 28 pilaster/lambda.Equal -/
/- 29 pilaster/pilasterref44.Same -/
/- 30 pilaster/lambda.Value -/
/- 31 pilaster/pilasterref44.Size -/
/- 32 pilaster/pilasterlaw44.big$1 -/
noncomputable def c32 : Code := match Tryd.f32.body with
  | some c => c
  | none => .skip
noncomputable def cfg32 : Cfg := ⟨Tryd.prog, TT, FNS, [4], [(4, 4), (12, 4), (18, 4), (23, 4), (30, 4), (36, 4), (47, 4)], [], TCH, false, false, none, PNF, false⟩
def an32 : AnnG := (.seq .leaf (.seq .leaf (.join ⟨[], [], []⟩ (.seq .leaf (.cond .leaf .leaf)) (.seq .leaf (.blk (.loop ⟨[(6, .int .i64)], [], []⟩ (.join ⟨[], [], []⟩ (.seq .leaf (.cond .leaf .leaf)) (.seq (.blk (.tree 8 (.quiet 0 (.quiet 1 (.quiet 2 (.quiet 3 (.quiet 4 (.quiet 5 (.quiet 6 (.quiet 7 .fin)))))))))) .leaf))))))))
def F32 (x0 : Int) (x1 : Int) (x2 : ByteArray) (x3a : Option Addr) (x3l : Nat) (x3c : Nat) (depth : Int) (c0 : Option Addr) (c1 : Option Addr) (g : G) (R : Value → G → Prop) : Prop :=
  ∀ g1 : G, Ex g g1 →
  derefP c0 fun ad => ∃ x : Int, g1.w.cell? ad = some (.int .i64 x) ∧ InI64 (x + (1 : Int)) ∧ derefP c0 fun ad_1 => stOk g1.w ad_1 1 ∧ ¬ g1.X (Addr.block ad_1) ∧ mutAt g1 ad_1 1 ∧ ((Addr.block ad_1) < g.w.heap.size → nobody (Addr.block ad_1)) ∧ ∀ g2 : G, StG false g1 ad_1 [(.int .i64 (x + (1 : Int)))] g2 →
  ∀ J : G → Prop,
  (∀ g3 : G, (∃ Inv : Nat → Int → G → Prop, ((∃ m0 : Nat, Inv m0 (0 : Int) g3)) ∧
  ∀ m : Nat, ∀ i : Int, ∀ g4 : G, Le g3 g4 → Inv m i g4 →
  ∀ J_1 : G → Prop,
  (∀ g5 : G, (∀ g6 : G, Ex g5 g6 →
  derefP c1 fun ad_2 => ∃ xf : FuncId, ∃ xc : Array Value, g6.w.cell? ad_2 = some (.func (.func xf) #[] xc) ∧ (0 ≤ i ∧ i < ((x3l : Nat) : Int)) ∧ derefP x3a fun ad_3 => ∃ x0_1 : Int, ∃ x1_1 : Int, ∃ x2_1 : ByteArray, ∃ x3a_1 : Option Addr, ∃ x3l_1 : Nat, ∃ x3c_1 : Nat, g6.w.cell? (Addr.add ad_3 (Int.toNat i * 4)) = some (.int .i64 x0_1) ∧ g6.w.cell? (Addr.add (Addr.add ad_3 (Int.toNat i * 4)) 1) = some (.int .i64 x1_1) ∧ g6.w.cell? (Addr.add (Addr.add ad_3 (Int.toNat i * 4)) 2) = some (.string x2_1) ∧ g6.w.cell? (Addr.add (Addr.add ad_3 (Int.toNat i * 4)) 3) = some (.slice x3a_1 x3l_1 x3c_1) ∧ InI64 (depth + (1 : Int)) ∧ Enters Tryd.prog xf ∧ (CallsP Tryd.prog xf ((⟨[(.agg ⟨[(.int .i64 x0_1), (.int .i64 x1_1), (.string x2_1), (.slice x3a_1 x3l_1 x3c_1)]⟩), (.int .i64 (depth + (1 : Int)))]⟩ : Array Value) ++ xc) g6 fun v g7 =>
  v = (.tuple ⟨[]⟩) ∧ InI64 (i + (1 : Int)) ∧ (∃ m_1 : Nat, m_1 < m ∧ Inv m_1 (i + (1 : Int)) g7))) → J_1 g5) →
  ifB (ltI i ((x3l : Nat) : Int))
  (derefP c0 fun ad_4 => ∃ x_1 : Int, g4.w.cell? ad_4 = some (.int .i64 x_1) ∧ ifB (leI x_1 (200 : Int))
  (J_1 g4)
  (∀ g8 : G, Ex g4 g8 →
  R (.tuple ⟨[]⟩) g8))
  (∀ g9 : G, Ex g4 g9 →
  R (.tuple ⟨[]⟩) g9)) → J g3) →
  ifB (ltI (60 : Int) depth)
  (derefP c0 fun ad_5 => stOk g2.w ad_5 1 ∧ ¬ g2.X (Addr.block ad_5) ∧ mutAt g2 ad_5 1 ∧ ((Addr.block ad_5) < g.w.heap.size → nobody (Addr.block ad_5)) ∧ ∀ g10 : G, StG false g2 ad_5 [(.int .i64 (1000 : Int))] g10 →
  J g10)
  (ifB (ltI (50 : Int) ((x3l : Nat) : Int))
  (derefP c0 fun ad_6 => stOk g2.w ad_6 1 ∧ ¬ g2.X (Addr.block ad_6) ∧ mutAt g2 ad_6 1 ∧ ((Addr.block ad_6) < g.w.heap.size → nobody (Addr.block ad_6)) ∧ ∀ g11 : G, StG false g2 ad_6 [(.int .i64 (1000 : Int))] g11 →
  J g11)
  (ifB (ltI (1000 : Int) ((x2.size : Nat) : Int))
  (ifB (leI ((x2.size : Nat) : Int) (16384 : Int))
  (derefP c0 fun ad_7 => stOk g2.w ad_7 1 ∧ ¬ g2.X (Addr.block ad_7) ∧ mutAt g2 ad_7 1 ∧ ((Addr.block ad_7) < g.w.heap.size → nobody (Addr.block ad_7)) ∧ ∀ g12 : G, StG false g2 ad_7 [(.int .i64 (1000 : Int))] g12 →
  J g12)
  (ifB (ltI (20000 : Int) ((x2.size : Nat) : Int))
  (derefP c0 fun ad_8 => stOk g2.w ad_8 1 ∧ ¬ g2.X (Addr.block ad_8) ∧ mutAt g2 ad_8 1 ∧ ((Addr.block ad_8) < g.w.heap.size → nobody (Addr.block ad_8)) ∧ ∀ g13 : G, StG false g2 ad_8 [(.int .i64 (1000 : Int))] g13 →
  J g13)
  (J g2)))
  (ifB (ltI (20000 : Int) ((x2.size : Nat) : Int))
  (derefP c0 fun ad_9 => stOk g2.w ad_9 1 ∧ ¬ g2.X (Addr.block ad_9) ∧ mutAt g2 ad_9 1 ∧ ((Addr.block ad_9) < g.w.heap.size → nobody (Addr.block ad_9)) ∧ ∀ g14 : G, StG false g2 ad_9 [(.int .i64 (1000 : Int))] g14 →
  J g14)
  (J g2))))
theorem F32_eq (x0 : Int) (x1 : Int) (x2 : ByteArray) (x3a : Option Addr) (x3l : Nat) (x3c : Nat) (depth : Int) (c0 : Option Addr) (c1 : Option Addr) (g : G) (R : Value → G → Prop) : fnG cfg32 55 [] c32 an32 [(.agg ⟨[(.int .i64 x0), (.int .i64 x1), (.string x2), (.slice x3a x3l x3c)]⟩), (.int .i64 depth), (.pointer c0), (.pointer c1)] g nobody R = F32 x0 x1 x2 x3a x3l x3c depth c0 c1 g R := by kernel_rfl
theorem call32 (x0 : Int) (x1 : Int) (x2 : ByteArray) (x3a : Option Addr) (x3l : Nat) (x3c : Nat) (depth : Int) (c0 : Option Addr) (c1 : Option Addr) (g : G) (R : Value → G → Prop) (hF : F32 x0 x1 x2 x3a x3l x3c depth c0 c1 g R) : CallsG Tryd.prog 32 #[(.agg ⟨[(.int .i64 x0), (.int .i64 x1), (.string x2), (.slice x3a x3l x3c)]⟩), (.int .i64 depth), (.pointer c0), (.pointer c1)] g nobody R :=
  fn_soundG (c := cfg32) TTok FNSok mixed Tryd.func32 (show Tryd.f32.body = some c32 by kernel_rfl) (show Tryd.f32.ntmps = 55 by kernel_rfl) (show Tryd.f32.results.toList = [] by kernel_rfl) rfl ((F32_eq x0 x1 x2 x3a x3l x3c depth c0 c1 g R ).mpr hF)

/- 33 pilaster/lambda.closed -/
noncomputable def c33 : Code := match Tryd.f33.body with
  | some c => c
  | none => .skip
noncomputable def cfg33 : Cfg := ⟨Tryd.prog, TT, FNS, [1], [(1, 1)], [], TCH, false, false, none, PNF, false⟩
def an33 : AnnG := (.seq .leaf (.seq .leaf (.seq .leaf .leaf)))
def F33 (x0 : Int) (x1 : Int) (x2 : ByteArray) (x3a : Option Addr) (x3l : Nat) (x3c : Nat) (g : G) (R : Value → G → Prop) : Prop :=
  ∀ g1 : G, Ex g g1 →
  (CallsP Tryd.prog 24 #[(.agg ⟨[(.int .i64 x0), (.int .i64 x1), (.string x2), (.slice x3a x3l x3c)]⟩)] g1 fun v g2 =>
  ∃ x0a : Option Addr, ∃ x0l : Nat, ∃ x0c : Nat, ∃ x1_1 : Int, v = (.tuple ⟨[(.slice x0a x0l x0c), (.int .i64 x1_1)]⟩) ∧ ifB (eqI x1_1 (0 : Int))
  (∀ g3 : G, Ex g2 g3 →
  R (.bool (eqI ((x0l : Nat) : Int) (0 : Int))) g3)
  (∀ g4 : G, Ex g2 g4 →
  R (.bool false) g4))
theorem F33_eq (x0 : Int) (x1 : Int) (x2 : ByteArray) (x3a : Option Addr) (x3l : Nat) (x3c : Nat) (g : G) (R : Value → G → Prop) : fnG cfg33 17 [.tmp 2] c33 an33 [(.agg ⟨[(.int .i64 x0), (.int .i64 x1), (.string x2), (.slice x3a x3l x3c)]⟩)] g nobody R = F33 x0 x1 x2 x3a x3l x3c g R := by kernel_rfl
theorem call33 (x0 : Int) (x1 : Int) (x2 : ByteArray) (x3a : Option Addr) (x3l : Nat) (x3c : Nat) (g : G) (R : Value → G → Prop) (hF : F33 x0 x1 x2 x3a x3l x3c g R) : CallsG Tryd.prog 33 #[(.agg ⟨[(.int .i64 x0), (.int .i64 x1), (.string x2), (.slice x3a x3l x3c)]⟩)] g nobody R :=
  fn_soundG (c := cfg33) TTok FNSok mixed Tryd.func33 (show Tryd.f33.body = some c33 by kernel_rfl) (show Tryd.f33.ntmps = 17 by kernel_rfl) (show Tryd.f33.results.toList = [.tmp 2] by kernel_rfl) rfl ((F33_eq x0 x1 x2 x3a x3l x3c g R ).mpr hF)

/- 35 pilaster/pilasterref44.count -/
/- 36 pilaster/pilasterref44.free -/
/- 37 pilaster/pilasterref44.run -/
/- 38 pilaster/pilasterref44.observe -/
/- 39 pilaster/pilasterref44.form -/
/- 40 pilaster/lambda.measure -/
noncomputable def c40 : Code := match Tryd.f40.body with
  | some c => c
  | none => .skip
noncomputable def cfg40 : Cfg := ⟨Tryd.prog, TT, FNS, [3, 10], [(3, 3), (10, 10), (24, 3)], [], TCH, false, false, none, PNF, false⟩
def an40 : AnnG := (.seq .leaf (.join ⟨[], [], []⟩ (.seq .leaf (.cond (.seq .leaf .leaf) .leaf)) (.seq .leaf (.seq (.seq .leaf (.blk (.loop ⟨[(8, .int .i64), (27, .int .i64)], [], []⟩ (.seq .leaf (.seq (.cond .leaf .leaf) (.seq (.blk (.seq .leaf (.seq .leaf (.seq (.seq .leaf (.cond (.seq .leaf .leaf) .leaf)) .leaf)))) .leaf)))))) (.seq .leaf .leaf)))))
def F40 (x0 : Int) (x1 : Int) (x2 : ByteArray) (x3a : Option Addr) (x3l : Nat) (x3c : Nat) (left : Int) (depth : Int) (g : G) (R : Value → G → Prop) : Prop :=
  ∀ J : G → Prop,
  (∀ g1 : G, (∃ Inv : Nat → Int → Int → G → Prop, ((∃ m0 : Nat, Inv m0 (1 : Int) (0 : Int) g1)) ∧
  ∀ m : Nat, ∀ n : Int, ∀ v_1 : Int, ∀ g2 : G, Le g1 g2 → Inv m n v_1 g2 →
  ifB (ltI v_1 ((x3l : Nat) : Int))
  ((0 ≤ v_1 ∧ v_1 < ((x3l : Nat) : Int)) ∧ derefP x3a fun ad => ∃ x0_1 : Int, ∃ x1_1 : Int, ∃ x2_1 : ByteArray, ∃ x3a_1 : Option Addr, ∃ x3l_1 : Nat, ∃ x3c_1 : Nat, g2.w.cell? (Addr.add ad (Int.toNat v_1 * 4)) = some (.int .i64 x0_1) ∧ g2.w.cell? (Addr.add (Addr.add ad (Int.toNat v_1 * 4)) 1) = some (.int .i64 x1_1) ∧ g2.w.cell? (Addr.add (Addr.add ad (Int.toNat v_1 * 4)) 2) = some (.string x2_1) ∧ g2.w.cell? (Addr.add (Addr.add ad (Int.toNat v_1 * 4)) 3) = some (.slice x3a_1 x3l_1 x3c_1) ∧ InI64 (left - n) ∧ InI64 (depth + (1 : Int)) ∧ ∀ g3 : G, Ex g2 g3 →
  (CallsP Tryd.prog 40 #[(.agg ⟨[(.int .i64 x0_1), (.int .i64 x1_1), (.string x2_1), (.slice x3a_1 x3l_1 x3c_1)]⟩), (.int .i64 (left - n)), (.int .i64 (depth + (1 : Int)))] g3 fun v g4 =>
  ∃ x0_2 : Int, ∃ x1_2 : Bool, v = (.tuple ⟨[(.int .i64 x0_2), (.bool x1_2)]⟩) ∧ ifB (!x1_2)
  (∀ g5 : G, Ex g4 g5 →
  R (.tuple ⟨[(.int .i64 (0 : Int)), (.bool false)]⟩) g5)
  (InI64 (n + x0_2) ∧ InI64 (v_1 + (1 : Int)) ∧ (∃ m_1 : Nat, m_1 < m ∧ Inv m_1 (n + x0_2) (v_1 + (1 : Int)) g4))))
  (∀ g6 : G, Ex g2 g6 →
  R (.tuple ⟨[(.int .i64 n), (.bool true)]⟩) g6)) → J g1) →
  ifB (leI left (0 : Int))
  (∀ g7 : G, Ex g g7 →
  R (.tuple ⟨[(.int .i64 (0 : Int)), (.bool false)]⟩) g7)
  (ifB (ltI (400 : Int) depth)
  (∀ g8 : G, Ex g g8 →
  R (.tuple ⟨[(.int .i64 (0 : Int)), (.bool false)]⟩) g8)
  (∀ g9 : G, Ex g g9 →
  (CallsP Tryd.prog 56 #[(.agg ⟨[(.int .i64 x0), (.int .i64 x1), (.string x2), (.slice x3a x3l x3c)]⟩)] g9 fun v g10 =>
  ∃ x : Bool, v = (.bool x) ∧ ifB (!x)
  (∀ g11 : G, Ex g10 g11 →
  R (.tuple ⟨[(.int .i64 (0 : Int)), (.bool false)]⟩) g11)
  (J g10))))
theorem F40_eq (x0 : Int) (x1 : Int) (x2 : ByteArray) (x3a : Option Addr) (x3l : Nat) (x3c : Nat) (left : Int) (depth : Int) (g : G) (R : Value → G → Prop) : fnG cfg40 48 [.tmp 6, .tmp 7] c40 an40 [(.agg ⟨[(.int .i64 x0), (.int .i64 x1), (.string x2), (.slice x3a x3l x3c)]⟩), (.int .i64 left), (.int .i64 depth)] g nobody R = F40 x0 x1 x2 x3a x3l x3c left depth g R := by kernel_rfl
theorem call40 (x0 : Int) (x1 : Int) (x2 : ByteArray) (x3a : Option Addr) (x3l : Nat) (x3c : Nat) (left : Int) (depth : Int) (g : G) (R : Value → G → Prop) (hF : F40 x0 x1 x2 x3a x3l x3c left depth g R) : CallsG Tryd.prog 40 #[(.agg ⟨[(.int .i64 x0), (.int .i64 x1), (.string x2), (.slice x3a x3l x3c)]⟩), (.int .i64 left), (.int .i64 depth)] g nobody R :=
  fn_soundG (c := cfg40) TTok FNSok mixed Tryd.func40 (show Tryd.f40.body = some c40 by kernel_rfl) (show Tryd.f40.ntmps = 48 by kernel_rfl) (show Tryd.f40.results.toList = [.tmp 6, .tmp 7] by kernel_rfl) rfl ((F40_eq x0 x1 x2 x3a x3l x3c left depth g R ).mpr hF)

/- 41 pilaster/lambda.collect -/
noncomputable def c41 : Code := match Tryd.f41.body with
  | some c => c
  | none => .skip
noncomputable def cfg41 : Cfg := ⟨Tryd.prog, TT, FNS, [4, 7], [(4, 4), (7, 7), (9, 4), (13, 4), (19, 4), (23, 4)], [], TCH, false, false, none, PNF, false⟩
def an41 : AnnG := (.seq .leaf (.join ⟨[], [], []⟩ (.seq .leaf (.cond .leaf .leaf)) (.seq .leaf (.blk (.loop ⟨[(26, .int .i64)], [], []⟩ (.seq .leaf (.seq (.cond .leaf .leaf) (.seq (.blk (.seq .leaf (.seq .leaf (.seq (.seq .leaf (.cond .leaf .leaf)) .leaf)))) .leaf))))))))
def F41 (m : Option Nat) (x0 : Int) (x1 : Int) (x2 : ByteArray) (x3a : Option Addr) (x3l : Nat) (x3c : Nat) (depth : Int) (g : G) (R : Value → G → Prop) : Prop :=
  ∀ J : G → Prop,
  (∀ g1 : G, (∃ Inv : Nat → Int → G → Prop, ((∃ m0 : Nat, Inv m0 (0 : Int) g1)) ∧
  ∀ m_1 : Nat, ∀ v_1 : Int, ∀ g2 : G, Le g1 g2 → Inv m_1 v_1 g2 →
  ifB (ltI v_1 ((x3l : Nat) : Int))
  ((0 ≤ v_1 ∧ v_1 < ((x3l : Nat) : Int)) ∧ derefP x3a fun ad => ∃ x0_1 : Int, ∃ x1_1 : Int, ∃ x2_1 : ByteArray, ∃ x3a_1 : Option Addr, ∃ x3l_1 : Nat, ∃ x3c_1 : Nat, g2.w.cell? (Addr.add ad (Int.toNat v_1 * 4)) = some (.int .i64 x0_1) ∧ g2.w.cell? (Addr.add (Addr.add ad (Int.toNat v_1 * 4)) 1) = some (.int .i64 x1_1) ∧ g2.w.cell? (Addr.add (Addr.add ad (Int.toNat v_1 * 4)) 2) = some (.string x2_1) ∧ g2.w.cell? (Addr.add (Addr.add ad (Int.toNat v_1 * 4)) 3) = some (.slice x3a_1 x3l_1 x3c_1) ∧ ∀ g3 : G, Ex g2 g3 →
  (CallsP Tryd.prog 57 #[(.agg ⟨[(.int .i64 x0), (.int .i64 x1), (.string x2), (.slice x3a x3l x3c)]⟩), (.int .i64 v_1)] g3 fun v g4 =>
  ∃ x : Bool, v = (.bool x) ∧ ifB x
  (InI64 (depth + (1 : Int)) ∧ (CallsP Tryd.prog 41 #[(.map m), (.agg ⟨[(.int .i64 x0_1), (.int .i64 x1_1), (.string x2_1), (.slice x3a_1 x3l_1 x3c_1)]⟩), (.int .i64 (depth + (1 : Int)))] g4 fun v g5 =>
  v = (.tuple ⟨[]⟩) ∧ InI64 (v_1 + (1 : Int)) ∧ (∃ m_2 : Nat, m_2 < m_1 ∧ Inv m_2 (v_1 + (1 : Int)) g5)))
  ((CallsP Tryd.prog 41 #[(.map m), (.agg ⟨[(.int .i64 x0_1), (.int .i64 x1_1), (.string x2_1), (.slice x3a_1 x3l_1 x3c_1)]⟩), (.int .i64 depth)] g4 fun v g6 =>
  v = (.tuple ⟨[]⟩) ∧ InI64 (v_1 + (1 : Int)) ∧ (∃ m_2 : Nat, m_2 < m_1 ∧ Inv m_2 (v_1 + (1 : Int)) g6)))))
  (∀ g7 : G, Ex g2 g7 →
  R (.tuple ⟨[]⟩) g7)) → J g1) →
  ifB (eqI x0 (1 : Int))
  (ifB (leI depth x1)
  (InI64 (x1 - depth) ∧ ∀ g8 : G, Ex g g8 →
  ∃ wo1 : World, Sem.run Tryd.prog (Instr.mapUpdate 72 (.map m) (.int .i64 (x1 - depth)) (.bool true)) g8.w = .ok () wo1 ∧ ∃ g9 : G, g9.w = wo1 ∧ Stp g.w.heap.size nobody g8 g9 ∧ J g9)
  (∀ g10 : G, Ex g g10 →
  J g10))
  (∀ g11 : G, Ex g g11 →
  J g11)
theorem F41_eq (m : Option Nat) (x0 : Int) (x1 : Int) (x2 : ByteArray) (x3a : Option Addr) (x3l : Nat) (x3c : Nat) (depth : Int) (g : G) (R : Value → G → Prop) : fnG cfg41 42 [] c41 an41 [(.map m), (.agg ⟨[(.int .i64 x0), (.int .i64 x1), (.string x2), (.slice x3a x3l x3c)]⟩), (.int .i64 depth)] g nobody R = F41 m x0 x1 x2 x3a x3l x3c depth g R := by kernel_rfl
theorem call41 (m : Option Nat) (x0 : Int) (x1 : Int) (x2 : ByteArray) (x3a : Option Addr) (x3l : Nat) (x3c : Nat) (depth : Int) (g : G) (R : Value → G → Prop) (hF : F41 m x0 x1 x2 x3a x3l x3c depth g R) : CallsG Tryd.prog 41 #[(.map m), (.agg ⟨[(.int .i64 x0), (.int .i64 x1), (.string x2), (.slice x3a x3l x3c)]⟩), (.int .i64 depth)] g nobody R :=
  fn_soundG (c := cfg41) TTok FNSok mixed Tryd.func41 (show Tryd.f41.body = some c41 by kernel_rfl) (show Tryd.f41.ntmps = 42 by kernel_rfl) (show Tryd.f41.results.toList = [] by kernel_rfl) rfl ((F41_eq m x0 x1 x2 x3a x3l x3c depth g R ).mpr hF)

/- 44 pilaster/lambda.equal -/
/- 45 pilaster/lambda.form -/
end Go.Proofs.YtfmjipgcbecamaaDoor
