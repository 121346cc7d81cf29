/- Printed by a program (wip/tools/gen2.py): for each function its condition as a plain formula, and that the formula gives the call. -/
import Derived.Test.YtfmjipgcbecamaaDoorProg
import Derived.Test.YtfmjipgcbecamaaDoorVda
namespace Go.Proofs.YtfmjipgcbecamaaDoor
open Go Go.Vc Go.RowKit
set_option maxRecDepth 100000
set_option linter.unusedVariables false
def TT : List TI := [
  ⟨0, .tuple #[], 1, 0, some (.tuple ⟨[]⟩), (.tup [])⟩,
  ⟨3, .int .i64, 1, 8, some (.int .i64 (0 : Int)), (.e (.one (.int .i64)))⟩,
  ⟨4, .bool, 1, 1, some (.bool false), (.e (.one (.bool)))⟩,
  ⟨9, .string, 1, 16, some (.string (bs [])), (.e (.one (.str)))⟩,
  ⟨22, .slice 24, 1, 24, some (.slice none 0 0), (.e (.one (.sl)))⟩,
  ⟨24, .struct #[{ name := "Op", type := 3, offset := 0, embedded := false, tag := "", pkgPath := "", byteOffset := 0 }, { name := "N", type := 3, offset := 1, embedded := false, tag := "", pkgPath := "", byteOffset := 8 }, { name := "S", type := 9, offset := 2, embedded := false, tag := "", pkgPath := "", byteOffset := 16 }, { name := "L", type := 22, offset := 3, embedded := false, tag := "", pkgPath := "", byteOffset := 32 }], 4, 56, some (.agg ⟨[(.int .i64 (0 : Int)), (.int .i64 (0 : Int)), (.string (bs [])), (.slice none 0 0)]⟩), (.e (.agg [(.int .i64), (.int .i64), (.str), (.sl)]))⟩,
  ⟨26, .func #[24] #[4] false, 1, 8, some .nilFunc, (.e (.one (.fn)))⟩,
  ⟨27, .slice 9, 1, 24, some (.slice none 0 0), (.e (.one (.sl)))⟩,
  ⟨28, .slice 30, 1, 24, some (.slice none 0 0), (.e (.one (.sl)))⟩,
  ⟨30, .struct #[{ name := "Op", type := 3, offset := 0, embedded := false, tag := "", pkgPath := "", byteOffset := 0 }, { name := "N", type := 3, offset := 1, embedded := false, tag := "", pkgPath := "", byteOffset := 8 }, { name := "S", type := 9, offset := 2, embedded := false, tag := "", pkgPath := "", byteOffset := 16 }, { name := "Names", type := 27, offset := 3, embedded := false, tag := "", pkgPath := "", byteOffset := 32 }, { name := "L", type := 28, offset := 4, embedded := false, tag := "", pkgPath := "", byteOffset := 56 }], 5, 80, some (.agg ⟨[(.int .i64 (0 : Int)), (.int .i64 (0 : Int)), (.string (bs [])), (.slice none 0 0), (.slice none 0 0)]⟩), (.e (.agg [(.int .i64), (.int .i64), (.str), (.sl), (.sl)]))⟩,
  ⟨32, .struct #[{ name := "Op", type := 3, offset := 0, embedded := false, tag := "", pkgPath := "", byteOffset := 0 }, { name := "N", type := 3, offset := 1, embedded := false, tag := "", pkgPath := "", byteOffset := 8 }, { name := "Steps", type := 3, offset := 2, embedded := false, tag := "", pkgPath := "", byteOffset := 16 }, { name := "V", type := 30, offset := 3, embedded := false, tag := "", pkgPath := "", byteOffset := 24 }, { name := "Out", type := 27, offset := 8, embedded := false, tag := "", pkgPath := "", byteOffset := 104 }], 9, 128, some (.agg ⟨[(.int .i64 (0 : Int)), (.int .i64 (0 : Int)), (.int .i64 (0 : Int)), (.int .i64 (0 : Int)), (.int .i64 (0 : Int)), (.string (bs [])), (.slice none 0 0), (.slice none 0 0), (.slice none 0 0)]⟩), (.e (.agg [(.int .i64), (.int .i64), (.int .i64), (.int .i64), (.int .i64), (.str), (.sl), (.sl), (.sl)]))⟩,
  ⟨33, .int .i64, 1, 8, some (.int .i64 (0 : Int)), (.e (.one (.int .i64)))⟩,
  ⟨34, .tuple #[32, 33], 1, 0, some (.tuple ⟨[(.agg ⟨[(.int .i64 (0 : Int)), (.int .i64 (0 : Int)), (.int .i64 (0 : Int)), (.int .i64 (0 : Int)), (.int .i64 (0 : Int)), (.string (bs [])), (.slice none 0 0), (.slice none 0 0), (.slice none 0 0)]⟩), (.int .i64 (0 : Int))]⟩), (.tup [(.agg [(.int .i64), (.int .i64), (.int .i64), (.int .i64), (.int .i64), (.str), (.sl), (.sl), (.sl)]), (.one (.int .i64))])⟩,
  ⟨36, .slice 3, 1, 24, some (.slice none 0 0), (.e (.one (.sl)))⟩,
  ⟨42, .int .u16, 1, 2, some (.int .u16 (0 : Int)), (.e (.one (.int .u16)))⟩,
  ⟨47, .func #[24] #[30] false, 1, 8, some .nilFunc, (.e (.one (.fn)))⟩,
  ⟨50, .tuple #[36, 33], 1, 0, some (.tuple ⟨[(.slice none 0 0), (.int .i64 (0 : Int))]⟩), (.tup [(.one (.sl)), (.one (.int .i64))])⟩,
  ⟨54, .func #[24, 24] #[4] false, 1, 8, some .nilFunc, (.e (.one (.fn)))⟩,
  ⟨55, .func #[24, 3] #[] false, 1, 8, some .nilFunc, (.e (.one (.fn)))⟩,
  ⟨56, .pointer 58, 1, 8, some (.pointer none), (.e (.one (.ptr)))⟩,
  ⟨58, .struct #[{ name := "steps", type := 3, offset := 0, embedded := false, tag := "", pkgPath := "pilaster/lambda", byteOffset := 0 }, { name := "fuel", type := 3, offset := 1, embedded := false, tag := "", pkgPath := "pilaster/lambda", byteOffset := 8 }, { name := "out", type := 27, offset := 2, embedded := false, tag := "", pkgPath := "pilaster/lambda", byteOffset := 16 }, { name := "op", type := 3, offset := 3, embedded := false, tag := "", pkgPath := "pilaster/lambda", byteOffset := 40 }, { name := "n", type := 3, offset := 4, embedded := false, tag := "", pkgPath := "pilaster/lambda", byteOffset := 48 }], 5, 56, some (.agg ⟨[(.int .i64 (0 : Int)), (.int .i64 (0 : Int)), (.slice none 0 0), (.int .i64 (0 : Int)), (.int .i64 (0 : Int))]⟩), (.e (.agg [(.int .i64), (.int .i64), (.sl), (.int .i64), (.int .i64)]))⟩,
  ⟨61, .slice 63, 1, 24, some (.slice none 0 0), (.e (.one (.sl)))⟩,
  ⟨63, .struct #[{ name := "Op", type := 3, offset := 0, embedded := false, tag := "", pkgPath := "", byteOffset := 0 }, { name := "N", type := 3, offset := 1, embedded := false, tag := "", pkgPath := "", byteOffset := 8 }, { name := "S", type := 9, offset := 2, embedded := false, tag := "", pkgPath := "", byteOffset := 16 }, { name := "L", type := 61, offset := 3, embedded := false, tag := "", pkgPath := "", byteOffset := 32 }, { name := "Body", type := 24, offset := 4, embedded := false, tag := "", pkgPath := "", byteOffset := 56 }, { name := "Env", type := 61, offset := 8, embedded := false, tag := "", pkgPath := "", byteOffset := 112 }, { name := "Self", type := 4, offset := 9, embedded := false, tag := "", pkgPath := "", byteOffset := 136 }], 10, 144, some (.agg ⟨[(.int .i64 (0 : Int)), (.int .i64 (0 : Int)), (.string (bs [])), (.slice none 0 0), (.int .i64 (0 : Int)), (.int .i64 (0 : Int)), (.string (bs [])), (.slice none 0 0), (.slice none 0 0), (.bool false)]⟩), (.e (.agg [(.int .i64), (.int .i64), (.str), (.sl), (.int .i64), (.int .i64), (.str), (.sl), (.sl), (.bool)]))⟩,
  ⟨65, .struct #[{ name := "fuel", type := 3, offset := 0, embedded := false, tag := "", pkgPath := "pilaster/pilasterref44", byteOffset := 0 }, { name := "steps", type := 3, offset := 1, embedded := false, tag := "", pkgPath := "pilaster/pilasterref44", byteOffset := 8 }, { name := "out", type := 27, offset := 2, embedded := false, tag := "", pkgPath := "pilaster/pilasterref44", byteOffset := 16 }, { name := "end", type := 3, offset := 3, embedded := false, tag := "", pkgPath := "pilaster/pilasterref44", byteOffset := 40 }, { name := "code", type := 3, offset := 4, embedded := false, tag := "", pkgPath := "pilaster/pilasterref44", byteOffset := 48 }], 5, 56, some (.agg ⟨[(.int .i64 (0 : Int)), (.int .i64 (0 : Int)), (.slice none 0 0), (.int .i64 (0 : Int)), (.int .i64 (0 : Int))]⟩), (.e (.agg [(.int .i64), (.int .i64), (.sl), (.int .i64), (.int .i64)]))⟩,
  ⟨66, .tuple #[63, 65], 1, 0, some (.tuple ⟨[(.agg ⟨[(.int .i64 (0 : Int)), (.int .i64 (0 : Int)), (.string (bs [])), (.slice none 0 0), (.int .i64 (0 : Int)), (.int .i64 (0 : Int)), (.string (bs [])), (.slice none 0 0), (.slice none 0 0), (.bool false)]⟩), (.agg ⟨[(.int .i64 (0 : Int)), (.int .i64 (0 : Int)), (.slice none 0 0), (.int .i64 (0 : Int)), (.int .i64 (0 : Int))]⟩)]⟩), (.tup [(.agg [(.int .i64), (.int .i64), (.str), (.sl), (.int .i64), (.int .i64), (.str), (.sl), (.sl), (.bool)]), (.agg [(.int .i64), (.int .i64), (.sl), (.int .i64), (.int .i64)])])⟩,
  ⟨68, .tuple #[30, 3], 1, 0, some (.tuple ⟨[(.agg ⟨[(.int .i64 (0 : Int)), (.int .i64 (0 : Int)), (.string (bs [])), (.slice none 0 0), (.slice none 0 0)]⟩), (.int .i64 (0 : Int))]⟩), (.tup [(.agg [(.int .i64), (.int .i64), (.str), (.sl), (.sl)]), (.one (.int .i64))])⟩,
  ⟨70, .tuple #[3, 4], 1, 0, some (.tuple ⟨[(.int .i64 (0 : Int)), (.bool false)]⟩), (.tup [(.one (.int .i64)), (.one (.bool))])⟩,
  ⟨72, .map 3 4, 1, 8, some (.map none), (.e (.one (.map)))⟩,
  ⟨77, .struct #[], 0, 0, some (.agg ⟨[]⟩), (.e (.agg []))⟩,
  ⟨80, .pointer 100, 1, 8, some (.pointer none), (.e (.one (.ptr)))⟩,
  ⟨82, .pointer 3, 1, 8, some (.pointer none), (.e (.one (.ptr)))⟩,
  ⟨87, .tuple #[61, 65], 1, 0, some (.tuple ⟨[(.slice none 0 0), (.agg ⟨[(.int .i64 (0 : Int)), (.int .i64 (0 : Int)), (.slice none 0 0), (.int .i64 (0 : Int)), (.int .i64 (0 : Int))]⟩)]⟩), (.tup [(.one (.sl)), (.agg [(.int .i64), (.int .i64), (.sl), (.int .i64), (.int .i64)])])⟩,
  ⟨97, .slice 80, 1, 24, some (.slice none 0 0), (.e (.one (.sl)))⟩,
  ⟨98, .pointer 103, 1, 8, some (.pointer none), (.e (.one (.ptr)))⟩,
  ⟨100, .struct #[{ name := "op", type := 3, offset := 0, embedded := false, tag := "", pkgPath := "pilaster/lambda", byteOffset := 0 }, { name := "n", type := 3, offset := 1, embedded := false, tag := "", pkgPath := "pilaster/lambda", byteOffset := 8 }, { name := "s", type := 9, offset := 2, embedded := false, tag := "", pkgPath := "pilaster/lambda", byteOffset := 16 }, { name := "l", type := 97, offset := 3, embedded := false, tag := "", pkgPath := "pilaster/lambda", byteOffset := 32 }, { name := "body", type := 24, offset := 4, embedded := false, tag := "", pkgPath := "pilaster/lambda", byteOffset := 56 }, { name := "env", type := 98, offset := 8, embedded := false, tag := "", pkgPath := "pilaster/lambda", byteOffset := 112 }], 9, 120, some (.agg ⟨[(.int .i64 (0 : Int)), (.int .i64 (0 : Int)), (.string (bs [])), (.slice none 0 0), (.int .i64 (0 : Int)), (.int .i64 (0 : Int)), (.string (bs [])), (.slice none 0 0), (.pointer none)]⟩), (.e (.agg [(.int .i64), (.int .i64), (.str), (.sl), (.int .i64), (.int .i64), (.str), (.sl), (.ptr)]))⟩,
  ⟨103, .struct #[{ name := "v", type := 80, offset := 0, embedded := false, tag := "", pkgPath := "pilaster/lambda", byteOffset := 0 }, { name := "next", type := 98, offset := 1, embedded := false, tag := "", pkgPath := "pilaster/lambda", byteOffset := 8 }], 2, 16, some (.agg ⟨[(.pointer none), (.pointer none)]⟩), (.e (.agg [(.ptr), (.ptr)]))⟩]
theorem TTok : TOk Tryd.prog TT := tok_of (by kernel_rfl)
def FNS : List Nat := [9, 10, 11, 12, 13, 14, 15, 16, 17, 18, 19, 20, 22, 23, 24, 25, 26, 27, 28, 29, 30, 31, 33, 34, 35, 36, 37, 38, 39, 40, 41, 42, 43, 44, 45, 47, 48, 49, 50, 51, 52, 53, 54, 55, 56, 57, 61, 62, 64, 65, 66, 67, 68, 69, 70, 71, 72, 73, 74, 85, 86, 87, 88, 94, 95, 96, 97, 98, 100]
theorem FNSok : FOk Tryd.prog FNS := fok_of (by kernel_rfl)
theorem mixed : Tryd.prog.follows .mixedOrders = true := by kernel_rfl
def TCH : List Nat := [34, 47, 48, 64, 66, 67, 86, 87, 88, 94, 97]
def PNF : List Nat := [47, 48, 64, 66, 67, 86, 87, 88, 94, 97]

/- 3 pilaster/pilasterlaw44.LambdaRuns -/
noncomputable def c3 : Code := match Tryd.f3.body with
  | some c => c
  | none => .skip
noncomputable def cfg3 : Cfg := ⟨Tryd.prog, TT, FNS, [2, 5], [(2, 2), (5, 5)], [], TCH, false, false, none, PNF, false⟩
def an3 : AnnG := (.seq .leaf (.seq (.seq .leaf (.cond (.seq .leaf .leaf) .leaf)) (.join ⟨[], [], []⟩ (.seq .leaf (.cond (.seq .leaf .leaf) .leaf)) (.seq .leaf (.seq (.blk (.join ⟨[(25, .bool)], [], []⟩ .leaf (.cond (.seq .leaf .leaf) (.join ⟨[(41, .bool)], [], []⟩ .leaf (.cond (.seq .leaf .leaf) .leaf))))) (.seq (.tree 7 (.quiet 0 (.quiet 1 (.quiet 2 (.quiet 3 (.quiet 4 (.quiet 5 (.eff 6 .fin .fin)))))))) .leaf))))))
def F3 (x0 : Int) (x1 : Int) (x2 : ByteArray) (x3a : Option Addr) (x3l : Nat) (x3c : Nat) (fuel : Int) (g : G) (R : Value → G → Prop) : Prop :=
  ∀ g1 : G, Ex g g1 →
  (CallsP Tryd.prog 9 #[] g1 fun v g2 =>
  ∃ x : Bool, v = (.bool x) ∧ ifB (!x)
  (∀ g3 : G, Ex g2 g3 →
  R (.bool false) g3)
  (∀ J : G → Prop,
  (∀ g4 : G, ((CallsP Tryd.prog 11 #[(.agg ⟨[(.int .i64 x0), (.int .i64 x1), (.string x2), (.slice x3a x3l x3c)]⟩), (.int .i64 fuel)] g4 fun v g5 =>
  ∃ x00 : Int, ∃ x01 : Int, ∃ x02 : Int, ∃ x03 : Int, ∃ x04 : Int, ∃ x05 : ByteArray, ∃ x06a : Option Addr, ∃ x06l : Nat, ∃ x06c : Nat, ∃ x07a : Option Addr, ∃ x07l : Nat, ∃ x07c : Nat, ∃ x08a : Option Addr, ∃ x08l : Nat, ∃ x08c : Nat, ∃ x1_1 : Int, v = (.tuple ⟨[(.agg ⟨[(.int .i64 x00), (.int .i64 x01), (.int .i64 x02), (.int .i64 x03), (.int .i64 x04), (.string x05), (.slice x06a x06l x06c), (.slice x07a x07l x07c), (.slice x08a x08l x08c)]⟩), (.int .i64 x1_1)]⟩) ∧ ∀ J_1 : Bool → G → Prop,
  (∀ v_1 : Bool, ∀ g6 : G, (ifB v_1
  (ifB (eqI x1_1 (1 : Int))
  ((CallsP Tryd.prog 14 #[(.agg ⟨[(.int .i64 x00), (.int .i64 x01), (.int .i64 x02), (.int .i64 x03), (.int .i64 x04), (.string x05), (.slice x06a x06l x06c), (.slice x07a x07l x07c), (.slice x08a x08l x08c)]⟩)] g6 fun v g7 =>
  ∃ x_1 : Bool, v = (.bool x_1) ∧ ∀ g8 : G, Ex g7 g8 →
  R (.bool x_1) g8))
  (∀ g9 : G, Ex g6 g9 →
  R (.bool false) g9))
  (∀ J_2 : Bool → G → Prop,
  (∀ v_2 : Bool, ∀ g10 : G, (ifB v_2
  (ifB (eqI x1_1 (2 : Int))
  ((CallsP Tryd.prog 14 #[(.agg ⟨[(.int .i64 x00), (.int .i64 x01), (.int .i64 x02), (.int .i64 x03), (.int .i64 x04), (.string x05), (.slice x06a x06l x06c), (.slice x07a x07l x07c), (.slice x08a x08l x08c)]⟩)] g10 fun v g11 =>
  ∃ x_2 : Bool, v = (.bool x_2) ∧ ∀ g12 : G, Ex g11 g12 →
  R (.bool x_2) g12))
  (∀ g13 : G, Ex g10 g13 →
  R (.bool false) g13))
  (∀ g14 : G, Ex g10 g14 →
  ifB (eqI x1_1 (0 : Int))
  ((CallsP Tryd.prog 16 #[(.agg ⟨[(.int .i64 x0), (.int .i64 x1), (.string x2), (.slice x3a x3l x3c)]⟩), (.int .i64 fuel)] g14 fun v g15 =>
  ∃ x0_1 : Int, ∃ x1_2 : Int, ∃ x2_1 : Int, ∃ x3 : Int, ∃ x4 : Int, ∃ x5 : ByteArray, ∃ x6a : Option Addr, ∃ x6l : Nat, ∃ x6c : Nat, ∃ x7a : Option Addr, ∃ x7l : Nat, ∃ x7c : Nat, ∃ x8a : Option Addr, ∃ x8l : Nat, ∃ x8c : Nat, v = (.agg ⟨[(.int .i64 x0_1), (.int .i64 x1_2), (.int .i64 x2_1), (.int .i64 x3), (.int .i64 x4), (.string x5), (.slice x6a x6l x6c), (.slice x7a x7l x7c), (.slice x8a x8l x8c)]⟩) ∧ (CallsP Tryd.prog 15 #[(.agg ⟨[(.int .i64 x00), (.int .i64 x01), (.int .i64 x02), (.int .i64 x03), (.int .i64 x04), (.string x05), (.slice x06a x06l x06c), (.slice x07a x07l x07c), (.slice x08a x08l x08c)]⟩), (.agg ⟨[(.int .i64 x0_1), (.int .i64 x1_2), (.int .i64 x2_1), (.int .i64 x3), (.int .i64 x4), (.string x5), (.slice x6a x6l x6c), (.slice x7a x7l x7c), (.slice x8a x8l x8c)]⟩)] g15 fun v g16 =>
  ∃ x_3 : Bool, v = (.bool x_3) ∧ ∀ g17 : G, Ex g16 g17 →
  R (.bool x_3) g17)))
  (∀ g18 : G, Ex g14 g18 →
  R (.bool false) g18))) → J_2 v_2 g10) →
  ifB (ltI fuel (0 : Int))
  (J_2 true g6)
  (J_2 (ltI (1048576 : Int) fuel) g6))) → J_1 v_1 g6) →
  ∀ g19 : G, Ex g5 g19 →
  (CallsP Tryd.prog 12 #[(.agg ⟨[(.int .i64 x0), (.int .i64 x1), (.string x2), (.slice x3a x3l x3c)]⟩)] g19 fun v g20 =>
  ∃ x_4 : Bool, v = (.bool x_4) ∧ ifB (!x_4)
  (J_1 true g20)
  ((CallsP Tryd.prog 13 #[(.agg ⟨[(.int .i64 x0), (.int .i64 x1), (.string x2), (.slice x3a x3l x3c)]⟩)] g20 fun v g21 =>
  ∃ xa : Option Addr, ∃ xl : Nat, ∃ xc : Nat, v = (.slice xa xl xc) ∧ J_1 (ltI (0 : Int) ((xl : Nat) : Int)) g21))))) → J g4) →
  (CallsP Tryd.prog 10 #[(.agg ⟨[(.int .i64 x0), (.int .i64 x1), (.string x2), (.slice x3a x3l x3c)]⟩)] g2 fun v g22 =>
  ∃ x_5 : Bool, v = (.bool x_5) ∧ ifB x_5
  (∀ g23 : G, Ex g22 g23 →
  R (.bool true) g23)
  (ifB (ltI (5000 : Int) fuel)
  (ifB (leI fuel (1048576 : Int))
  (∀ g24 : G, Ex g22 g24 →
  R (.bool true) g24)
  (J g22))
  (J g22)))))
theorem F3_eq (x0 : Int) (x1 : Int) (x2 : ByteArray) (x3a : Option Addr) (x3l : Nat) (x3c : Nat) (fuel : Int) (g : G) (R : Value → G → Prop) : fnG cfg3 63 [.tmp 4] c3 an3 [(.agg ⟨[(.int .i64 x0), (.int .i64 x1), (.string x2), (.slice x3a x3l x3c)]⟩), (.int .i64 fuel)] g nobody R = F3 x0 x1 x2 x3a x3l x3c fuel g R := by kernel_rfl
theorem call3 (x0 : Int) (x1 : Int) (x2 : ByteArray) (x3a : Option Addr) (x3l : Nat) (x3c : Nat) (fuel : Int) (g : G) (R : Value → G → Prop) (hF : F3 x0 x1 x2 x3a x3l x3c fuel g R) : CallsG Tryd.prog 3 #[(.agg ⟨[(.int .i64 x0), (.int .i64 x1), (.string x2), (.slice x3a x3l x3c)]⟩), (.int .i64 fuel)] g nobody R :=
  fn_soundG (c := cfg3) TTok FNSok mixed Tryd.func3 (show Tryd.f3.body = some c3 by kernel_rfl) (show Tryd.f3.ntmps = 63 by kernel_rfl) (show Tryd.f3.results.toList = [.tmp 4] by kernel_rfl) rfl ((F3_eq x0 x1 x2 x3a x3l x3c fuel g R ).mpr hF)

/- 4 pilaster/pilasterlaw44.LambdaFuel -/
noncomputable def c4 : Code := match Tryd.f4.body with
  | some c => c
  | none => .skip
/- 5 pilaster/pilasterlaw44.LambdaLets -/
/- 6 pilaster/pilasterlaw44.LambdaValues -/
/- 7 pilaster/pilasterlaw44.LambdaFree -/
/- 8 pilaster/pilasterlaw44.LambdaForms -/
/- 9 pilaster/pilasterlaw44.awake -/
noncomputable def c9 : Code := match Tryd.f9.body with
  | some c => c
  | none => .skip
noncomputable def cfg9 : Cfg := ⟨Tryd.prog, TT, FNS, [1, 2, 4, 5], [(1, 1), (2, 2), (4, 4), (5, 5), (38, 2), (43, 2), (44, 2), (49, 2), (50, 2), (55, 2), (64, 5), (69, 5)], [], TCH, false, false, none, PNF, false⟩
def an9 : AnnG := (.seq .leaf (.seq .leaf (.seq .leaf (.seq .leaf (.join ⟨[(6, .int .i64)], [(5, 5, 0)], [(5, [(.int .i64), (.int .i64), (.int .i64), (.int .i64), (.int .i64), (.str), (.sl), (.sl), (.sl)])]⟩ (.treeP false [] 10 (.quiet 0 (.eff 1 (.eff 2 (.eff 3 (.eff 4 (.quiet 5 (.quiet 6 (.quiet 7 (.eff 8 (.eff 9 .fin .fin) .fin)))) (.eff 8 (.eff 4 (.quiet 5 (.quiet 6 (.quiet 7 (.eff 9 .fin .fin)))) .fin) .fin)) (.eff 8 (.eff 3 (.eff 4 (.quiet 5 (.quiet 6 (.quiet 7 (.eff 9 .fin .fin)))) .fin) .fin) .fin)) (.eff 8 (.eff 2 (.eff 3 (.eff 4 (.quiet 5 (.quiet 6 (.quiet 7 (.eff 9 .fin .fin)))) .fin) .fin) .fin) .fin)) (.eff 8 (.eff 1 (.eff 2 (.eff 3 (.eff 4 (.quiet 5 (.quiet 6 (.quiet 7 (.eff 9 .fin .fin)))) .fin) .fin) .fin) .fin) .fin)))) (.seq .leaf .leaf))))))
def F9 (g : G) (R : Value → G → Prop) : Prop :=
  (CallsP Tryd.prog 18 #[(.int .i64 (2 : Int)), (.int .i64 (2 : Int)), (.slice none 0 0)] g fun v g1 =>
  ∃ x0 : Int, ∃ x1 : Int, ∃ x2 : ByteArray, ∃ x3a : Option Addr, ∃ x3l : Nat, ∃ x3c : Nat, v = (.agg ⟨[(.int .i64 x0), (.int .i64 x1), (.string x2), (.slice x3a x3l x3c)]⟩) ∧ (CallsP Tryd.prog 18 #[(.int .i64 (1 : Int)), (.int .i64 (0 : Int)), (.slice none 0 0)] g1 fun v g2 =>
  ∃ x0_1 : Int, ∃ x1_1 : Int, ∃ x2_1 : ByteArray, ∃ x3a_1 : Option Addr, ∃ x3l_1 : Nat, ∃ x3c_1 : Nat, v = (.agg ⟨[(.int .i64 x0_1), (.int .i64 x1_1), (.string x2_1), (.slice x3a_1 x3l_1 x3c_1)]⟩) ∧ (CallsP Tryd.prog 18 #[(.int .i64 (1 : Int)), (.int .i64 (0 : Int)), (.slice none 0 0)] g2 fun v g3 =>
  ∃ x0_2 : Int, ∃ x1_2 : Int, ∃ x2_2 : ByteArray, ∃ x3a_2 : Option Addr, ∃ x3l_2 : Nat, ∃ x3c_2 : Nat, v = (.agg ⟨[(.int .i64 x0_2), (.int .i64 x1_2), (.string x2_2), (.slice x3a_2 x3l_2 x3c_2)]⟩) ∧ ∀ g4 : G, NewL g3 g4 24 [(.int .i64 x0_1), (.int .i64 x1_1), (.string x2_1), (.slice x3a_1 x3l_1 x3c_1), (.int .i64 x0_2), (.int .i64 x1_2), (.string x2_2), (.slice x3a_2 x3l_2 x3c_2)] →
  (CallsP Tryd.prog 18 #[(.int .i64 (12 : Int)), (.int .i64 (1 : Int)), (.slice (some ⟨g3.w.heap.size, 0, none⟩) 2 2)] g4 fun v g5 =>
  ∃ x0_3 : Int, ∃ x1_3 : Int, ∃ x2_3 : ByteArray, ∃ x3a_3 : Option Addr, ∃ x3l_3 : Nat, ∃ x3c_3 : Nat, v = (.agg ⟨[(.int .i64 x0_3), (.int .i64 x1_3), (.string x2_3), (.slice x3a_3 x3l_3 x3c_3)]⟩) ∧ ∀ g6 : G, NewL g5 g6 24 [(.int .i64 x0), (.int .i64 x1), (.string x2), (.slice x3a x3l x3c), (.int .i64 x0_3), (.int .i64 x1_3), (.string x2_3), (.slice x3a_3 x3l_3 x3c_3)] →
  (CallsP Tryd.prog 18 #[(.int .i64 (11 : Int)), (.int .i64 (0 : Int)), (.slice (some ⟨g5.w.heap.size, 0, none⟩) 2 2)] g6 fun v g7 =>
  ∃ x0_4 : Int, ∃ x1_4 : Int, ∃ x2_4 : ByteArray, ∃ x3a_4 : Option Addr, ∃ x3l_4 : Nat, ∃ x3c_4 : Nat, v = (.agg ⟨[(.int .i64 x0_4), (.int .i64 x1_4), (.string x2_4), (.slice x3a_4 x3l_4 x3c_4)]⟩) ∧ ∀ g8 : G, Ex g7 g8 →
  (CallsP Tryd.prog 11 #[(.agg ⟨[(.int .i64 x0_4), (.int .i64 x1_4), (.string x2_4), (.slice x3a_4 x3l_4 x3c_4)]⟩), (.int .i64 (100 : Int))] g8 fun v g9 =>
  ∃ x00 : Int, ∃ x01 : Int, ∃ x02 : Int, ∃ x03 : Int, ∃ x04 : Int, ∃ x05 : ByteArray, ∃ x06a : Option Addr, ∃ x06l : Nat, ∃ x06c : Nat, ∃ x07a : Option Addr, ∃ x07l : Nat, ∃ x07c : Nat, ∃ x08a : Option Addr, ∃ x08l : Nat, ∃ x08c : Nat, ∃ x1_5 : Int, v = (.tuple ⟨[(.agg ⟨[(.int .i64 x00), (.int .i64 x01), (.int .i64 x02), (.int .i64 x03), (.int .i64 x04), (.string x05), (.slice x06a x06l x06c), (.slice x07a x07l x07c), (.slice x08a x08l x08c)]⟩), (.int .i64 x1_5)]⟩) ∧ ∀ g10 : G, Ex g9 g10 →
  (CallsP Tryd.prog 18 #[(.int .i64 (1 : Int)), (.int .i64 (1 : Int)), (.slice none 0 0)] g10 fun v g11 =>
  ∃ x0_5 : Int, ∃ x1_6 : Int, ∃ x2_5 : ByteArray, ∃ x3a_5 : Option Addr, ∃ x3l_5 : Nat, ∃ x3c_5 : Nat, v = (.agg ⟨[(.int .i64 x0_5), (.int .i64 x1_6), (.string x2_5), (.slice x3a_5 x3l_5 x3c_5)]⟩) ∧ (CallsP Tryd.prog 18 #[(.int .i64 (1 : Int)), (.int .i64 (0 : Int)), (.slice none 0 0)] g11 fun v g12 =>
  ∃ x0_6 : Int, ∃ x1_7 : Int, ∃ x2_6 : ByteArray, ∃ x3a_6 : Option Addr, ∃ x3l_6 : Nat, ∃ x3c_6 : Nat, v = (.agg ⟨[(.int .i64 x0_6), (.int .i64 x1_7), (.string x2_6), (.slice x3a_6 x3l_6 x3c_6)]⟩) ∧ ∀ g13 : G, NewL g12 g13 24 [(.int .i64 x0_5), (.int .i64 x1_6), (.string x2_5), (.slice x3a_5 x3l_5 x3c_5), (.int .i64 x0_6), (.int .i64 x1_7), (.string x2_6), (.slice x3a_6 x3l_6 x3c_6)] →
  (CallsP Tryd.prog 18 #[(.int .i64 (5 : Int)), (.int .i64 (0 : Int)), (.slice (some ⟨g12.w.heap.size, 0, none⟩) 2 2)] g13 fun v g14 =>
  ∃ x0_7 : Int, ∃ x1_8 : Int, ∃ x2_7 : ByteArray, ∃ x3a_7 : Option Addr, ∃ x3l_7 : Nat, ∃ x3c_7 : Nat, v = (.agg ⟨[(.int .i64 x0_7), (.int .i64 x1_8), (.string x2_7), (.slice x3a_7 x3l_7 x3c_7)]⟩) ∧ ∀ g15 : G, NewL g14 g15 24 [(.int .i64 x0_7), (.int .i64 x1_8), (.string x2_7), (.slice x3a_7 x3l_7 x3c_7)] →
  (CallsP Tryd.prog 18 #[(.int .i64 (4 : Int)), (.int .i64 (0 : Int)), (.slice (some ⟨g14.w.heap.size, 0, none⟩) 1 1)] g15 fun v g16 =>
  ∃ x0_8 : Int, ∃ x1_9 : Int, ∃ x2_8 : ByteArray, ∃ x3a_8 : Option Addr, ∃ x3l_8 : Nat, ∃ x3c_8 : Nat, v = (.agg ⟨[(.int .i64 x0_8), (.int .i64 x1_9), (.string x2_8), (.slice x3a_8 x3l_8 x3c_8)]⟩) ∧ ∀ g17 : G, NewL g16 g17 24 [(.int .i64 x0_8), (.int .i64 x1_9), (.string x2_8), (.slice x3a_8 x3l_8 x3c_8)] →
  (CallsP Tryd.prog 18 #[(.int .i64 (10 : Int)), (.int .i64 (0 : Int)), (.slice (some ⟨g16.w.heap.size, 0, none⟩) 1 1)] g17 fun v g18 =>
  ∃ x0_9 : Int, ∃ x1_10 : Int, ∃ x2_9 : ByteArray, ∃ x3a_9 : Option Addr, ∃ x3l_9 : Nat, ∃ x3c_9 : Nat, v = (.agg ⟨[(.int .i64 x0_9), (.int .i64 x1_10), (.string x2_9), (.slice x3a_9 x3l_9 x3c_9)]⟩) ∧ ∀ J : Int → Int → Int → Int → Int → Int → ByteArray → Option Addr → Nat → Nat → Option Addr → Nat → Nat → Option Addr → Nat → Nat → G → Prop,
  (∀ f : Int, ∀ y0 : Int, ∀ y1 : Int, ∀ y2 : Int, ∀ y3 : Int, ∀ y4 : Int, ∀ y5 : ByteArray, ∀ y6a : Option Addr, ∀ y6l : Nat, ∀ y6c : Nat, ∀ y7a : Option Addr, ∀ y7l : Nat, ∀ y7c : Nat, ∀ y8a : Option Addr, ∀ y8l : Nat, ∀ y8c : Nat, ∀ g19 : G, (ifB (eqI x1_5 (0 : Int))
  (ifB (eqI x00 (1 : Int))
  (ifB (eqI x03 (1 : Int))
  (ifB (eqI x04 (4 : Int))
  (ifB (eqI x02 (5 : Int))
  (ifB (eqI f (0 : Int))
  (ifB (eqI y0 (3 : Int))
  (∀ g20 : G, Ex g19 g20 →
  R (.bool (eqI y2 (100 : Int))) g20)
  (∀ g21 : G, Ex g19 g21 →
  R (.bool false) g21))
  (∀ g22 : G, Ex g19 g22 →
  R (.bool false) g22))
  (∀ g23 : G, Ex g19 g23 →
  R (.bool false) g23))
  (∀ g24 : G, Ex g19 g24 →
  R (.bool false) g24))
  (∀ g25 : G, Ex g19 g25 →
  R (.bool false) g25))
  (∀ g26 : G, Ex g19 g26 →
  R (.bool false) g26))
  (∀ g27 : G, Ex g19 g27 →
  R (.bool false) g27)) → J f y0 y1 y2 y3 y4 y5 y6a y6l y6c y7a y7l y7c y8a y8l y8c g19) →
  ∀ g28 : G, Ex g18 g28 →
  (∀ g29 : G, Ex g28 g29 →
  (CallsP Tryd.prog 18 #[(.int .i64 (2 : Int)), (.int .i64 (0 : Int)), (.slice none 0 0)] g29 fun v g30 =>
  ∃ x0_10 : Int, ∃ x1_11 : Int, ∃ x2_10 : ByteArray, ∃ x3a_10 : Option Addr, ∃ x3l_10 : Nat, ∃ x3c_10 : Nat, v = (.agg ⟨[(.int .i64 x0_10), (.int .i64 x1_11), (.string x2_10), (.slice x3a_10 x3l_10 x3c_10)]⟩) ∧ (∀ g31 : G, Ex g30 g31 →
  ∀ g32 : G, NewL g31 g32 24 [(.int .i64 x0_9), (.int .i64 x1_10), (.string x2_9), (.slice x3a_9 x3l_9 x3c_9), (.int .i64 x0_10), (.int .i64 x1_11), (.string x2_10), (.slice x3a_10 x3l_10 x3c_10)] →
  (∀ g33 : G, Ex g32 g33 →
  (CallsP Tryd.prog 18 #[(.int .i64 (5 : Int)), (.int .i64 (0 : Int)), (.slice (some ⟨g31.w.heap.size, 0, none⟩) 2 2)] g33 fun v g34 =>
  ∃ x0_11 : Int, ∃ x1_12 : Int, ∃ x2_11 : ByteArray, ∃ x3a_11 : Option Addr, ∃ x3l_11 : Nat, ∃ x3c_11 : Nat, v = (.agg ⟨[(.int .i64 x0_11), (.int .i64 x1_12), (.string x2_11), (.slice x3a_11 x3l_11 x3c_11)]⟩) ∧ Rep 1 (∀ g35 : G, Ex g34 g35 →
  (CallsP Tryd.prog 11 #[(.agg ⟨[(.int .i64 x0_11), (.int .i64 x1_12), (.string x2_11), (.slice x3a_11 x3l_11 x3c_11)]⟩), (.int .i64 (100 : Int))] g35 fun v g36 =>
  ∃ x00_1 : Int, ∃ x01_1 : Int, ∃ x02_1 : Int, ∃ x03_1 : Int, ∃ x04_1 : Int, ∃ x05_1 : ByteArray, ∃ x06a_1 : Option Addr, ∃ x06l_1 : Nat, ∃ x06c_1 : Nat, ∃ x07a_1 : Option Addr, ∃ x07l_1 : Nat, ∃ x07c_1 : Nat, ∃ x08a_1 : Option Addr, ∃ x08l_1 : Nat, ∃ x08c_1 : Nat, ∃ x1_13 : Int, v = (.tuple ⟨[(.agg ⟨[(.int .i64 x00_1), (.int .i64 x01_1), (.int .i64 x02_1), (.int .i64 x03_1), (.int .i64 x04_1), (.string x05_1), (.slice x06a_1 x06l_1 x06c_1), (.slice x07a_1 x07l_1 x07c_1), (.slice x08a_1 x08l_1 x08c_1)]⟩), (.int .i64 x1_13)]⟩) ∧ ∀ g37 : G, Ex g36 g37 →
  J x1_13 x00_1 x01_1 x02_1 x03_1 x04_1 x05_1 x06a_1 x06l_1 x06c_1 x07a_1 x07l_1 x07c_1 x08a_1 x08l_1 x08c_1 g37)))) ∧ (∀ g41 : G, Ex g32 g41 →
  (CallsP Tryd.prog 18 #[(.int .i64 (5 : Int)), (.int .i64 (0 : Int)), (.slice (some ⟨g31.w.heap.size, 0, none⟩) 2 2)] g41 fun v g42 =>
  ∃ x0_12 : Int, ∃ x1_15 : Int, ∃ x2_12 : ByteArray, ∃ x3a_12 : Option Addr, ∃ x3l_12 : Nat, ∃ x3c_12 : Nat, v = (.agg ⟨[(.int .i64 x0_12), (.int .i64 x1_15), (.string x2_12), (.slice x3a_12 x3l_12 x3c_12)]⟩) ∧ ∀ g43 : G, Ex g42 g43 →
  (CallsP Tryd.prog 11 #[(.agg ⟨[(.int .i64 x0_12), (.int .i64 x1_15), (.string x2_12), (.slice x3a_12 x3l_12 x3c_12)]⟩), (.int .i64 (100 : Int))] g43 fun v g44 =>
  ∃ x00_3 : Int, ∃ x01_3 : Int, ∃ x02_3 : Int, ∃ x03_3 : Int, ∃ x04_3 : Int, ∃ x05_3 : ByteArray, ∃ x06a_3 : Option Addr, ∃ x06l_3 : Nat, ∃ x06c_3 : Nat, ∃ x07a_3 : Option Addr, ∃ x07l_3 : Nat, ∃ x07c_3 : Nat, ∃ x08a_3 : Option Addr, ∃ x08l_3 : Nat, ∃ x08c_3 : Nat, ∃ x1_16 : Int, v = (.tuple ⟨[(.agg ⟨[(.int .i64 x00_3), (.int .i64 x01_3), (.int .i64 x02_3), (.int .i64 x03_3), (.int .i64 x04_3), (.string x05_3), (.slice x06a_3 x06l_3 x06c_3), (.slice x07a_3 x07l_3 x07c_3), (.slice x08a_3 x08l_3 x08c_3)]⟩), (.int .i64 x1_16)]⟩) ∧ ∀ g45 : G, Ex g44 g45 →
  J x1_16 x00_3 x01_3 x02_3 x03_3 x04_3 x05_3 x06a_3 x06l_3 x06c_3 x07a_3 x07l_3 x07c_3 x08a_3 x08l_3 x08c_3 g45)))) ∧ (∀ g46 : G, Ex g30 g46 →
  ∀ g47 : G, NewL g46 g47 24 [(.int .i64 x0_9), (.int .i64 x1_10), (.string x2_9), (.slice x3a_9 x3l_9 x3c_9), (.int .i64 x0_10), (.int .i64 x1_11), (.string x2_10), (.slice x3a_10 x3l_10 x3c_10)] →
  ∀ g48 : G, Ex g47 g48 →
  (CallsP Tryd.prog 18 #[(.int .i64 (5 : Int)), (.int .i64 (0 : Int)), (.slice (some ⟨g46.w.heap.size, 0, none⟩) 2 2)] g48 fun v g49 =>
  ∃ x0_13 : Int, ∃ x1_17 : Int, ∃ x2_13 : ByteArray, ∃ x3a_13 : Option Addr, ∃ x3l_13 : Nat, ∃ x3c_13 : Nat, v = (.agg ⟨[(.int .i64 x0_13), (.int .i64 x1_17), (.string x2_13), (.slice x3a_13 x3l_13 x3c_13)]⟩) ∧ ∀ g50 : G, Ex g49 g50 →
  (CallsP Tryd.prog 11 #[(.agg ⟨[(.int .i64 x0_13), (.int .i64 x1_17), (.string x2_13), (.slice x3a_13 x3l_13 x3c_13)]⟩), (.int .i64 (100 : Int))] g50 fun v g51 =>
  ∃ x00_4 : Int, ∃ x01_4 : Int, ∃ x02_4 : Int, ∃ x03_4 : Int, ∃ x04_4 : Int, ∃ x05_4 : ByteArray, ∃ x06a_4 : Option Addr, ∃ x06l_4 : Nat, ∃ x06c_4 : Nat, ∃ x07a_4 : Option Addr, ∃ x07l_4 : Nat, ∃ x07c_4 : Nat, ∃ x08a_4 : Option Addr, ∃ x08l_4 : Nat, ∃ x08c_4 : Nat, ∃ x1_18 : Int, v = (.tuple ⟨[(.agg ⟨[(.int .i64 x00_4), (.int .i64 x01_4), (.int .i64 x02_4), (.int .i64 x03_4), (.int .i64 x04_4), (.string x05_4), (.slice x06a_4 x06l_4 x06c_4), (.slice x07a_4 x07l_4 x07c_4), (.slice x08a_4 x08l_4 x08c_4)]⟩), (.int .i64 x1_18)]⟩) ∧ ∀ g52 : G, Ex g51 g52 →
  J x1_18 x00_4 x01_4 x02_4 x03_4 x04_4 x05_4 x06a_4 x06l_4 x06c_4 x07a_4 x07l_4 x07c_4 x08a_4 x08l_4 x08c_4 g52))))) ∧ (∀ g53 : G, Ex g28 g53 →
  (CallsP Tryd.prog 18 #[(.int .i64 (2 : Int)), (.int .i64 (0 : Int)), (.slice none 0 0)] g53 fun v g54 =>
  ∃ x0_14 : Int, ∃ x1_19 : Int, ∃ x2_14 : ByteArray, ∃ x3a_14 : Option Addr, ∃ x3l_14 : Nat, ∃ x3c_14 : Nat, v = (.agg ⟨[(.int .i64 x0_14), (.int .i64 x1_19), (.string x2_14), (.slice x3a_14 x3l_14 x3c_14)]⟩) ∧ ∀ g55 : G, Ex g54 g55 →
  ∀ g56 : G, NewL g55 g56 24 [(.int .i64 x0_9), (.int .i64 x1_10), (.string x2_9), (.slice x3a_9 x3l_9 x3c_9), (.int .i64 x0_14), (.int .i64 x1_19), (.string x2_14), (.slice x3a_14 x3l_14 x3c_14)] →
  ∀ g57 : G, Ex g56 g57 →
  (CallsP Tryd.prog 18 #[(.int .i64 (5 : Int)), (.int .i64 (0 : Int)), (.slice (some ⟨g55.w.heap.size, 0, none⟩) 2 2)] g57 fun v g58 =>
  ∃ x0_15 : Int, ∃ x1_20 : Int, ∃ x2_15 : ByteArray, ∃ x3a_15 : Option Addr, ∃ x3l_15 : Nat, ∃ x3c_15 : Nat, v = (.agg ⟨[(.int .i64 x0_15), (.int .i64 x1_20), (.string x2_15), (.slice x3a_15 x3l_15 x3c_15)]⟩) ∧ ∀ g59 : G, Ex g58 g59 →
  (CallsP Tryd.prog 11 #[(.agg ⟨[(.int .i64 x0_15), (.int .i64 x1_20), (.string x2_15), (.slice x3a_15 x3l_15 x3c_15)]⟩), (.int .i64 (100 : Int))] g59 fun v g60 =>
  ∃ x00_5 : Int, ∃ x01_5 : Int, ∃ x02_5 : Int, ∃ x03_5 : Int, ∃ x04_5 : Int, ∃ x05_5 : ByteArray, ∃ x06a_5 : Option Addr, ∃ x06l_5 : Nat, ∃ x06c_5 : Nat, ∃ x07a_5 : Option Addr, ∃ x07l_5 : Nat, ∃ x07c_5 : Nat, ∃ x08a_5 : Option Addr, ∃ x08l_5 : Nat, ∃ x08c_5 : Nat, ∃ x1_21 : Int, v = (.tuple ⟨[(.agg ⟨[(.int .i64 x00_5), (.int .i64 x01_5), (.int .i64 x02_5), (.int .i64 x03_5), (.int .i64 x04_5), (.string x05_5), (.slice x06a_5 x06l_5 x06c_5), (.slice x07a_5 x07l_5 x07c_5), (.slice x08a_5 x08l_5 x08c_5)]⟩), (.int .i64 x1_21)]⟩) ∧ ∀ g61 : G, Ex g60 g61 →
  J x1_21 x00_5 x01_5 x02_5 x03_5 x04_5 x05_5 x06a_5 x06l_5 x06c_5 x07a_5 x07l_5 x07c_5 x08a_5 x08l_5 x08c_5 g61)))))))))))))))
theorem F9_eq (g : G) (R : Value → G → Prop) : fnG cfg9 73 [.tmp 0] c9 an9 [] g nobody R = F9 g R := by kernel_rfl
theorem call9 (g : G) (R : Value → G → Prop) (hF : F9 g R) : CallsG Tryd.prog 9 #[] g nobody R :=
  fn_soundG (c := cfg9) TTok FNSok mixed Tryd.func9 (show Tryd.f9.body = some c9 by kernel_rfl) (show Tryd.f9.ntmps = 73 by kernel_rfl) (show Tryd.f9.results.toList = [.tmp 0] by kernel_rfl) rfl ((F9_eq g R ).mpr hF)

/- 10 pilaster/pilasterlaw44.big -/
noncomputable def c10 : Code := match Tryd.f10.body with
  | some c => c
  | none => .skip
noncomputable def cfg10 : Cfg := ⟨Tryd.prog, TT, FNS, [1], [(1, 1)], [4], TCH, false, false, none, PNF, false⟩
def an10 : AnnG := (.seq .leaf (.seq .leaf (.seq .leaf (.seq .leaf (.seq .leaf (.seq .leaf .leaf))))))
def F10 (x0 : Int) (x1 : Int) (x2 : ByteArray) (x3a : Option Addr) (x3l : Nat) (x3c : Nat) (g : G) (R : Value → G → Prop) : Prop :=
  ∀ g1 : G, Ex g g1 →
  ∀ g2 : G, NewD g1 g2 3 [(.int .i64 (0 : Int))] →
  stOk g2.w ⟨g1.w.heap.size, 0, none⟩ 1 ∧ ¬ g2.X (Addr.block ⟨g1.w.heap.size, 0, none⟩) ∧ mutAt g2 ⟨g1.w.heap.size, 0, none⟩ 1 ∧ ((Addr.block ⟨g1.w.heap.size, 0, none⟩) < g.w.heap.size → nobody (Addr.block ⟨g1.w.heap.size, 0, none⟩)) ∧ ∀ g3 : G, StG false g2 ⟨g1.w.heap.size, 0, none⟩ [(.int .i64 (0 : Int))] g3 →
  ∀ g4 : G, NewD g3 g4 55 [.nilFunc] →
  stOk g4.w ⟨g3.w.heap.size, 0, none⟩ 1 ∧ ¬ g4.X (Addr.block ⟨g3.w.heap.size, 0, none⟩) ∧ mutAt g4 ⟨g3.w.heap.size, 0, none⟩ 1 ∧ ((Addr.block ⟨g3.w.heap.size, 0, none⟩) < g.w.heap.size → nobody (Addr.block ⟨g3.w.heap.size, 0, none⟩)) ∧ ∀ g5 : G, StG true g4 ⟨g3.w.heap.size, 0, none⟩ [(.func (.func 32) #[] ⟨[(.pointer (some ⟨g1.w.heap.size, 0, none⟩)), (.pointer (some ⟨g3.w.heap.size, 0, none⟩))]⟩)] g5 →
  ∃ walkf : FuncId, ∃ walkc : Array Value, g5.w.cell? ⟨g3.w.heap.size, 0, none⟩ = some (.func (.func walkf) #[] walkc) ∧ Enters Tryd.prog walkf ∧ (CallsP Tryd.prog walkf ((⟨[(.agg ⟨[(.int .i64 x0), (.int .i64 x1), (.string x2), (.slice x3a x3l x3c)]⟩), (.int .i64 (1 : Int))]⟩ : Array Value) ++ walkc) g5 fun v g6 =>
  v = (.tuple ⟨[]⟩) ∧ ∃ n : Int, g6.w.cell? ⟨g1.w.heap.size, 0, none⟩ = some (.int .i64 n) ∧ ∀ g7 : G, Ex g6 g7 →
  R (.bool (ltI (200 : Int) n)) g7)
theorem F10_eq (x0 : Int) (x1 : Int) (x2 : ByteArray) (x3a : Option Addr) (x3l : Nat) (x3c : Nat) (g : G) (R : Value → G → Prop) : fnG cfg10 11 [.tmp 2] c10 an10 [(.agg ⟨[(.int .i64 x0), (.int .i64 x1), (.string x2), (.slice x3a x3l x3c)]⟩)] g nobody R = F10 x0 x1 x2 x3a x3l x3c g R := by kernel_rfl
theorem call10 (x0 : Int) (x1 : Int) (x2 : ByteArray) (x3a : Option Addr) (x3l : Nat) (x3c : Nat) (g : G) (R : Value → G → Prop) (hF : F10 x0 x1 x2 x3a x3l x3c g R) : CallsG Tryd.prog 10 #[(.agg ⟨[(.int .i64 x0), (.int .i64 x1), (.string x2), (.slice x3a x3l x3c)]⟩)] g nobody R :=
  fn_soundG (c := cfg10) TTok FNSok mixed Tryd.func10 (show Tryd.f10.body = some c10 by kernel_rfl) (show Tryd.f10.ntmps = 11 by kernel_rfl) (show Tryd.f10.results.toList = [.tmp 2] by kernel_rfl) rfl ((F10_eq x0 x1 x2 x3a x3l x3c g R ).mpr hF)

/- 11 pilaster/lambda.Run -/
noncomputable def c11 : Code := match Tryd.f11.body with
  | some c => c
  | none => .skip
noncomputable def cfg11 : Cfg := ⟨Tryd.prog, TT, FNS, [2, 4, 7], [(2, 2), (4, 4), (7, 7)], [], TCH, false, false, none, PNF, false⟩
def an11 : AnnG := (.seq .leaf (.join ⟨[], [(4, 4, 0)], [(4, [(.int .i64), (.int .i64), (.int .i64), (.int .i64), (.int .i64), (.str), (.sl), (.sl), (.sl)])]⟩ (.blk (.seq .leaf (.cond (.seq .leaf .leaf) (.seq .leaf (.cond (.seq .leaf .leaf) .leaf))))) (.seq .leaf (.seq .leaf (.seq (.treeP false [4] 17 (.quiet 0 (.quiet 1 (.quiet 2 (.quiet 3 (.quiet 4 (.quiet 5 (.quiet 6 (.quiet 7 (.quiet 8 (.quiet 9 (.quiet 10 (.quiet 11 (.quiet 12 (.quiet 13 (.quiet 14 (.quiet 15 (.quiet 16 .fin)))))))))))))))))) .leaf)))))
def F11 (x0 : Int) (x1 : Int) (x2 : ByteArray) (x3a : Option Addr) (x3l : Nat) (x3c : Nat) (fuel : Int) (g : G) (R : Value → G → Prop) : Prop :=
  ∀ J : Int → Int → Int → Int → Int → ByteArray → Option Addr → Nat → Nat → Option Addr → Nat → Nat → Option Addr → Nat → Nat → G → Prop,
  (∀ x0_1 : Int, ∀ x1_1 : Int, ∀ x2_1 : Int, ∀ x3 : Int, ∀ x4 : Int, ∀ x5 : ByteArray, ∀ x6a : Option Addr, ∀ x6l : Nat, ∀ x6c : Nat, ∀ x7a : Option Addr, ∀ x7l : Nat, ∀ x7c : Nat, ∀ x8a : Option Addr, ∀ x8l : Nat, ∀ x8c : Nat, ∀ g1 : G, (∀ g2 : G, NewD g1 g2 58 ([(.int .i64 (0 : Int)), (.int .i64 fuel), (.slice none 0 0), (.int .i64 (1 : Int)), (.int .i64 (0 : Int))] : List Value) →
  ∃ M1 : Nat → Prop, (∀ b, b < g.w.heap.size → M1 b → nobody b) ∧ (CallsG Tryd.prog 34 #[(.pointer (some ⟨g1.w.heap.size, 0, none⟩)), (.agg ⟨[(.int .i64 x0), (.int .i64 x1), (.string x2), (.slice x3a x3l x3c)]⟩)] g2 M1 fun v g3 =>
  ∃ x0_2 : Int, ∃ x1_2 : Int, ∃ x2_2 : ByteArray, ∃ x3a_1 : Option Addr, ∃ x3l_1 : Nat, ∃ x3c_1 : Nat, ∃ x4a : Option Addr, ∃ x4l : Nat, ∃ x4c : Nat, v = (.agg ⟨[(.int .i64 x0_2), (.int .i64 x1_2), (.string x2_2), (.slice x3a_1 x3l_1 x3c_1), (.slice x4a x4l x4c)]⟩) ∧ ∀ g4 : G, Ex g3 g4 →
  ¬ g4.X (Addr.block (Addr.add ⟨g1.w.heap.size, 0, none⟩ 3)) ∧ ∃ x : Int, g4.w.cell? (Addr.add ⟨g1.w.heap.size, 0, none⟩ 3) = some (.int .i64 x) ∧ ¬ g4.X (Addr.block (Addr.add ⟨g1.w.heap.size, 0, none⟩ 4)) ∧ ∃ x_1 : Int, g4.w.cell? (Addr.add ⟨g1.w.heap.size, 0, none⟩ 4) = some (.int .i64 x_1) ∧ ¬ g4.X (Addr.block ⟨g1.w.heap.size, 0, none⟩) ∧ ∃ x_2 : Int, g4.w.cell? ⟨g1.w.heap.size, 0, none⟩ = some (.int .i64 x_2) ∧ ¬ g4.X (Addr.block (Addr.add ⟨g1.w.heap.size, 0, none⟩ 2)) ∧ ∃ xa : Option Addr, ∃ xl : Nat, ∃ xc : Nat, g4.w.cell? (Addr.add ⟨g1.w.heap.size, 0, none⟩ 2) = some (.slice xa xl xc) ∧ ∀ g5 : G, Ex g4 g5 →
  R (.tuple ⟨[(.agg ⟨[(.int .i64 x), (.int .i64 x_1), (.int .i64 x_2), (.int .i64 x0_2), (.int .i64 x1_2), (.string x2_2), (.slice x3a_1 x3l_1 x3c_1), (.slice x4a x4l x4c), (.slice xa xl xc)]⟩), (.int .i64 (0 : Int))]⟩) g5)) → J x0_1 x1_1 x2_1 x3 x4 x5 x6a x6l x6c x7a x7l x7c x8a x8l x8c g1) →
  ∀ g6 : G, Ex g g6 →
  (CallsP Tryd.prog 33 #[(.agg ⟨[(.int .i64 x0), (.int .i64 x1), (.string x2), (.slice x3a x3l x3c)]⟩)] g6 fun v g7 =>
  ∃ x_3 : Bool, v = (.bool x_3) ∧ ifB (!x_3)
  (∀ g8 : G, Ex g7 g8 →
  R (.tuple ⟨[(.agg ⟨[(.int .i64 (0 : Int)), (.int .i64 (0 : Int)), (.int .i64 (0 : Int)), (.int .i64 (0 : Int)), (.int .i64 (0 : Int)), (.string (bs [])), (.slice none 0 0), (.slice none 0 0), (.slice none 0 0)]⟩), (.int .i64 (1 : Int))]⟩) g8)
  (ifB (ltI fuel (0 : Int))
  (∀ g9 : G, Ex g7 g9 →
  R (.tuple ⟨[(.agg ⟨[(.int .i64 (0 : Int)), (.int .i64 (0 : Int)), (.int .i64 (0 : Int)), (.int .i64 (0 : Int)), (.int .i64 (0 : Int)), (.string (bs [])), (.slice none 0 0), (.slice none 0 0), (.slice none 0 0)]⟩), (.int .i64 (2 : Int))]⟩) g9)
  (ifB (ltI (1048576 : Int) fuel)
  (∀ g10 : G, Ex g7 g10 →
  R (.tuple ⟨[(.agg ⟨[(.int .i64 (0 : Int)), (.int .i64 (0 : Int)), (.int .i64 (0 : Int)), (.int .i64 (0 : Int)), (.int .i64 (0 : Int)), (.string (bs [])), (.slice none 0 0), (.slice none 0 0), (.slice none 0 0)]⟩), (.int .i64 (2 : Int))]⟩) g10)
  (J (0 : Int) (0 : Int) (0 : Int) (0 : Int) (0 : Int) (bs []) none 0 0 none 0 0 none 0 0 g7))))
theorem F11_eq (x0 : Int) (x1 : Int) (x2 : ByteArray) (x3a : Option Addr) (x3l : Nat) (x3c : Nat) (fuel : Int) (g : G) (R : Value → G → Prop) : fnG cfg11 45 [.cell 4 32, .tmp 5] c11 an11 [(.agg ⟨[(.int .i64 x0), (.int .i64 x1), (.string x2), (.slice x3a x3l x3c)]⟩), (.int .i64 fuel)] g nobody R = F11 x0 x1 x2 x3a x3l x3c fuel g R := by kernel_rfl
theorem call11 (x0 : Int) (x1 : Int) (x2 : ByteArray) (x3a : Option Addr) (x3l : Nat) (x3c : Nat) (fuel : Int) (g : G) (R : Value → G → Prop) (hF : F11 x0 x1 x2 x3a x3l x3c fuel g R) : CallsG Tryd.prog 11 #[(.agg ⟨[(.int .i64 x0), (.int .i64 x1), (.string x2), (.slice x3a x3l x3c)]⟩), (.int .i64 fuel)] g nobody R :=
  fn_soundG (c := cfg11) TTok FNSok mixed Tryd.func11 (show Tryd.f11.body = some c11 by kernel_rfl) (show Tryd.f11.ntmps = 45 by kernel_rfl) (show Tryd.f11.results.toList = [.cell 4 32, .tmp 5] by kernel_rfl) rfl ((F11_eq x0 x1 x2 x3a x3l x3c fuel g R ).mpr hF)

/- 12 pilaster/pilasterref44.Valid -/
noncomputable def c12 : Code := match Tryd.f12.body with
  | some c => c
  | none => .skip
noncomputable def cfg12 : Cfg := ⟨Tryd.prog, TT, FNS, [1], [(1, 1)], [], TCH, false, false, none, PNF, false⟩
def an12 : AnnG := (.seq .leaf (.seq .leaf .leaf))
def F12 (x0 : Int) (x1 : Int) (x2 : ByteArray) (x3a : Option Addr) (x3l : Nat) (x3c : Nat) (g : G) (R : Value → G → Prop) : Prop :=
  ∀ g1 : G, Ex g g1 →
  (CallsP Tryd.prog 35 #[(.agg ⟨[(.int .i64 x0), (.int .i64 x1), (.string x2), (.slice x3a x3l x3c)]⟩), (.int .i64 (20000 : Int)), (.int .i64 (400 : Int))] g1 fun v g2 =>
  ∃ x : Int, v = (.int .i64 x) ∧ ∀ g3 : G, Ex g2 g3 →
  R (.bool (leI (0 : Int) x)) g3)
theorem F12_eq (x0 : Int) (x1 : Int) (x2 : ByteArray) (x3a : Option Addr) (x3l : Nat) (x3c : Nat) (g : G) (R : Value → G → Prop) : fnG cfg12 6 [.tmp 2] c12 an12 [(.agg ⟨[(.int .i64 x0), (.int .i64 x1), (.string x2), (.slice x3a x3l x3c)]⟩)] g nobody R = F12 x0 x1 x2 x3a x3l x3c g R := by kernel_rfl
theorem call12 (x0 : Int) (x1 : Int) (x2 : ByteArray) (x3a : Option Addr) (x3l : Nat) (x3c : Nat) (g : G) (R : Value → G → Prop) (hF : F12 x0 x1 x2 x3a x3l x3c g R) : CallsG Tryd.prog 12 #[(.agg ⟨[(.int .i64 x0), (.int .i64 x1), (.string x2), (.slice x3a x3l x3c)]⟩)] g nobody R :=
  fn_soundG (c := cfg12) TTok FNSok mixed Tryd.func12 (show Tryd.f12.body = some c12 by kernel_rfl) (show Tryd.f12.ntmps = 6 by kernel_rfl) (show Tryd.f12.results.toList = [.tmp 2] by kernel_rfl) rfl ((F12_eq x0 x1 x2 x3a x3l x3c g R ).mpr hF)

/- 13 pilaster/pilasterref44.Free -/
noncomputable def c13 : Code := match Tryd.f13.body with
  | some c => c
  | none => .skip
noncomputable def cfg13 : Cfg := ⟨Tryd.prog, TT, FNS, [1], [(1, 1)], [], TCH, false, false, none, PNF, false⟩
def an13 : AnnG := (.seq .leaf (.seq .leaf .leaf))
def F13 (x0 : Int) (x1 : Int) (x2 : ByteArray) (x3a : Option Addr) (x3l : Nat) (x3c : Nat) (g : G) (R : Value → G → Prop) : Prop :=
  ∀ g1 : G, Ex g g1 →
  (CallsP Tryd.prog 36 #[(.agg ⟨[(.int .i64 x0), (.int .i64 x1), (.string x2), (.slice x3a x3l x3c)]⟩), (.int .i64 (0 : Int)), (.slice none 0 0)] g1 fun v g2 =>
  ∃ xa : Option Addr, ∃ xl : Nat, ∃ xc : Nat, v = (.slice xa xl xc) ∧ ∀ g3 : G, Ex g2 g3 →
  R (.slice xa xl xc) g3)
theorem F13_eq (x0 : Int) (x1 : Int) (x2 : ByteArray) (x3a : Option Addr) (x3l : Nat) (x3c : Nat) (g : G) (R : Value → G → Prop) : fnG cfg13 5 [.tmp 2] c13 an13 [(.agg ⟨[(.int .i64 x0), (.int .i64 x1), (.string x2), (.slice x3a x3l x3c)]⟩)] g nobody R = F13 x0 x1 x2 x3a x3l x3c g R := by kernel_rfl
theorem call13 (x0 : Int) (x1 : Int) (x2 : ByteArray) (x3a : Option Addr) (x3l : Nat) (x3c : Nat) (g : G) (R : Value → G → Prop) (hF : F13 x0 x1 x2 x3a x3l x3c g R) : CallsG Tryd.prog 13 #[(.agg ⟨[(.int .i64 x0), (.int .i64 x1), (.string x2), (.slice x3a x3l x3c)]⟩)] g nobody R :=
  fn_soundG (c := cfg13) TTok FNSok mixed Tryd.func13 (show Tryd.f13.body = some c13 by kernel_rfl) (show Tryd.f13.ntmps = 5 by kernel_rfl) (show Tryd.f13.results.toList = [.tmp 2] by kernel_rfl) rfl ((F13_eq x0 x1 x2 x3a x3l x3c g R ).mpr hF)

/- 14 pilaster/pilasterlaw44.none -/
noncomputable def c14 : Code := match Tryd.f14.body with
  | some c => c
  | none => .skip
noncomputable def cfg14 : Cfg := ⟨Tryd.prog, TT, FNS, [1], [(1, 1)], [], TCH, false, false, none, PNF, false⟩
def an14 : AnnG := (.seq .leaf (.seq .leaf .leaf))
def F14 (o0 : Int) (o1 : Int) (o2 : Int) (o3 : Int) (o4 : Int) (o5 : ByteArray) (o6a : Option Addr) (o6l : Nat) (o6c : Nat) (o7a : Option Addr) (o7l : Nat) (o7c : Nat) (o8a : Option Addr) (o8l : Nat) (o8c : Nat) (g : G) (R : Value → G → Prop) : Prop :=
  ∀ g1 : G, Ex g g1 →
  (CallsP Tryd.prog 15 #[(.agg ⟨[(.int .i64 o0), (.int .i64 o1), (.int .i64 o2), (.int .i64 o3), (.int .i64 o4), (.string o5), (.slice o6a o6l o6c), (.slice o7a o7l o7c), (.slice o8a o8l o8c)]⟩), (.agg ⟨[(.int .i64 (0 : Int)), (.int .i64 (0 : Int)), (.int .i64 (0 : Int)), (.int .i64 (0 : Int)), (.int .i64 (0 : Int)), (.string (bs [])), (.slice none 0 0), (.slice none 0 0), (.slice none 0 0)]⟩)] g1 fun v g2 =>
  ∃ x : Bool, v = (.bool x) ∧ ∀ g3 : G, Ex g2 g3 →
  R (.bool x) g3)
theorem F14_eq (o0 : Int) (o1 : Int) (o2 : Int) (o3 : Int) (o4 : Int) (o5 : ByteArray) (o6a : Option Addr) (o6l : Nat) (o6c : Nat) (o7a : Option Addr) (o7l : Nat) (o7c : Nat) (o8a : Option Addr) (o8l : Nat) (o8c : Nat) (g : G) (R : Value → G → Prop) : fnG cfg14 6 [.tmp 2] c14 an14 [(.agg ⟨[(.int .i64 o0), (.int .i64 o1), (.int .i64 o2), (.int .i64 o3), (.int .i64 o4), (.string o5), (.slice o6a o6l o6c), (.slice o7a o7l o7c), (.slice o8a o8l o8c)]⟩)] g nobody R = F14 o0 o1 o2 o3 o4 o5 o6a o6l o6c o7a o7l o7c o8a o8l o8c g R := by kernel_rfl
theorem call14 (o0 : Int) (o1 : Int) (o2 : Int) (o3 : Int) (o4 : Int) (o5 : ByteArray) (o6a : Option Addr) (o6l : Nat) (o6c : Nat) (o7a : Option Addr) (o7l : Nat) (o7c : Nat) (o8a : Option Addr) (o8l : Nat) (o8c : Nat) (g : G) (R : Value → G → Prop) (hF : F14 o0 o1 o2 o3 o4 o5 o6a o6l o6c o7a o7l o7c o8a o8l o8c g R) : CallsG Tryd.prog 14 #[(.agg ⟨[(.int .i64 o0), (.int .i64 o1), (.int .i64 o2), (.int .i64 o3), (.int .i64 o4), (.string o5), (.slice o6a o6l o6c), (.slice o7a o7l o7c), (.slice o8a o8l o8c)]⟩)] g nobody R :=
  fn_soundG (c := cfg14) TTok FNSok mixed Tryd.func14 (show Tryd.f14.body = some c14 by kernel_rfl) (show Tryd.f14.ntmps = 6 by kernel_rfl) (show Tryd.f14.results.toList = [.tmp 2] by kernel_rfl) rfl ((F14_eq o0 o1 o2 o3 o4 o5 o6a o6l o6c o7a o7l o7c o8a o8l o8c g R ).mpr hF)

/- 15 pilaster/pilasterref44.SameOutcome -/
noncomputable def c15 : Code := match Tryd.f15.body with
  | some c => c
  | none => .skip
noncomputable def cfg15 : Cfg := ⟨Tryd.prog, TT, FNS, [2, 3], [(2, 2), (3, 3), (9, 2), (11, 3)], [], TCH, false, false, none, PNF, false⟩
def an15 : AnnG := (.seq .leaf (.seq .leaf .leaf))
def F15 (a0 : Int) (a1 : Int) (a2 : Int) (a3 : Int) (a4 : Int) (a5 : ByteArray) (a6a : Option Addr) (a6l : Nat) (a6c : Nat) (a7a : Option Addr) (a7l : Nat) (a7c : Nat) (a8a : Option Addr) (a8l : Nat) (a8c : Nat) (b0 : Int) (b1 : Int) (b2 : Int) (b3 : Int) (b4 : Int) (b5 : ByteArray) (b6a : Option Addr) (b6l : Nat) (b6c : Nat) (b7a : Option Addr) (b7l : Nat) (b7c : Nat) (b8a : Option Addr) (b8l : Nat) (b8c : Nat) (g : G) (R : Value → G → Prop) : Prop :=
  ∀ g1 : G, Ex g g1 →
  (CallsP Tryd.prog 19 #[(.agg ⟨[(.int .i64 a0), (.int .i64 a1), (.int .i64 a2), (.int .i64 a3), (.int .i64 a4), (.string a5), (.slice a6a a6l a6c), (.slice a7a a7l a7c), (.slice a8a a8l a8c)]⟩), (.agg ⟨[(.int .i64 b0), (.int .i64 b1), (.int .i64 b2), (.int .i64 b3), (.int .i64 b4), (.string b5), (.slice b6a b6l b6c), (.slice b7a b7l b7c), (.slice b8a b8l b8c)]⟩)] g1 fun v g2 =>
  ∃ x : Bool, v = (.bool x) ∧ ifB x
  (∀ g3 : G, Ex g2 g3 →
  R (.bool (eqI a2 b2)) g3)
  (∀ g4 : G, Ex g2 g4 →
  R (.bool false) g4))
theorem F15_eq (a0 : Int) (a1 : Int) (a2 : Int) (a3 : Int) (a4 : Int) (a5 : ByteArray) (a6a : Option Addr) (a6l : Nat) (a6c : Nat) (a7a : Option Addr) (a7l : Nat) (a7c : Nat) (a8a : Option Addr) (a8l : Nat) (a8c : Nat) (b0 : Int) (b1 : Int) (b2 : Int) (b3 : Int) (b4 : Int) (b5 : ByteArray) (b6a : Option Addr) (b6l : Nat) (b6c : Nat) (b7a : Option Addr) (b7l : Nat) (b7c : Nat) (b8a : Option Addr) (b8l : Nat) (b8c : Nat) (g : G) (R : Value → G → Prop) : fnG cfg15 15 [.tmp 4] c15 an15 [(.agg ⟨[(.int .i64 a0), (.int .i64 a1), (.int .i64 a2), (.int .i64 a3), (.int .i64 a4), (.string a5), (.slice a6a a6l a6c), (.slice a7a a7l a7c), (.slice a8a a8l a8c)]⟩), (.agg ⟨[(.int .i64 b0), (.int .i64 b1), (.int .i64 b2), (.int .i64 b3), (.int .i64 b4), (.string b5), (.slice b6a b6l b6c), (.slice b7a b7l b7c), (.slice b8a b8l b8c)]⟩)] g nobody R = F15 a0 a1 a2 a3 a4 a5 a6a a6l a6c a7a a7l a7c a8a a8l a8c b0 b1 b2 b3 b4 b5 b6a b6l b6c b7a b7l b7c b8a b8l b8c g R := by kernel_rfl
theorem call15 (a0 : Int) (a1 : Int) (a2 : Int) (a3 : Int) (a4 : Int) (a5 : ByteArray) (a6a : Option Addr) (a6l : Nat) (a6c : Nat) (a7a : Option Addr) (a7l : Nat) (a7c : Nat) (a8a : Option Addr) (a8l : Nat) (a8c : Nat) (b0 : Int) (b1 : Int) (b2 : Int) (b3 : Int) (b4 : Int) (b5 : ByteArray) (b6a : Option Addr) (b6l : Nat) (b6c : Nat) (b7a : Option Addr) (b7l : Nat) (b7c : Nat) (b8a : Option Addr) (b8l : Nat) (b8c : Nat) (g : G) (R : Value → G → Prop) (hF : F15 a0 a1 a2 a3 a4 a5 a6a a6l a6c a7a a7l a7c a8a a8l a8c b0 b1 b2 b3 b4 b5 b6a b6l b6c b7a b7l b7c b8a b8l b8c g R) : CallsG Tryd.prog 15 #[(.agg ⟨[(.int .i64 a0), (.int .i64 a1), (.int .i64 a2), (.int .i64 a3), (.int .i64 a4), (.string a5), (.slice a6a a6l a6c), (.slice a7a a7l a7c), (.slice a8a a8l a8c)]⟩), (.agg ⟨[(.int .i64 b0), (.int .i64 b1), (.int .i64 b2), (.int .i64 b3), (.int .i64 b4), (.string b5), (.slice b6a b6l b6c), (.slice b7a b7l b7c), (.slice b8a b8l b8c)]⟩)] g nobody R :=
  fn_soundG (c := cfg15) TTok FNSok mixed Tryd.func15 (show Tryd.f15.body = some c15 by kernel_rfl) (show Tryd.f15.ntmps = 15 by kernel_rfl) (show Tryd.f15.results.toList = [.tmp 4] by kernel_rfl) rfl ((F15_eq a0 a1 a2 a3 a4 a5 a6a a6l a6c a7a a7l a7c a8a a8l a8c b0 b1 b2 b3 b4 b5 b6a b6l b6c b7a b7l b7c b8a b8l b8c g R ).mpr hF)

/- 16 pilaster/pilasterref44.Run -/
noncomputable def c16 : Code := match Tryd.f16.body with
  | some c => c
  | none => .skip
noncomputable def cfg16 : Cfg := ⟨Tryd.prog, TT, FNS, [2, 4, 5, 6, 7, 8], [(2, 2), (4, 4), (5, 5), (6, 6), (7, 7), (8, 8), (17, 6), (19, 6), (22, 6), (25, 6), (27, 6), (29, 7), (30, 7), (39, 7), (40, 7), (43, 7)], [], TCH, false, false, none, PNF, false⟩
def an16 : AnnG := (.seq .leaf (.seq .leaf (.seq .leaf (.seq (.seq .leaf (.cond (.seq (.treeP false [7] 6 (.quiet 0 (.quiet 1 (.quiet 2 (.quiet 3 (.quiet 4 (.eff 5 .fin .fin))))))) (.seq .leaf .leaf)) .leaf)) (.seq .leaf (.seq (.seq .leaf (.cond (.seq .leaf (.seq .leaf .leaf)) .leaf)) (.seq .leaf (.seq .leaf .leaf))))))))
def F16 (x0 : Int) (x1 : Int) (x2 : ByteArray) (x3a : Option Addr) (x3l : Nat) (x3c : Nat) (fuel : Int) (g : G) (R : Value → G → Prop) : Prop :=
  ∀ g1 : G, Ex g g1 →
  (CallsP Tryd.prog 37 #[(.agg ⟨[(.int .i64 x0), (.int .i64 x1), (.string x2), (.slice x3a x3l x3c)]⟩), (.slice none 0 0), (.agg ⟨[(.int .i64 fuel), (.int .i64 (0 : Int)), (.slice none 0 0), (.int .i64 (0 : Int)), (.int .i64 (0 : Int))]⟩)] g1 fun v g2 =>
  ∃ x00 : Int, ∃ x01 : Int, ∃ x02 : ByteArray, ∃ x03a : Option Addr, ∃ x03l : Nat, ∃ x03c : Nat, ∃ x04 : Int, ∃ x05 : Int, ∃ x06 : ByteArray, ∃ x07a : Option Addr, ∃ x07l : Nat, ∃ x07c : Nat, ∃ x08a : Option Addr, ∃ x08l : Nat, ∃ x08c : Nat, ∃ x09 : Bool, ∃ x10 : Int, ∃ x11 : Int, ∃ x12a : Option Addr, ∃ x12l : Nat, ∃ x12c : Nat, ∃ x13 : Int, ∃ x14 : Int, v = (.tuple ⟨[(.agg ⟨[(.int .i64 x00), (.int .i64 x01), (.string x02), (.slice x03a x03l x03c), (.int .i64 x04), (.int .i64 x05), (.string x06), (.slice x07a x07l x07c), (.slice x08a x08l x08c), (.bool x09)]⟩), (.agg ⟨[(.int .i64 x10), (.int .i64 x11), (.slice x12a x12l x12c), (.int .i64 x13), (.int .i64 x14)]⟩)]⟩) ∧ ∀ g3 : G, Ex g2 g3 →
  ifB (!eqI x13 (0 : Int))
  (∀ g4 : G, Ex g3 g4 →
  ∀ g5 : G, Ex g4 g5 →
  R (.agg ⟨[(.int .i64 x13), (.int .i64 x14), (.int .i64 x11), (.int .i64 (0 : Int)), (.int .i64 (0 : Int)), (.string (bs [])), (.slice none 0 0), (.slice none 0 0), (.slice x12a x12l x12c)]⟩) g5)
  (∀ g6 : G, Ex g3 g6 →
  (CallsP Tryd.prog 38 #[(.agg ⟨[(.int .i64 x00), (.int .i64 x01), (.string x02), (.slice x03a x03l x03c), (.int .i64 x04), (.int .i64 x05), (.string x06), (.slice x07a x07l x07c), (.slice x08a x08l x08c), (.bool x09)]⟩), (.int .i64 (20000 : Int)), (.int .i64 (400 : Int))] g6 fun v g7 =>
  ∃ x00_1 : Int, ∃ x01_1 : Int, ∃ x02_1 : ByteArray, ∃ x03a_1 : Option Addr, ∃ x03l_1 : Nat, ∃ x03c_1 : Nat, ∃ x04a : Option Addr, ∃ x04l : Nat, ∃ x04c : Nat, ∃ x1_1 : Int, v = (.tuple ⟨[(.agg ⟨[(.int .i64 x00_1), (.int .i64 x01_1), (.string x02_1), (.slice x03a_1 x03l_1 x03c_1), (.slice x04a x04l x04c)]⟩), (.int .i64 x1_1)]⟩) ∧ ifB (ltI x1_1 (0 : Int))
  (∀ g8 : G, Ex g7 g8 →
  R (.agg ⟨[(.int .i64 (2 : Int)), (.int .i64 (2 : Int)), (.int .i64 x11), (.int .i64 (0 : Int)), (.int .i64 (0 : Int)), (.string (bs [])), (.slice none 0 0), (.slice none 0 0), (.slice x12a x12l x12c)]⟩) g8)
  (∀ g9 : G, Ex g7 g9 →
  R (.agg ⟨[(.int .i64 (1 : Int)), (.int .i64 (0 : Int)), (.int .i64 x11), (.int .i64 x00_1), (.int .i64 x01_1), (.string x02_1), (.slice x03a_1 x03l_1 x03c_1), (.slice x04a x04l x04c), (.slice x12a x12l x12c)]⟩) g9))))
theorem F16_eq (x0 : Int) (x1 : Int) (x2 : ByteArray) (x3a : Option Addr) (x3l : Nat) (x3c : Nat) (fuel : Int) (g : G) (R : Value → G → Prop) : fnG cfg16 45 [.cell 4 32] c16 an16 [(.agg ⟨[(.int .i64 x0), (.int .i64 x1), (.string x2), (.slice x3a x3l x3c)]⟩), (.int .i64 fuel)] g nobody R = F16 x0 x1 x2 x3a x3l x3c fuel g R := by kernel_rfl
theorem call16 (x0 : Int) (x1 : Int) (x2 : ByteArray) (x3a : Option Addr) (x3l : Nat) (x3c : Nat) (fuel : Int) (g : G) (R : Value → G → Prop) (hF : F16 x0 x1 x2 x3a x3l x3c fuel g R) : CallsG Tryd.prog 16 #[(.agg ⟨[(.int .i64 x0), (.int .i64 x1), (.string x2), (.slice x3a x3l x3c)]⟩), (.int .i64 fuel)] g nobody R :=
  fn_soundG (c := cfg16) TTok FNSok mixed Tryd.func16 (show Tryd.f16.body = some c16 by kernel_rfl) (show Tryd.f16.ntmps = 45 by kernel_rfl) (show Tryd.f16.results.toList = [.cell 4 32] by kernel_rfl) rfl ((F16_eq x0 x1 x2 x3a x3l x3c fuel g R ).mpr hF)

/- 17 pilaster/pilasterref44.SameTexts -/
noncomputable def c17 : Code := match Tryd.f17.body with
  | some c => c
  | none => .skip
noncomputable def cfg17 : Cfg := ⟨Tryd.prog, TT, FNS, [], [], [], TCH, false, false, none, PNF, false⟩
def an17 : AnnG := (.seq .leaf (.seq (.seq .leaf (.cond (.seq .leaf .leaf) .leaf)) (.seq (.seq .leaf (.blk (.loop ⟨[(5, .int .i64)], [], []⟩ (.seq (.seq .leaf (.cond .leaf .leaf)) (.seq (.blk (.seq (.tree 8 (.quiet 0 (.quiet 1 (.quiet 2 (.quiet 3 (.quiet 4 (.quiet 5 (.quiet 6 (.quiet 7 .fin))))))))) (.cond (.seq .leaf .leaf) .leaf))) .leaf))))) (.seq .leaf .leaf))))
def F17 (aa : Option Addr) (al : Nat) (ac : Nat) (ba : Option Addr) (bl : Nat) (bc : Nat) (g : G) (R : Value → G → Prop) : Prop :=
  ifB (!eqI ((al : Nat) : Int) ((bl : Nat) : Int))
  (∀ g1 : G, Ex g g1 →
  R (.bool false) g1)
  (∃ Inv : Nat → Int → G → Prop, ((∃ m0 : Nat, Inv m0 (0 : Int) g)) ∧
  ∀ m : Nat, ∀ i : Int, ∀ g2 : G, Le g g2 → Inv m i g2 →
  ifB (ltI i ((al : Nat) : Int))
  (∀ g3 : G, Ex g2 g3 →
  (0 ≤ i ∧ i < ((al : Nat) : Int)) ∧ derefP aa fun ad => ∃ x : ByteArray, g3.w.cell? (Addr.add ad (Int.toNat i * 1)) = some (.string x) ∧ (0 ≤ i ∧ i < ((bl : Nat) : Int)) ∧ derefP ba fun ad_1 => ∃ x_1 : ByteArray, g3.w.cell? (Addr.add ad_1 (Int.toNat i * 1)) = some (.string x_1) ∧ ifB (!strEq x x_1)
  (∀ g4 : G, Ex g3 g4 →
  R (.bool false) g4)
  (InI64 (i + (1 : Int)) ∧ (∃ m_1 : Nat, m_1 < m ∧ Inv m_1 (i + (1 : Int)) g3)))
  (∀ g5 : G, Ex g2 g5 →
  R (.bool true) g5))
theorem F17_eq (aa : Option Addr) (al : Nat) (ac : Nat) (ba : Option Addr) (bl : Nat) (bc : Nat) (g : G) (R : Value → G → Prop) : fnG cfg17 26 [.tmp 4] c17 an17 [(.slice aa al ac), (.slice ba bl bc)] g nobody R = F17 aa al ac ba bl bc g R := by kernel_rfl
theorem call17 (aa : Option Addr) (al : Nat) (ac : Nat) (ba : Option Addr) (bl : Nat) (bc : Nat) (g : G) (R : Value → G → Prop) (hF : F17 aa al ac ba bl bc g R) : CallsG Tryd.prog 17 #[(.slice aa al ac), (.slice ba bl bc)] g nobody R :=
  fn_soundG (c := cfg17) TTok FNSok mixed Tryd.func17 (show Tryd.f17.body = some c17 by kernel_rfl) (show Tryd.f17.ntmps = 26 by kernel_rfl) (show Tryd.f17.results.toList = [.tmp 4] by kernel_rfl) rfl ((F17_eq aa al ac ba bl bc g R ).mpr hF)

/- 18 pilaster/pilasterlaw44.u -/
noncomputable def c18 : Code := match Tryd.f18.body with
  | some c => c
  | none => .skip
noncomputable def cfg18 : Cfg := ⟨Tryd.prog, TT, FNS, [6], [(6, 6)], [], TCH, false, false, none, PNF, false⟩
def an18 : AnnG := (.seq .leaf (.seq .leaf .leaf))
def F18 (op : Int) (n : Int) (la : Option Addr) (ll : Nat) (lc : Nat) (g : G) (R : Value → G → Prop) : Prop :=
  ∀ g1 : G, Ex g g1 →
  ∀ g2 : G, Ex g1 g2 →
  R (.agg ⟨[(.int .i64 op), (.int .i64 n), (.string (bs [])), (.slice la ll lc)]⟩) g2
theorem F18_eq (op : Int) (n : Int) (la : Option Addr) (ll : Nat) (lc : Nat) (g : G) (R : Value → G → Prop) : fnG cfg18 11 [.cell 6 24] c18 an18 [(.int .i64 op), (.int .i64 n), (.slice la ll lc)] g nobody R = F18 op n la ll lc g R := by kernel_rfl
theorem call18 (op : Int) (n : Int) (la : Option Addr) (ll : Nat) (lc : Nat) (g : G) (R : Value → G → Prop) (hF : F18 op n la ll lc g R) : CallsG Tryd.prog 18 #[(.int .i64 op), (.int .i64 n), (.slice la ll lc)] g nobody R :=
  fn_soundG (c := cfg18) TTok FNSok mixed Tryd.func18 (show Tryd.f18.body = some c18 by kernel_rfl) (show Tryd.f18.ntmps = 11 by kernel_rfl) (show Tryd.f18.results.toList = [.cell 6 24] by kernel_rfl) rfl ((F18_eq op n la ll lc g R ).mpr hF)

/- 19 pilaster/pilasterref44.SameEnd -/
noncomputable def c19 : Code := match Tryd.f19.body with
  | some c => c
  | none => .skip
noncomputable def cfg19 : Cfg := ⟨Tryd.prog, TT, FNS, [2, 3], [(2, 2), (3, 3), (5, 2), (7, 3), (11, 2), (13, 3), (18, 2), (20, 3), (25, 2), (27, 3)], [], TCH, false, false, none, PNF, false⟩
def an19 : AnnG := (.seq .leaf (.seq .leaf .leaf))
def F19 (a0 : Int) (a1 : Int) (a2 : Int) (a3 : Int) (a4 : Int) (a5 : ByteArray) (a6a : Option Addr) (a6l : Nat) (a6c : Nat) (a7a : Option Addr) (a7l : Nat) (a7c : Nat) (a8a : Option Addr) (a8l : Nat) (a8c : Nat) (b0 : Int) (b1 : Int) (b2 : Int) (b3 : Int) (b4 : Int) (b5 : ByteArray) (b6a : Option Addr) (b6l : Nat) (b6c : Nat) (b7a : Option Addr) (b7l : Nat) (b7c : Nat) (b8a : Option Addr) (b8l : Nat) (b8c : Nat) (g : G) (R : Value → G → Prop) : Prop :=
  ifB (eqI a0 b0)
  (ifB (eqI a1 b1)
  (∀ g1 : G, Ex g g1 →
  (CallsP Tryd.prog 22 #[(.agg ⟨[(.int .i64 a3), (.int .i64 a4), (.string a5), (.slice a6a a6l a6c), (.slice a7a a7l a7c)]⟩), (.agg ⟨[(.int .i64 b3), (.int .i64 b4), (.string b5), (.slice b6a b6l b6c), (.slice b7a b7l b7c)]⟩)] g1 fun v g2 =>
  ∃ x : Bool, v = (.bool x) ∧ ifB x
  ((CallsP Tryd.prog 17 #[(.slice a8a a8l a8c), (.slice b8a b8l b8c)] g2 fun v g3 =>
  ∃ x_1 : Bool, v = (.bool x_1) ∧ ∀ g4 : G, Ex g3 g4 →
  R (.bool x_1) g4))
  (∀ g5 : G, Ex g2 g5 →
  R (.bool false) g5)))
  (∀ g6 : G, Ex g g6 →
  R (.bool false) g6))
  (∀ g7 : G, Ex g g7 →
  R (.bool false) g7)
theorem F19_eq (a0 : Int) (a1 : Int) (a2 : Int) (a3 : Int) (a4 : Int) (a5 : ByteArray) (a6a : Option Addr) (a6l : Nat) (a6c : Nat) (a7a : Option Addr) (a7l : Nat) (a7c : Nat) (a8a : Option Addr) (a8l : Nat) (a8c : Nat) (b0 : Int) (b1 : Int) (b2 : Int) (b3 : Int) (b4 : Int) (b5 : ByteArray) (b6a : Option Addr) (b6l : Nat) (b6c : Nat) (b7a : Option Addr) (b7l : Nat) (b7c : Nat) (b8a : Option Addr) (b8l : Nat) (b8c : Nat) (g : G) (R : Value → G → Prop) : fnG cfg19 31 [.tmp 4] c19 an19 [(.agg ⟨[(.int .i64 a0), (.int .i64 a1), (.int .i64 a2), (.int .i64 a3), (.int .i64 a4), (.string a5), (.slice a6a a6l a6c), (.slice a7a a7l a7c), (.slice a8a a8l a8c)]⟩), (.agg ⟨[(.int .i64 b0), (.int .i64 b1), (.int .i64 b2), (.int .i64 b3), (.int .i64 b4), (.string b5), (.slice b6a b6l b6c), (.slice b7a b7l b7c), (.slice b8a b8l b8c)]⟩)] g nobody R = F19 a0 a1 a2 a3 a4 a5 a6a a6l a6c a7a a7l a7c a8a a8l a8c b0 b1 b2 b3 b4 b5 b6a b6l b6c b7a b7l b7c b8a b8l b8c g R := by kernel_rfl
theorem call19 (a0 : Int) (a1 : Int) (a2 : Int) (a3 : Int) (a4 : Int) (a5 : ByteArray) (a6a : Option Addr) (a6l : Nat) (a6c : Nat) (a7a : Option Addr) (a7l : Nat) (a7c : Nat) (a8a : Option Addr) (a8l : Nat) (a8c : Nat) (b0 : Int) (b1 : Int) (b2 : Int) (b3 : Int) (b4 : Int) (b5 : ByteArray) (b6a : Option Addr) (b6l : Nat) (b6c : Nat) (b7a : Option Addr) (b7l : Nat) (b7c : Nat) (b8a : Option Addr) (b8l : Nat) (b8c : Nat) (g : G) (R : Value → G → Prop) (hF : F19 a0 a1 a2 a3 a4 a5 a6a a6l a6c a7a a7l a7c a8a a8l a8c b0 b1 b2 b3 b4 b5 b6a b6l b6c b7a b7l b7c b8a b8l b8c g R) : CallsG Tryd.prog 19 #[(.agg ⟨[(.int .i64 a0), (.int .i64 a1), (.int .i64 a2), (.int .i64 a3), (.int .i64 a4), (.string a5), (.slice a6a a6l a6c), (.slice a7a a7l a7c), (.slice a8a a8l a8c)]⟩), (.agg ⟨[(.int .i64 b0), (.int .i64 b1), (.int .i64 b2), (.int .i64 b3), (.int .i64 b4), (.string b5), (.slice b6a b6l b6c), (.slice b7a b7l b7c), (.slice b8a b8l b8c)]⟩)] g nobody R :=
  fn_soundG (c := cfg19) TTok FNSok mixed Tryd.func19 (show Tryd.f19.body = some c19 by kernel_rfl) (show Tryd.f19.ntmps = 31 by kernel_rfl) (show Tryd.f19.results.toList = [.tmp 4] by kernel_rfl) rfl ((F19_eq a0 a1 a2 a3 a4 a5 a6a a6l a6c a7a a7l a7c a8a a8l a8c b0 b1 b2 b3 b4 b5 b6a b6l b6c b7a b7l b7c b8a b8l b8c g R ).mpr hF)

/- 20 pilaster/pilasterref44.Value -/
/- 21 pilaster/pilasterlaw44.LambdaValues$1 -/
/- 22 pilaster/pilasterref44.SameValue -/
noncomputable def c22 : Code := match Tryd.f22.body with
  | some c => c
  | none => .skip
noncomputable def cfg22 : Cfg := ⟨Tryd.prog, TT, FNS, [2, 3], [(2, 2), (3, 3), (7, 2), (9, 3), (13, 2), (15, 3), (20, 2), (22, 3), (27, 2), (30, 3), (36, 2), (39, 3), (45, 2), (51, 2), (56, 3), (63, 2), (69, 2), (74, 3)], [], TCH, false, false, none, PNF, false⟩
def an22 : AnnG := (.seq .leaf (.join ⟨[], [], []⟩ (.seq .leaf (.cond (.seq .leaf .leaf) .leaf)) (.seq (.seq .leaf (.blk (.loop ⟨[(5, .int .i64)], [], []⟩ (.seq (.seq .leaf (.cond .leaf .leaf)) (.seq (.blk (.seq (.tree 10 (.quiet 0 (.quiet 1 (.quiet 2 (.quiet 3 (.quiet 4 (.quiet 5 (.quiet 6 (.quiet 7 (.quiet 8 (.quiet 9 .fin))))))))))) (.cond (.seq .leaf .leaf) .leaf))) .leaf))))) (.seq (.seq .leaf (.blk (.loop ⟨[(6, .int .i64)], [], []⟩ (.seq (.seq .leaf (.cond .leaf .leaf)) (.seq (.blk (.seq (.tree 10 (.quiet 0 (.quiet 1 (.quiet 2 (.quiet 3 (.quiet 4 (.quiet 5 (.quiet 6 (.quiet 7 (.quiet 8 (.quiet 9 .fin))))))))))) (.cond (.seq .leaf .leaf) .leaf))) .leaf))))) (.seq .leaf .leaf)))))
def F22 (a0 : Int) (a1 : Int) (a2 : ByteArray) (a3a : Option Addr) (a3l : Nat) (a3c : Nat) (a4a : Option Addr) (a4l : Nat) (a4c : Nat) (b0 : Int) (b1 : Int) (b2 : ByteArray) (b3a : Option Addr) (b3l : Nat) (b3c : Nat) (b4a : Option Addr) (b4l : Nat) (b4c : Nat) (g : G) (R : Value → G → Prop) : Prop :=
  ∀ J : G → Prop,
  (∀ g1 : G, (∃ Inv : Nat → Int → G → Prop, ((∃ m0 : Nat, Inv m0 (0 : Int) g1)) ∧
  ∀ m : Nat, ∀ i : Int, ∀ g2 : G, Le g1 g2 → Inv m i g2 →
  ifB (ltI i ((a3l : Nat) : Int))
  (∀ g3 : G, Ex g2 g3 →
  (0 ≤ i ∧ i < ((a3l : Nat) : Int)) ∧ derefP a3a fun ad => ∃ x : ByteArray, g3.w.cell? (Addr.add ad (Int.toNat i * 1)) = some (.string x) ∧ (0 ≤ i ∧ i < ((b3l : Nat) : Int)) ∧ derefP b3a fun ad_1 => ∃ x_1 : ByteArray, g3.w.cell? (Addr.add ad_1 (Int.toNat i * 1)) = some (.string x_1) ∧ ifB (!strEq x x_1)
  (∀ g4 : G, Ex g3 g4 →
  R (.bool false) g4)
  (InI64 (i + (1 : Int)) ∧ (∃ m_1 : Nat, m_1 < m ∧ Inv m_1 (i + (1 : Int)) g3)))
  (∃ Inv_1 : Nat → Int → G → Prop, ((∃ m0 : Nat, Inv_1 m0 (0 : Int) g2)) ∧
  ∀ m_2 : Nat, ∀ i_1 : Int, ∀ g5 : G, Le g2 g5 → Inv_1 m_2 i_1 g5 →
  ifB (ltI i_1 ((a4l : Nat) : Int))
  (∀ g6 : G, Ex g5 g6 →
  (0 ≤ i_1 ∧ i_1 < ((a4l : Nat) : Int)) ∧ derefP a4a fun ad_2 => ∃ x0 : Int, ∃ x1 : Int, ∃ x2 : ByteArray, ∃ x3a : Option Addr, ∃ x3l : Nat, ∃ x3c : Nat, ∃ x4a : Option Addr, ∃ x4l : Nat, ∃ x4c : Nat, g6.w.cell? (Addr.add ad_2 (Int.toNat i_1 * 5)) = some (.int .i64 x0) ∧ g6.w.cell? (Addr.add (Addr.add ad_2 (Int.toNat i_1 * 5)) 1) = some (.int .i64 x1) ∧ g6.w.cell? (Addr.add (Addr.add ad_2 (Int.toNat i_1 * 5)) 2) = some (.string x2) ∧ g6.w.cell? (Addr.add (Addr.add ad_2 (Int.toNat i_1 * 5)) 3) = some (.slice x3a x3l x3c) ∧ g6.w.cell? (Addr.add (Addr.add ad_2 (Int.toNat i_1 * 5)) 4) = some (.slice x4a x4l x4c) ∧ (0 ≤ i_1 ∧ i_1 < ((b4l : Nat) : Int)) ∧ derefP b4a fun ad_3 => ∃ x0_1 : Int, ∃ x1_1 : Int, ∃ x2_1 : ByteArray, ∃ x3a_1 : Option Addr, ∃ x3l_1 : Nat, ∃ x3c_1 : Nat, ∃ x4a_1 : Option Addr, ∃ x4l_1 : Nat, ∃ x4c_1 : Nat, g6.w.cell? (Addr.add ad_3 (Int.toNat i_1 * 5)) = some (.int .i64 x0_1) ∧ g6.w.cell? (Addr.add (Addr.add ad_3 (Int.toNat i_1 * 5)) 1) = some (.int .i64 x1_1) ∧ g6.w.cell? (Addr.add (Addr.add ad_3 (Int.toNat i_1 * 5)) 2) = some (.string x2_1) ∧ g6.w.cell? (Addr.add (Addr.add ad_3 (Int.toNat i_1 * 5)) 3) = some (.slice x3a_1 x3l_1 x3c_1) ∧ g6.w.cell? (Addr.add (Addr.add ad_3 (Int.toNat i_1 * 5)) 4) = some (.slice x4a_1 x4l_1 x4c_1) ∧ (CallsP Tryd.prog 22 #[(.agg ⟨[(.int .i64 x0), (.int .i64 x1), (.string x2), (.slice x3a x3l x3c), (.slice x4a x4l x4c)]⟩), (.agg ⟨[(.int .i64 x0_1), (.int .i64 x1_1), (.string x2_1), (.slice x3a_1 x3l_1 x3c_1), (.slice x4a_1 x4l_1 x4c_1)]⟩)] g6 fun v g7 =>
  ∃ x_2 : Bool, v = (.bool x_2) ∧ ifB (!x_2)
  (∀ g8 : G, Ex g7 g8 →
  R (.bool false) g8)
  (InI64 (i_1 + (1 : Int)) ∧ (∃ m_3 : Nat, m_3 < m_2 ∧ Inv_1 m_3 (i_1 + (1 : Int)) g7))))
  (∀ g9 : G, Ex g5 g9 →
  R (.bool true) g9))) → J g1) →
  ifB (!eqI a0 b0)
  (∀ g10 : G, Ex g g10 →
  R (.bool false) g10)
  (ifB (!eqI a1 b1)
  (∀ g11 : G, Ex g g11 →
  R (.bool false) g11)
  (ifB (!strEq a2 b2)
  (∀ g12 : G, Ex g g12 →
  R (.bool false) g12)
  (ifB (!eqI ((a4l : Nat) : Int) ((b4l : Nat) : Int))
  (∀ g13 : G, Ex g g13 →
  R (.bool false) g13)
  (ifB (!eqI ((a3l : Nat) : Int) ((b3l : Nat) : Int))
  (∀ g14 : G, Ex g g14 →
  R (.bool false) g14)
  (∀ g15 : G, Ex g g15 →
  J g15)))))
theorem F22_eq (a0 : Int) (a1 : Int) (a2 : ByteArray) (a3a : Option Addr) (a3l : Nat) (a3c : Nat) (a4a : Option Addr) (a4l : Nat) (a4c : Nat) (b0 : Int) (b1 : Int) (b2 : ByteArray) (b3a : Option Addr) (b3l : Nat) (b3c : Nat) (b4a : Option Addr) (b4l : Nat) (b4c : Nat) (g : G) (R : Value → G → Prop) : fnG cfg22 81 [.tmp 4] c22 an22 [(.agg ⟨[(.int .i64 a0), (.int .i64 a1), (.string a2), (.slice a3a a3l a3c), (.slice a4a a4l a4c)]⟩), (.agg ⟨[(.int .i64 b0), (.int .i64 b1), (.string b2), (.slice b3a b3l b3c), (.slice b4a b4l b4c)]⟩)] g nobody R = F22 a0 a1 a2 a3a a3l a3c a4a a4l a4c b0 b1 b2 b3a b3l b3c b4a b4l b4c g R := by kernel_rfl
theorem call22 (a0 : Int) (a1 : Int) (a2 : ByteArray) (a3a : Option Addr) (a3l : Nat) (a3c : Nat) (a4a : Option Addr) (a4l : Nat) (a4c : Nat) (b0 : Int) (b1 : Int) (b2 : ByteArray) (b3a : Option Addr) (b3l : Nat) (b3c : Nat) (b4a : Option Addr) (b4l : Nat) (b4c : Nat) (g : G) (R : Value → G → Prop) (hF : F22 a0 a1 a2 a3a a3l a3c a4a a4l a4c b0 b1 b2 b3a b3l b3c b4a b4l b4c g R) : CallsG Tryd.prog 22 #[(.agg ⟨[(.int .i64 a0), (.int .i64 a1), (.string a2), (.slice a3a a3l a3c), (.slice a4a a4l a4c)]⟩), (.agg ⟨[(.int .i64 b0), (.int .i64 b1), (.string b2), (.slice b3a b3l b3c), (.slice b4a b4l b4c)]⟩)] g nobody R :=
  fn_soundG (c := cfg22) TTok FNSok mixed Tryd.func22 (show Tryd.f22.body = some c22 by kernel_rfl) (show Tryd.f22.ntmps = 81 by kernel_rfl) (show Tryd.f22.results.toList = [.tmp 4] by kernel_rfl) rfl ((F22_eq a0 a1 a2 a3a a3l a3c a4a a4l a4c b0 b1 b2 b3a b3l b3c b4a b4l b4c g R ).mpr hF)

/- 23 pilaster/lambda.Size -/
/- 24 pilaster/lambda.Free -/
noncomputable def c24 : Code := match Tryd.f24.body with
  | some c => c
  | none => .skip
noncomputable def cfg24 : Cfg := ⟨Tryd.prog, TT, FNS, [1], [(1, 1), (1000015, 72)], [], TCH, false, false, none, PNF, false⟩
def an24 : AnnG := (.seq .leaf (.seq (.seq .leaf (.cond (.seq .leaf .leaf) .leaf)) (.seq .leaf (.seq .leaf (.seq .leaf (.seq (.seq .leaf (.blk (.loop ⟨[(5, .sl)], [], []⟩ (.seq .leaf (.seq (.cond .leaf .leaf) (.blk (.seq .leaf .leaf))))))) (.seq .leaf (.seq .leaf .leaf))))))))
def F24 (x0 : Int) (x1 : Int) (x2 : ByteArray) (x3a : Option Addr) (x3l : Nat) (x3c : Nat) (g : G) (R : Value → G → Prop) : Prop :=
  ∀ g1 : G, Ex g g1 →
  (CallsP Tryd.prog 27 #[(.agg ⟨[(.int .i64 x0), (.int .i64 x1), (.string x2), (.slice x3a x3l x3c)]⟩)] g1 fun v g2 =>
  ∃ x : Bool, v = (.bool x) ∧ ifB (!x)
  (∀ g3 : G, Ex g2 g3 →
  R (.tuple ⟨[(.slice none 0 0), (.int .i64 (1 : Int))]⟩) g3)
  (∀ g4 : G, NewM g2 g4 →
  (CallsP Tryd.prog 41 #[(.map (some g2.w.heap.size)), (.agg ⟨[(.int .i64 x0), (.int .i64 x1), (.string x2), (.slice x3a x3l x3c)]⟩), (.int .i64 (0 : Int))] g4 fun v g5 =>
  v = (.tuple ⟨[]⟩) ∧ ∃ x_1 : Option Addr, ∃ wo1 : World, Sem.run Tryd.prog (Instr.range 72 (.map (some g2.w.heap.size))) g5.w = .ok (.pointer x_1) wo1 ∧ ∃ g6 : G, g6.w = wo1 ∧ Stp g.w.heap.size nobody g5 g6 ∧ ∃ Inv : Nat → Option Addr → Nat → Nat → G → Prop, ((∃ m0 : Nat, Inv m0 none 0 0 g6)) ∧
  ∀ m : Nat, ∀ outa : Option Addr, ∀ outl : Nat, ∀ outc : Nat, ∀ g7 : G, Le g6 g7 → Inv m outa outl outc g7 →
  (∃ wo2 : World, Sem.run Tryd.prog (Instr.next (.pointer x_1) false 0) g7.w = .ok (.tuple ⟨[(.bool false)]⟩) wo2 ∧ ∃ g8 : G, g8.w = wo2 ∧ Stp g.w.heap.size nobody g7 g8 ∧ (CallsP Tryd.prog 42 #[(.slice outa outl outc)] g8 fun v g9 =>
  v = (.tuple ⟨[]⟩) ∧ ∀ g10 : G, Ex g9 g10 →
  R (.tuple ⟨[(.slice outa outl outc), (.int .i64 (0 : Int))]⟩) g10)) ∨
  (∃ x0_1 : Bool, ∃ x1_1 : Int, ∃ x2_1 : Bool, ∃ wo3 : World, Sem.run Tryd.prog (Instr.next (.pointer x_1) false 0) g7.w = .ok (.tuple ⟨[(.bool x0_1), (.int .i64 x1_1), (.bool x2_1)]⟩) wo3 ∧ ∃ g11 : G, g11.w = wo3 ∧ Stp g.w.heap.size nobody g7 g11 ∧ ifB x0_1
  (∃ x0_2 : Int, ∃ x1_2 : Bool, ∃ wo4 : World, Sem.run Tryd.prog (Instr.entry (.pointer x_1)) g11.w = .ok (.tuple ⟨[(.int .i64 x0_2), (.bool x1_2)]⟩) wo4 ∧ ∃ g12 : G, g12.w = wo4 ∧ Stp g.w.heap.size nobody g11 g12 ∧ ∀ g13 : G, NewL g12 g13 3 [(.int .i64 x0_2)] →
  ∃ outa_1 : Option Addr, ∃ outl_1 : Nat, ∃ outc_1 : Nat, ∃ wo5 : World, Sem.run Tryd.prog (Builtin.append_ #[36, 36] 36 #[(.slice outa outl outc), (.slice (some ⟨g12.w.heap.size, 0, none⟩) 1 1)]) g13.w = .ok (.slice outa_1 outl_1 outc_1) wo5 ∧ ∃ g14 : G, g14.w = wo5 ∧ Stp g.w.heap.size nobody g13 g14 ∧ (∃ m_1 : Nat, m_1 < m ∧ Inv m_1 outa_1 outl_1 outc_1 g14))
  ((CallsP Tryd.prog 42 #[(.slice outa outl outc)] g11 fun v g15 =>
  v = (.tuple ⟨[]⟩) ∧ ∀ g16 : G, Ex g15 g16 →
  R (.tuple ⟨[(.slice outa outl outc), (.int .i64 (0 : Int))]⟩) g16))))))
theorem F24_eq (x0 : Int) (x1 : Int) (x2 : ByteArray) (x3a : Option Addr) (x3l : Nat) (x3c : Nat) (g : G) (R : Value → G → Prop) : fnG cfg24 27 [.tmp 2, .tmp 3] c24 an24 [(.agg ⟨[(.int .i64 x0), (.int .i64 x1), (.string x2), (.slice x3a x3l x3c)]⟩)] g nobody R = F24 x0 x1 x2 x3a x3l x3c g R := by kernel_rfl
theorem call24 (x0 : Int) (x1 : Int) (x2 : ByteArray) (x3a : Option Addr) (x3l : Nat) (x3c : Nat) (g : G) (R : Value → G → Prop) (hF : F24 x0 x1 x2 x3a x3l x3c g R) : CallsG Tryd.prog 24 #[(.agg ⟨[(.int .i64 x0), (.int .i64 x1), (.string x2), (.slice x3a x3l x3c)]⟩)] g nobody R :=
  fn_soundG (c := cfg24) TTok FNSok mixed Tryd.func24 (show Tryd.f24.body = some c24 by kernel_rfl) (show Tryd.f24.ntmps = 27 by kernel_rfl) (show Tryd.f24.results.toList = [.tmp 2, .tmp 3] by kernel_rfl) rfl ((F24_eq x0 x1 x2 x3a x3l x3c g R ).mpr hF)

/- 25 slices.IsSorted[[]int,int] -/
noncomputable def c25 : Code := match Tryd.f25.body with
  | some c => c
  | none => .skip
noncomputable def cfg25 : Cfg := ⟨Tryd.prog, TT, FNS, [], [], [], TCH, false, false, none, PNF, false⟩
def an25 : AnnG := (.seq .leaf (.seq (.seq .leaf (.blk (.loop ⟨[(3, .int .i64)], [], []⟩ (.seq (.seq .leaf (.cond .leaf .leaf)) (.seq (.blk (.seq (.tree 9 (.quiet 0 (.quiet 1 (.quiet 2 (.quiet 3 (.quiet 4 (.quiet 5 (.quiet 6 (.quiet 7 (.quiet 8 .fin)))))))))) (.cond (.seq .leaf .leaf) .leaf))) .leaf))))) (.seq .leaf .leaf)))
def F25 (xa : Option Addr) (xl : Nat) (xc : Nat) (g : G) (R : Value → G → Prop) : Prop :=
  InI64 (((xl : Nat) : Int) - (1 : Int)) ∧ ∃ Inv : Nat → Int → G → Prop, ((∃ m0 : Nat, Inv m0 (((xl : Nat) : Int) - (1 : Int)) g)) ∧
  ∀ m : Nat, ∀ i : Int, ∀ g1 : G, Le g g1 → Inv m i g1 →
  ifB (ltI (0 : Int) i)
  (∀ g2 : G, Ex g1 g2 →
  (0 ≤ i ∧ i < ((xl : Nat) : Int)) ∧ derefP xa fun ad => ∃ x : Int, g2.w.cell? (Addr.add ad (Int.toNat i * 1)) = some (.int .i64 x) ∧ InI64 (i - (1 : Int)) ∧ (0 ≤ (i - (1 : Int)) ∧ (i - (1 : Int)) < ((xl : Nat) : Int)) ∧ derefP xa fun ad_1 => ∃ x_1 : Int, g2.w.cell? (Addr.add ad_1 (Int.toNat (i - (1 : Int)) * 1)) = some (.int .i64 x_1) ∧ (CallsP Tryd.prog 43 #[(.int .i64 x), (.int .i64 x_1)] g2 fun v g3 =>
  ∃ x_2 : Bool, v = (.bool x_2) ∧ ifB x_2
  (∀ g4 : G, Ex g3 g4 →
  R (.bool false) g4)
  (InI64 (i - (1 : Int)) ∧ (∃ m_1 : Nat, m_1 < m ∧ Inv m_1 (i - (1 : Int)) g3))))
  (∀ g5 : G, Ex g1 g5 →
  R (.bool true) g5)
theorem F25_eq (xa : Option Addr) (xl : Nat) (xc : Nat) (g : G) (R : Value → G → Prop) : fnG cfg25 21 [.tmp 2] c25 an25 [(.slice xa xl xc)] g nobody R = F25 xa xl xc g R := by kernel_rfl
theorem call25 (xa : Option Addr) (xl : Nat) (xc : Nat) (g : G) (R : Value → G → Prop) (hF : F25 xa xl xc g R) : CallsG Tryd.prog 25 #[(.slice xa xl xc)] g nobody R :=
  fn_soundG (c := cfg25) TTok FNSok mixed Tryd.func25 (show Tryd.f25.body = some c25 by kernel_rfl) (show Tryd.f25.ntmps = 21 by kernel_rfl) (show Tryd.f25.results.toList = [.tmp 2] by kernel_rfl) rfl ((F25_eq xa xl xc g R ).mpr hF)

/- 26 slices.Equal[[]int,int] -/
/- 27 pilaster/lambda.Valid -/
noncomputable def c27 : Code := match Tryd.f27.body with
  | some c => c
  | none => .skip
noncomputable def cfg27 : Cfg := ⟨Tryd.prog, TT, FNS, [1], [(1, 1)], [], TCH, false, false, none, PNF, false⟩
def an27 : AnnG := (.seq .leaf (.seq .leaf (.seq .leaf .leaf)))
def F27 (x0 : Int) (x1 : Int) (x2 : ByteArray) (x3a : Option Addr) (x3l : Nat) (x3c : Nat) (g : G) (R : Value → G → Prop) : Prop :=
  ∀ g1 : G, Ex g g1 →
  (CallsP Tryd.prog 40 #[(.agg ⟨[(.int .i64 x0), (.int .i64 x1), (.string x2), (.slice x3a x3l x3c)]⟩), (.int .i64 (20000 : Int)), (.int .i64 (1 : Int))] g1 fun v g2 =>
  ∃ x0_1 : Int, ∃ x1_1 : Bool, v = (.tuple ⟨[(.int .i64 x0_1), (.bool x1_1)]⟩) ∧ ∀ g3 : G, Ex g2 g3 →
  R (.bool x1_1) g3)
theorem F27_eq (x0 : Int) (x1 : Int) (x2 : ByteArray) (x3a : Option Addr) (x3l : Nat) (x3c : Nat) (g : G) (R : Value → G → Prop) : fnG cfg27 11 [.tmp 2] c27 an27 [(.agg ⟨[(.int .i64 x0), (.int .i64 x1), (.string x2), (.slice x3a x3l x3c)]⟩)] g nobody R = F27 x0 x1 x2 x3a x3l x3c g R := by kernel_rfl
theorem call27 (x0 : Int) (x1 : Int) (x2 : ByteArray) (x3a : Option Addr) (x3l : Nat) (x3c : Nat) (g : G) (R : Value → G → Prop) (hF : F27 x0 x1 x2 x3a x3l x3c g R) : CallsG Tryd.prog 27 #[(.agg ⟨[(.int .i64 x0), (.int .i64 x1), (.string x2), (.slice x3a x3l x3c)]⟩)] g nobody R :=
  fn_soundG (c := cfg27) TTok FNSok mixed Tryd.func27 (show Tryd.f27.body = some c27 by kernel_rfl) (show Tryd.f27.ntmps = 11 by kernel_rfl) (show Tryd.f27.results.toList = [.tmp 2] by kernel_rfl) rfl ((F27_eq x0 x1 x2 x3a x3l x3c g R ).mpr hF)

/- 28 pilaster/lambda.Equal -/
/- 29 pilaster/pilasterref44.Same -/
/- 30 pilaster/lambda.Value -/
/- 31 pilaster/pilasterref44.Size -/
/- 32 pilaster/pilasterlaw44.big$1 -/
noncomputable def c32 : Code := match Tryd.f32.body with
  | some c => c
  | none => .skip
noncomputable def cfg32 : Cfg := ⟨Tryd.prog, TT, FNS, [4], [(4, 4), (12, 4), (18, 4), (23, 4), (30, 4), (36, 4), (47, 4)], [], TCH, false, false, none, PNF, false⟩
def an32 : AnnG := (.seq .leaf (.seq .leaf (.join ⟨[], [], []⟩ (.seq .leaf (.cond .leaf .leaf)) (.seq .leaf (.blk (.loop ⟨[(6, .int .i64)], [], []⟩ (.join ⟨[], [], []⟩ (.seq .leaf (.cond .leaf .leaf)) (.seq (.blk (.tree 8 (.quiet 0 (.quiet 1 (.quiet 2 (.quiet 3 (.quiet 4 (.quiet 5 (.quiet 6 (.quiet 7 .fin)))))))))) .leaf))))))))
def F32 (x0 : Int) (x1 : Int) (x2 : ByteArray) (x3a : Option Addr) (x3l : Nat) (x3c : Nat) (depth : Int) (c0 : Option Addr) (c1 : Option Addr) (g : G) (R : Value → G → Prop) : Prop :=
  ∀ g1 : G, Ex g g1 →
  derefP c0 fun ad => ∃ x : Int, g1.w.cell? ad = some (.int .i64 x) ∧ InI64 (x + (1 : Int)) ∧ derefP c0 fun ad_1 => stOk g1.w ad_1 1 ∧ ¬ g1.X (Addr.block ad_1) ∧ mutAt g1 ad_1 1 ∧ ((Addr.block ad_1) < g.w.heap.size → nobody (Addr.block ad_1)) ∧ ∀ g2 : G, StG false g1 ad_1 [(.int .i64 (x + (1 : Int)))] g2 →
  ∀ J : G → Prop,
  (∀ g3 : G, (∃ Inv : Nat → Int → G → Prop, ((∃ m0 : Nat, Inv m0 (0 : Int) g3)) ∧
  ∀ m : Nat, ∀ i : Int, ∀ g4 : G, Le g3 g4 → Inv m i g4 →
  ∀ J_1 : G → Prop,
  (∀ g5 : G, (∀ g6 : G, Ex g5 g6 →
  derefP c1 fun ad_2 => ∃ xf : FuncId, ∃ xc : Array Value, g6.w.cell? ad_2 = some (.func (.func xf) #[] xc) ∧ (0 ≤ i ∧ i < ((x3l : Nat) : Int)) ∧ derefP x3a fun ad_3 => ∃ x0_1 : Int, ∃ x1_1 : Int, ∃ x2_1 : ByteArray, ∃ x3a_1 : Option Addr, ∃ x3l_1 : Nat, ∃ x3c_1 : Nat, g6.w.cell? (Addr.add ad_3 (Int.toNat i * 4)) = some (.int .i64 x0_1) ∧ g6.w.cell? (Addr.add (Addr.add ad_3 (Int.toNat i * 4)) 1) = some (.int .i64 x1_1) ∧ g6.w.cell? (Addr.add (Addr.add ad_3 (Int.toNat i * 4)) 2) = some (.string x2_1) ∧ g6.w.cell? (Addr.add (Addr.add ad_3 (Int.toNat i * 4)) 3) = some (.slice x3a_1 x3l_1 x3c_1) ∧ InI64 (depth + (1 : Int)) ∧ Enters Tryd.prog xf ∧ (CallsP Tryd.prog xf ((⟨[(.agg ⟨[(.int .i64 x0_1), (.int .i64 x1_1), (.string x2_1), (.slice x3a_1 x3l_1 x3c_1)]⟩), (.int .i64 (depth + (1 : Int)))]⟩ : Array Value) ++ xc) g6 fun v g7 =>
  v = (.tuple ⟨[]⟩) ∧ InI64 (i + (1 : Int)) ∧ (∃ m_1 : Nat, m_1 < m ∧ Inv m_1 (i + (1 : Int)) g7))) → J_1 g5) →
  ifB (ltI i ((x3l : Nat) : Int))
  (derefP c0 fun ad_4 => ∃ x_1 : Int, g4.w.cell? ad_4 = some (.int .i64 x_1) ∧ ifB (leI x_1 (200 : Int))
  (J_1 g4)
  (∀ g8 : G, Ex g4 g8 →
  R (.tuple ⟨[]⟩) g8))
  (∀ g9 : G, Ex g4 g9 →
  R (.tuple ⟨[]⟩) g9)) → J g3) →
  ifB (ltI (60 : Int) depth)
  (derefP c0 fun ad_5 => stOk g2.w ad_5 1 ∧ ¬ g2.X (Addr.block ad_5) ∧ mutAt g2 ad_5 1 ∧ ((Addr.block ad_5) < g.w.heap.size → nobody (Addr.block ad_5)) ∧ ∀ g10 : G, StG false g2 ad_5 [(.int .i64 (1000 : Int))] g10 →
  J g10)
  (ifB (ltI (50 : Int) ((x3l : Nat) : Int))
  (derefP c0 fun ad_6 => stOk g2.w ad_6 1 ∧ ¬ g2.X (Addr.block ad_6) ∧ mutAt g2 ad_6 1 ∧ ((Addr.block ad_6) < g.w.heap.size → nobody (Addr.block ad_6)) ∧ ∀ g11 : G, StG false g2 ad_6 [(.int .i64 (1000 : Int))] g11 →
  J g11)
  (ifB (ltI (1000 : Int) ((x2.size : Nat) : Int))
  (ifB (leI ((x2.size : Nat) : Int) (16384 : Int))
  (derefP c0 fun ad_7 => stOk g2.w ad_7 1 ∧ ¬ g2.X (Addr.block ad_7) ∧ mutAt g2 ad_7 1 ∧ ((Addr.block ad_7) < g.w.heap.size → nobody (Addr.block ad_7)) ∧ ∀ g12 : G, StG false g2 ad_7 [(.int .i64 (1000 : Int))] g12 →
  J g12)
  (ifB (ltI (20000 : Int) ((x2.size : Nat) : Int))
  (derefP c0 fun ad_8 => stOk g2.w ad_8 1 ∧ ¬ g2.X (Addr.block ad_8) ∧ mutAt g2 ad_8 1 ∧ ((Addr.block ad_8) < g.w.heap.size → nobody (Addr.block ad_8)) ∧ ∀ g13 : G, StG false g2 ad_8 [(.int .i64 (1000 : Int))] g13 →
  J g13)
  (J g2)))
  (ifB (ltI (20000 : Int) ((x2.size : Nat) : Int))
  (derefP c0 fun ad_9 => stOk g2.w ad_9 1 ∧ ¬ g2.X (Addr.block ad_9) ∧ mutAt g2 ad_9 1 ∧ ((Addr.block ad_9) < g.w.heap.size → nobody (Addr.block ad_9)) ∧ ∀ g14 : G, StG false g2 ad_9 [(.int .i64 (1000 : Int))] g14 →
  J g14)
  (J g2))))
theorem F32_eq (x0 : Int) (x1 : Int) (x2 : ByteArray) (x3a : Option Addr) (x3l : Nat) (x3c : Nat) (depth : Int) (c0 : Option Addr) (c1 : Option Addr) (g : G) (R : Value → G → Prop) : fnG cfg32 55 [] c32 an32 [(.agg ⟨[(.int .i64 x0), (.int .i64 x1), (.string x2), (.slice x3a x3l x3c)]⟩), (.int .i64 depth), (.pointer c0), (.pointer c1)] g nobody R = F32 x0 x1 x2 x3a x3l x3c depth c0 c1 g R := by kernel_rfl
theorem call32 (x0 : Int) (x1 : Int) (x2 : ByteArray) (x3a : Option Addr) (x3l : Nat) (x3c : Nat) (depth : Int) (c0 : Option Addr) (c1 : Option Addr) (g : G) (R : Value → G → Prop) (hF : F32 x0 x1 x2 x3a x3l x3c depth c0 c1 g R) : CallsG Tryd.prog 32 #[(.agg ⟨[(.int .i64 x0), (.int .i64 x1), (.string x2), (.slice x3a x3l x3c)]⟩), (.int .i64 depth), (.pointer c0), (.pointer c1)] g nobody R :=
  fn_soundG (c := cfg32) TTok FNSok mixed Tryd.func32 (show Tryd.f32.body = some c32 by kernel_rfl) (show Tryd.f32.ntmps = 55 by kernel_rfl) (show Tryd.f32.results.toList = [] by kernel_rfl) rfl ((F32_eq x0 x1 x2 x3a x3l x3c depth c0 c1 g R ).mpr hF)

/- 33 pilaster/lambda.closed -/
noncomputable def c33 : Code := match Tryd.f33.body with
  | some c => c
  | none => .skip
noncomputable def cfg33 : Cfg := ⟨Tryd.prog, TT, FNS, [1], [(1, 1)], [], TCH, false, false, none, PNF, false⟩
def an33 : AnnG := (.seq .leaf (.seq .leaf (.seq .leaf .leaf)))
def F33 (x0 : Int) (x1 : Int) (x2 : ByteArray) (x3a : Option Addr) (x3l : Nat) (x3c : Nat) (g : G) (R : Value → G → Prop) : Prop :=
  ∀ g1 : G, Ex g g1 →
  (CallsP Tryd.prog 24 #[(.agg ⟨[(.int .i64 x0), (.int .i64 x1), (.string x2), (.slice x3a x3l x3c)]⟩)] g1 fun v g2 =>
  ∃ x0a : Option Addr, ∃ x0l : Nat, ∃ x0c : Nat, ∃ x1_1 : Int, v = (.tuple ⟨[(.slice x0a x0l x0c), (.int .i64 x1_1)]⟩) ∧ ifB (eqI x1_1 (0 : Int))
  (∀ g3 : G, Ex g2 g3 →
  R (.bool (eqI ((x0l : Nat) : Int) (0 : Int))) g3)
  (∀ g4 : G, Ex g2 g4 →
  R (.bool false) g4))
theorem F33_eq (x0 : Int) (x1 : Int) (x2 : ByteArray) (x3a : Option Addr) (x3l : Nat) (x3c : Nat) (g : G) (R : Value → G → Prop) : fnG cfg33 17 [.tmp 2] c33 an33 [(.agg ⟨[(.int .i64 x0), (.int .i64 x1), (.string x2), (.slice x3a x3l x3c)]⟩)] g nobody R = F33 x0 x1 x2 x3a x3l x3c g R := by kernel_rfl
theorem call33 (x0 : Int) (x1 : Int) (x2 : ByteArray) (x3a : Option Addr) (x3l : Nat) (x3c : Nat) (g : G) (R : Value → G → Prop) (hF : F33 x0 x1 x2 x3a x3l x3c g R) : CallsG Tryd.prog 33 #[(.agg ⟨[(.int .i64 x0), (.int .i64 x1), (.string x2), (.slice x3a x3l x3c)]⟩)] g nobody R :=
  fn_soundG (c := cfg33) TTok FNSok mixed Tryd.func33 (show Tryd.f33.body = some c33 by kernel_rfl) (show Tryd.f33.ntmps = 17 by kernel_rfl) (show Tryd.f33.results.toList = [.tmp 2] by kernel_rfl) rfl ((F33_eq x0 x1 x2 x3a x3l x3c g R ).mpr hF)

/- 35 pilaster/pilasterref44.count -/
noncomputable def c35 : Code := match Tryd.f35.body with
  | some c => c
  | none => .skip
noncomputable def cfg35 : Cfg := ⟨Tryd.prog, TT, FNS, [3], [(3, 3), (22, 3), (32, 3)], [], TCH, false, false, none, PNF, false⟩
def an35 : AnnG := (.seq .leaf (.join ⟨[], [], []⟩ (.seq .leaf (.cond (.seq .leaf .leaf) .leaf)) (.seq .leaf (.seq (.seq .leaf (.blk (.loop ⟨[(1, .int .i64), (7, .int .i64)], [], []⟩ (.join ⟨[], [], []⟩ (.seq .leaf (.cond .leaf .leaf)) (.seq (.blk .leaf) .leaf))))) (.seq .leaf .leaf)))))
def F35 (x0 : Int) (x1 : Int) (x2 : ByteArray) (x3a : Option Addr) (x3l : Nat) (x3c : Nat) (left : Int) (depth : Int) (g : G) (R : Value → G → Prop) : Prop :=
  ∀ J : G → Prop,
  (∀ g1 : G, (InI64 (left - (1 : Int)) ∧ ∃ Inv : Nat → Int → Int → G → Prop, ((∃ m0 : Nat, Inv m0 (left - (1 : Int)) (0 : Int) g1)) ∧
  ∀ m : Nat, ∀ left_1 : Int, ∀ i : Int, ∀ g2 : G, Le g1 g2 → Inv m left_1 i g2 →
  ∀ J_1 : G → Prop,
  (∀ g3 : G, ((0 ≤ i ∧ i < ((x3l : Nat) : Int)) ∧ derefP x3a fun ad => ∃ x0_1 : Int, ∃ x1_1 : Int, ∃ x2_1 : ByteArray, ∃ x3a_1 : Option Addr, ∃ x3l_1 : Nat, ∃ x3c_1 : Nat, g3.w.cell? (Addr.add ad (Int.toNat i * 4)) = some (.int .i64 x0_1) ∧ g3.w.cell? (Addr.add (Addr.add ad (Int.toNat i * 4)) 1) = some (.int .i64 x1_1) ∧ g3.w.cell? (Addr.add (Addr.add ad (Int.toNat i * 4)) 2) = some (.string x2_1) ∧ g3.w.cell? (Addr.add (Addr.add ad (Int.toNat i * 4)) 3) = some (.slice x3a_1 x3l_1 x3c_1) ∧ InI64 (depth - (1 : Int)) ∧ (CallsP Tryd.prog 35 #[(.agg ⟨[(.int .i64 x0_1), (.int .i64 x1_1), (.string x2_1), (.slice x3a_1 x3l_1 x3c_1)]⟩), (.int .i64 left_1), (.int .i64 (depth - (1 : Int)))] g3 fun v g4 =>
  ∃ left_2 : Int, v = (.int .i64 left_2) ∧ InI64 (i + (1 : Int)) ∧ (∃ m_1 : Nat, m_1 < m ∧ Inv m_1 left_2 (i + (1 : Int)) g4))) → J_1 g3) →
  ifB (ltI i ((x3l : Nat) : Int))
  (ifB (leI (0 : Int) left_1)
  (J_1 g2)
  (∀ g5 : G, Ex g2 g5 →
  R (.int .i64 left_1) g5))
  (∀ g6 : G, Ex g2 g6 →
  R (.int .i64 left_1) g6)) → J g1) →
  ifB (ltI left (1 : Int))
  (∀ g7 : G, Ex g g7 →
  R (.int .i64 (-1 : Int)) g7)
  (ifB (ltI depth (1 : Int))
  (∀ g8 : G, Ex g g8 →
  R (.int .i64 (-1 : Int)) g8)
  (∀ g9 : G, Ex g g9 →
  (CallsP Tryd.prog 49 #[(.agg ⟨[(.int .i64 x0), (.int .i64 x1), (.string x2), (.slice x3a x3l x3c)]⟩)] g9 fun v g10 =>
  ∃ x : Bool, v = (.bool x) ∧ ifB (!x)
  (∀ g11 : G, Ex g10 g11 →
  R (.int .i64 (-1 : Int)) g11)
  (J g10))))
theorem F35_eq (x0 : Int) (x1 : Int) (x2 : ByteArray) (x3a : Option Addr) (x3l : Nat) (x3c : Nat) (left : Int) (depth : Int) (g : G) (R : Value → G → Prop) : fnG cfg35 42 [.tmp 6] c35 an35 [(.agg ⟨[(.int .i64 x0), (.int .i64 x1), (.string x2), (.slice x3a x3l x3c)]⟩), (.int .i64 left), (.int .i64 depth)] g nobody R = F35 x0 x1 x2 x3a x3l x3c left depth g R := by kernel_rfl
theorem call35 (x0 : Int) (x1 : Int) (x2 : ByteArray) (x3a : Option Addr) (x3l : Nat) (x3c : Nat) (left : Int) (depth : Int) (g : G) (R : Value → G → Prop) (hF : F35 x0 x1 x2 x3a x3l x3c left depth g R) : CallsG Tryd.prog 35 #[(.agg ⟨[(.int .i64 x0), (.int .i64 x1), (.string x2), (.slice x3a x3l x3c)]⟩), (.int .i64 left), (.int .i64 depth)] g nobody R :=
  fn_soundG (c := cfg35) TTok FNSok mixed Tryd.func35 (show Tryd.f35.body = some c35 by kernel_rfl) (show Tryd.f35.ntmps = 42 by kernel_rfl) (show Tryd.f35.results.toList = [.tmp 6] by kernel_rfl) rfl ((F35_eq x0 x1 x2 x3a x3l x3c left depth g R ).mpr hF)

/- 36 pilaster/pilasterref44.free -/
noncomputable def c36 : Code := match Tryd.f36.body with
  | some c => c
  | none => .skip
noncomputable def cfg36 : Cfg := ⟨Tryd.prog, TT, FNS, [3], [(3, 3), (8, 3), (12, 3), (18, 3), (24, 3), (30, 3)], [], TCH, false, false, none, PNF, false⟩
def an36 : AnnG := (.seq .leaf (.seq (.join ⟨[(16, .bool)], [], []⟩ .leaf (.cond (.seq .leaf .leaf) .leaf)) (.seq (.seq .leaf (.blk (.loop ⟨[(2, .sl), (7, .int .i64)], [], []⟩ (.seq (.seq .leaf (.cond .leaf .leaf)) (.seq (.blk (.tree 11 (.quiet 0 (.quiet 1 (.quiet 2 (.quiet 3 (.quiet 4 (.quiet 5 (.quiet 6 (.quiet 7 (.quiet 10 (.eff 8 (.quiet 9 .fin) .fin)))))))))))) .leaf))))) (.seq .leaf .leaf))))
def F36 (x0 : Int) (x1 : Int) (x2 : ByteArray) (x3a : Option Addr) (x3l : Nat) (x3c : Nat) (under : Int) (la : Option Addr) (ll : Nat) (lc : Nat) (g : G) (R : Value → G → Prop) : Prop :=
  ∀ J : Bool → G → Prop,
  (∀ v_1 : Bool, ∀ g1 : G, (ifB v_1
  (InI64 (x1 - under) ∧ (CallsP Tryd.prog 50 #[(.slice la ll lc), (.int .i64 (x1 - under))] g1 fun v g2 =>
  ∃ xa : Option Addr, ∃ xl : Nat, ∃ xc : Nat, v = (.slice xa xl xc) ∧ ∀ g3 : G, Ex g2 g3 →
  R (.slice xa xl xc) g3))
  (∃ Inv : Nat → Option Addr → Nat → Nat → Int → G → Prop, ((∃ m0 : Nat, Inv m0 la ll lc (0 : Int) g1)) ∧
  ∀ m : Nat, ∀ la_1 : Option Addr, ∀ ll_1 : Nat, ∀ lc_1 : Nat, ∀ i : Int, ∀ g4 : G, Le g1 g4 → Inv m la_1 ll_1 lc_1 i g4 →
  ifB (ltI i ((x3l : Nat) : Int))
  (∀ g5 : G, Ex g4 g5 →
  (0 ≤ i ∧ i < ((x3l : Nat) : Int)) ∧ derefP x3a fun ad => ∃ x0_1 : Int, ∃ x1_1 : Int, ∃ x2_1 : ByteArray, ∃ x3a_1 : Option Addr, ∃ x3l_1 : Nat, ∃ x3c_1 : Nat, g5.w.cell? (Addr.add ad (Int.toNat i * 4)) = some (.int .i64 x0_1) ∧ g5.w.cell? (Addr.add (Addr.add ad (Int.toNat i * 4)) 1) = some (.int .i64 x1_1) ∧ g5.w.cell? (Addr.add (Addr.add ad (Int.toNat i * 4)) 2) = some (.string x2_1) ∧ g5.w.cell? (Addr.add (Addr.add ad (Int.toNat i * 4)) 3) = some (.slice x3a_1 x3l_1 x3c_1) ∧ (CallsP Tryd.prog 51 #[(.agg ⟨[(.int .i64 x0), (.int .i64 x1), (.string x2), (.slice x3a x3l x3c)]⟩), (.int .i64 i)] g5 fun v g6 =>
  ∃ x : Int, v = (.int .i64 x) ∧ InI64 (under + x) ∧ (CallsP Tryd.prog 36 #[(.agg ⟨[(.int .i64 x0_1), (.int .i64 x1_1), (.string x2_1), (.slice x3a_1 x3l_1 x3c_1)]⟩), (.int .i64 (under + x)), (.slice la_1 ll_1 lc_1)] g6 fun v g7 =>
  ∃ la_2 : Option Addr, ∃ ll_2 : Nat, ∃ lc_2 : Nat, v = (.slice la_2 ll_2 lc_2) ∧ InI64 (i + (1 : Int)) ∧ (∃ m_1 : Nat, m_1 < m ∧ Inv m_1 la_2 ll_2 lc_2 (i + (1 : Int)) g7))))
  (∀ g8 : G, Ex g4 g8 →
  R (.slice la_1 ll_1 lc_1) g8))) → J v_1 g1) →
  ifB (eqI x0 (1 : Int))
  (∀ g9 : G, Ex g g9 →
  J (leI under x1) g9)
  (∀ g10 : G, Ex g g10 →
  J false g10)
theorem F36_eq (x0 : Int) (x1 : Int) (x2 : ByteArray) (x3a : Option Addr) (x3l : Nat) (x3c : Nat) (under : Int) (la : Option Addr) (ll : Nat) (lc : Nat) (g : G) (R : Value → G → Prop) : fnG cfg36 43 [.tmp 6] c36 an36 [(.agg ⟨[(.int .i64 x0), (.int .i64 x1), (.string x2), (.slice x3a x3l x3c)]⟩), (.int .i64 under), (.slice la ll lc)] g nobody R = F36 x0 x1 x2 x3a x3l x3c under la ll lc g R := by kernel_rfl
theorem call36 (x0 : Int) (x1 : Int) (x2 : ByteArray) (x3a : Option Addr) (x3l : Nat) (x3c : Nat) (under : Int) (la : Option Addr) (ll : Nat) (lc : Nat) (g : G) (R : Value → G → Prop) (hF : F36 x0 x1 x2 x3a x3l x3c under la ll lc g R) : CallsG Tryd.prog 36 #[(.agg ⟨[(.int .i64 x0), (.int .i64 x1), (.string x2), (.slice x3a x3l x3c)]⟩), (.int .i64 under), (.slice la ll lc)] g nobody R :=
  fn_soundG (c := cfg36) TTok FNSok mixed Tryd.func36 (show Tryd.f36.body = some c36 by kernel_rfl) (show Tryd.f36.ntmps = 43 by kernel_rfl) (show Tryd.f36.results.toList = [.tmp 6] by kernel_rfl) rfl ((F36_eq x0 x1 x2 x3a x3l x3c under la ll lc g R ).mpr hF)

/- 37 pilaster/pilasterref44.run -/
noncomputable def c37 : Code := match Tryd.f37.body with
  | some c => c
  | none => .skip
noncomputable def cfg37 : Cfg := ⟨Tryd.prog, TT, FNS, [3, 5, 6, 7, 8, 9, 10, 11, 13], [(3, 3), (5, 5), (6, 6), (7, 7), (8, 8), (9, 9), (10, 10), (11, 11), (13, 13), (15, 5), (17, 5), (24, 5), (27, 5), (28, 3), (36, 3), (44, 3), (50, 3), (56, 3), (65, 5), (67, 5), (74, 5), (77, 5), (78, 3), (91, 3), (99, 3), (108, 9), (113, 3), (127, 3), (136, 11), (141, 10), (145, 10), (147, 3), (157, 3), (159, 10), (165, 10), (175, 3), (182, 5), (187, 3), (194, 13), (201, 13), (203, 13), (208, 13), (232, 3), (249, 3), (256, 3), (261, 3)], [], TCH, false, false, none, PNF, false⟩
def an37 : AnnG := (.seq .leaf (.seq (.seq .leaf (.cond (.seq .leaf .leaf) .leaf)) (.seq .leaf (.seq (.seq .leaf (.blk (.seq .leaf (.cond (.seq (.treeP false [6, 7] 11 (.quiet 0 (.quiet 1 (.quiet 2 (.quiet 3 (.quiet 4 (.quiet 5 (.quiet 6 (.quiet 7 (.quiet 8 (.quiet 9 (.eff 10 .fin .fin)))))))))))) .leaf) (.seq .leaf (.cond (.seq (.treeP false [6, 7] 5 (.quiet 0 (.quiet 1 (.quiet 3 (.eff 2 (.eff 4 .fin .fin) .fin))))) .leaf) (.seq .leaf (.cond (.seq (.treeP false [6, 7] 5 (.quiet 0 (.quiet 1 (.quiet 3 (.eff 2 (.eff 4 .fin .fin) .fin))))) .leaf) (.seq .leaf (.cond (.seq (.treeP false [6, 7] 8 (.quiet 0 (.quiet 1 (.quiet 2 (.quiet 3 (.quiet 4 (.quiet 6 (.eff 5 (.eff 7 .fin .fin) .fin)))))))) .leaf) (.seq .leaf (.cond (.seq (.seq .leaf (.cond (.seq .leaf .leaf) .leaf)) (.seq .leaf (.seq (.treeP false [6, 7] 11 (.quiet 0 (.quiet 1 (.quiet 2 (.quiet 3 (.quiet 4 (.quiet 5 (.quiet 6 (.quiet 7 (.quiet 9 (.eff 8 (.eff 10 .fin .fin) .fin))))))))))) .leaf))) (.seq .leaf (.cond (.seq .leaf .leaf) (.seq .leaf (.cond (.join ⟨[], [(8, 8, 0), (9, 9, 0)], [(8, [(.int .i64), (.int .i64), (.str), (.sl), (.int .i64), (.int .i64), (.str), (.sl), (.sl), (.bool)]), (9, [(.int .i64), (.int .i64), (.sl), (.int .i64), (.int .i64)])]⟩ (.treeP false [] 13 (.quiet 0 (.quiet 1 (.quiet 2 (.quiet 3 (.quiet 4 (.quiet 5 (.eff 6 (.quiet 7 (.quiet 8 (.quiet 9 (.eff 10 (.eff 11 (.eff 12 .fin .fin) .fin) (.eff 11 (.eff 10 (.eff 12 .fin .fin) .fin) .fin))))) (.eff 10 (.eff 6 (.quiet 7 (.quiet 8 (.quiet 9 (.eff 11 (.eff 12 .fin .fin) .fin)))) (.eff 11 (.eff 6 (.quiet 7 (.quiet 8 (.quiet 9 (.eff 12 .fin .fin)))) .fin) .fin)) (.eff 11 (.eff 6 (.quiet 7 (.quiet 8 (.quiet 9 (.eff 10 (.eff 12 .fin .fin) .fin)))) (.eff 10 (.eff 6 (.quiet 7 (.quiet 8 (.quiet 9 (.eff 12 .fin .fin)))) .fin) .fin)) .fin)))))))))) (.seq (.seq .leaf (.cond (.seq (.treeP false [6, 7] 3 (.quiet 0 (.quiet 1 (.eff 2 .fin .fin)))) .leaf) .leaf)) (.seq (.treeP false [6, 7] 11 (.quiet 0 (.quiet 1 (.quiet 2 (.quiet 3 (.quiet 4 (.quiet 5 (.quiet 7 (.eff 6 (.eff 8 (.quiet 9 (.quiet 10 .fin)) .fin) .fin))))))))) .leaf))) (.seq .leaf (.cond (.join ⟨[], [(10, 10, 0), (11, 11, 0)], [(10, [(.int .i64), (.int .i64), (.str), (.sl), (.int .i64), (.int .i64), (.str), (.sl), (.sl), (.bool)]), (11, [(.int .i64), (.int .i64), (.sl), (.int .i64), (.int .i64)])]⟩ (.treeP false [] 13 (.quiet 0 (.quiet 1 (.quiet 2 (.quiet 3 (.quiet 4 (.quiet 5 (.eff 6 (.quiet 7 (.quiet 8 (.quiet 9 (.eff 10 (.eff 11 (.eff 12 .fin .fin) .fin) (.eff 11 (.eff 10 (.eff 12 .fin .fin) .fin) .fin))))) (.eff 10 (.eff 6 (.quiet 7 (.quiet 8 (.quiet 9 (.eff 11 (.eff 12 .fin .fin) .fin)))) (.eff 11 (.eff 6 (.quiet 7 (.quiet 8 (.quiet 9 (.eff 12 .fin .fin)))) .fin) .fin)) (.eff 11 (.eff 6 (.quiet 7 (.quiet 8 (.quiet 9 (.eff 10 (.eff 12 .fin .fin) .fin)))) (.eff 10 (.eff 6 (.quiet 7 (.quiet 8 (.quiet 9 (.eff 12 .fin .fin)))) .fin) .fin)) .fin)))))))))) (.seq (.seq .leaf (.cond (.seq (.treeP false [6, 7] 3 (.quiet 0 (.quiet 1 (.eff 2 .fin .fin)))) .leaf) .leaf)) (.join ⟨[], [(6, 6, 0), (7, 7, 0)], [(6, [(.int .i64), (.int .i64), (.str), (.sl), (.int .i64), (.int .i64), (.str), (.sl), (.sl), (.bool)]), (7, [(.int .i64), (.int .i64), (.sl), (.int .i64), (.int .i64)])]⟩ (.seq .leaf (.cond (.seq .leaf .leaf) .leaf)) (.seq (.treeP false [6, 7] 17 (.quiet 0 (.quiet 1 (.quiet 2 (.quiet 3 (.quiet 4 (.quiet 5 (.quiet 6 (.quiet 7 (.quiet 8 (.quiet 9 (.quiet 10 (.quiet 11 (.quiet 13 (.eff 12 (.eff 14 (.quiet 15 (.quiet 16 .fin)) .fin) .fin))))))))))))))) .leaf)))) .leaf)))))))))))))))))) (.seq .leaf (.seq (.seq .leaf (.cond (.seq (.treeP false [6, 7] 3 (.quiet 1 (.eff 0 (.eff 2 .fin .fin) .fin))) .leaf) .leaf)) (.seq (.seq .leaf (.blk (.seq .leaf (.cond (.seq .leaf (.seq (.seq .leaf (.cond (.seq .leaf .leaf) .leaf)) (.seq .leaf (.join ⟨[(14, .sl)], [], []⟩ (.seq .leaf (.cond .leaf .leaf)) (.seq (.treeP false [6, 7] 11 (.quiet 0 (.quiet 1 (.quiet 2 (.quiet 3 (.quiet 4 (.quiet 5 (.quiet 7 (.eff 6 (.eff 8 (.quiet 9 (.quiet 10 .fin)) .fin) .fin))))))))) .leaf))))) (.seq .leaf (.cond (.seq (.treeP false [6, 7] 4 (.quiet 0 (.quiet 2 (.eff 1 (.eff 3 .fin .fin) .fin)))) .leaf) (.seq .leaf (.cond (.join ⟨[], [(6, 6, 0), (7, 7, 0)], [(6, [(.int .i64), (.int .i64), (.str), (.sl), (.int .i64), (.int .i64), (.str), (.sl), (.sl), (.bool)]), (7, [(.int .i64), (.int .i64), (.sl), (.int .i64), (.int .i64)])]⟩ (.seq (.tree 13 (.quiet 0 (.quiet 1 (.quiet 2 (.quiet 3 (.quiet 4 (.quiet 5 (.quiet 6 (.quiet 7 (.quiet 8 (.quiet 9 (.quiet 10 (.quiet 11 (.quiet 12 .fin)))))))))))))) (.cond (.seq .leaf .leaf) .leaf)) (.seq (.treeP false [6, 7] 10 (.quiet 0 (.quiet 1 (.quiet 2 (.quiet 3 (.quiet 4 (.quiet 5 (.quiet 6 (.quiet 7 (.quiet 8 (.eff 9 .fin .fin))))))))))) .leaf)) (.seq .leaf (.cond (.seq (.treeP false [6, 7] 6 (.quiet 0 (.quiet 1 (.quiet 2 (.quiet 4 (.eff 3 (.eff 5 .fin .fin) .fin)))))) .leaf) .leaf)))))))))) (.seq .leaf .leaf))))))))
def F37 (x0 : Int) (x1 : Int) (x2 : ByteArray) (x3a : Option Addr) (x3l : Nat) (x3c : Nat) (enva : Option Addr) (envl : Nat) (envc : Nat) (s0 : Int) (s1 : Int) (s2a : Option Addr) (s2l : Nat) (s2c : Nat) (s3 : Int) (s4 : Int) (g : G) (R : Value → G → Prop) : Prop :=
  ifB (leI s0 s1)
  (∀ g1 : G, Ex g g1 →
  (CallsP Tryd.prog 52 #[(.agg ⟨[(.int .i64 s0), (.int .i64 s1), (.slice s2a s2l s2c), (.int .i64 s3), (.int .i64 s4)]⟩), (.int .i64 (3 : Int)), (.int .i64 (0 : Int))] g1 fun v g2 =>
  ∃ x00 : Int, ∃ x01 : Int, ∃ x02 : ByteArray, ∃ x03a : Option Addr, ∃ x03l : Nat, ∃ x03c : Nat, ∃ x04 : Int, ∃ x05 : Int, ∃ x06 : ByteArray, ∃ x07a : Option Addr, ∃ x07l : Nat, ∃ x07c : Nat, ∃ x08a : Option Addr, ∃ x08l : Nat, ∃ x08c : Nat, ∃ x09 : Bool, ∃ x10 : Int, ∃ x11 : Int, ∃ x12a : Option Addr, ∃ x12l : Nat, ∃ x12c : Nat, ∃ x13 : Int, ∃ x14 : Int, v = (.tuple ⟨[(.agg ⟨[(.int .i64 x00), (.int .i64 x01), (.string x02), (.slice x03a x03l x03c), (.int .i64 x04), (.int .i64 x05), (.string x06), (.slice x07a x07l x07c), (.slice x08a x08l x08c), (.bool x09)]⟩), (.agg ⟨[(.int .i64 x10), (.int .i64 x11), (.slice x12a x12l x12c), (.int .i64 x13), (.int .i64 x14)]⟩)]⟩) ∧ ∀ g3 : G, Ex g2 g3 →
  R (.tuple ⟨[(.agg ⟨[(.int .i64 x00), (.int .i64 x01), (.string x02), (.slice x03a x03l x03c), (.int .i64 x04), (.int .i64 x05), (.string x06), (.slice x07a x07l x07c), (.slice x08a x08l x08c), (.bool x09)]⟩), (.agg ⟨[(.int .i64 x10), (.int .i64 x11), (.slice x12a x12l x12c), (.int .i64 x13), (.int .i64 x14)]⟩)]⟩) g3))
  (InI64 (s1 + (1 : Int)) ∧ ifB (eqI x0 (1 : Int))
  (∀ g4 : G, Ex g g4 →
  InI64 (((envl : Nat) : Int) - (1 : Int)) ∧ InI64 ((((envl : Nat) : Int) - (1 : Int)) - x1) ∧ (0 ≤ ((((envl : Nat) : Int) - (1 : Int)) - x1) ∧ ((((envl : Nat) : Int) - (1 : Int)) - x1) < ((envl : Nat) : Int)) ∧ derefP enva fun ad => ¬ g4.X (Addr.block (Addr.add ad (Int.toNat ((((envl : Nat) : Int) - (1 : Int)) - x1) * 10))) ∧ ∃ x0_1 : Int, ∃ x1_1 : Int, ∃ x2_1 : ByteArray, ∃ x3a_1 : Option Addr, ∃ x3l_1 : Nat, ∃ x3c_1 : Nat, ∃ x4 : Int, ∃ x5 : Int, ∃ x6 : ByteArray, ∃ x7a : Option Addr, ∃ x7l : Nat, ∃ x7c : Nat, ∃ x8a : Option Addr, ∃ x8l : Nat, ∃ x8c : Nat, ∃ x9 : Bool, g4.w.cell? (Addr.add ad (Int.toNat ((((envl : Nat) : Int) - (1 : Int)) - x1) * 10)) = some (.int .i64 x0_1) ∧ g4.w.cell? (Addr.add (Addr.add ad (Int.toNat ((((envl : Nat) : Int) - (1 : Int)) - x1) * 10)) 1) = some (.int .i64 x1_1) ∧ g4.w.cell? (Addr.add (Addr.add ad (Int.toNat ((((envl : Nat) : Int) - (1 : Int)) - x1) * 10)) 2) = some (.string x2_1) ∧ g4.w.cell? (Addr.add (Addr.add ad (Int.toNat ((((envl : Nat) : Int) - (1 : Int)) - x1) * 10)) 3) = some (.slice x3a_1 x3l_1 x3c_1) ∧ g4.w.cell? (Addr.add (Addr.add ad (Int.toNat ((((envl : Nat) : Int) - (1 : Int)) - x1) * 10)) 4) = some (.int .i64 x4) ∧ g4.w.cell? (Addr.add (Addr.add ad (Int.toNat ((((envl : Nat) : Int) - (1 : Int)) - x1) * 10)) 5) = some (.int .i64 x5) ∧ g4.w.cell? (Addr.add (Addr.add ad (Int.toNat ((((envl : Nat) : Int) - (1 : Int)) - x1) * 10)) 6) = some (.string x6) ∧ g4.w.cell? (Addr.add (Addr.add ad (Int.toNat ((((envl : Nat) : Int) - (1 : Int)) - x1) * 10)) 7) = some (.slice x7a x7l x7c) ∧ g4.w.cell? (Addr.add (Addr.add ad (Int.toNat ((((envl : Nat) : Int) - (1 : Int)) - x1) * 10)) 8) = some (.slice x8a x8l x8c) ∧ g4.w.cell? (Addr.add (Addr.add ad (Int.toNat ((((envl : Nat) : Int) - (1 : Int)) - x1) * 10)) 9) = some (.bool x9) ∧ ∀ g5 : G, Ex g4 g5 →
  R (.tuple ⟨[(.agg ⟨[(.int .i64 x0_1), (.int .i64 x1_1), (.string x2_1), (.slice x3a_1 x3l_1 x3c_1), (.int .i64 x4), (.int .i64 x5), (.string x6), (.slice x7a x7l x7c), (.slice x8a x8l x8c), (.bool x9)]⟩), (.agg ⟨[(.int .i64 s0), (.int .i64 (s1 + (1 : Int))), (.slice s2a s2l s2c), (.int .i64 s3), (.int .i64 s4)]⟩)]⟩) g5)
  (ifB (eqI x0 (2 : Int))
  (∀ g6 : G, Ex g g6 →
  ∀ g7 : G, Ex g6 g7 →
  ∀ g8 : G, Ex g7 g8 →
  R (.tuple ⟨[(.agg ⟨[(.int .i64 (1 : Int)), (.int .i64 x1), (.string (bs [])), (.slice none 0 0), (.int .i64 (0 : Int)), (.int .i64 (0 : Int)), (.string (bs [])), (.slice none 0 0), (.slice none 0 0), (.bool false)]⟩), (.agg ⟨[(.int .i64 s0), (.int .i64 (s1 + (1 : Int))), (.slice s2a s2l s2c), (.int .i64 s3), (.int .i64 s4)]⟩)]⟩) g8)
  (ifB (eqI x0 (3 : Int))
  (∀ g9 : G, Ex g g9 →
  ∀ g10 : G, Ex g9 g10 →
  ∀ g11 : G, Ex g10 g11 →
  R (.tuple ⟨[(.agg ⟨[(.int .i64 (2 : Int)), (.int .i64 (0 : Int)), (.string x2), (.slice none 0 0), (.int .i64 (0 : Int)), (.int .i64 (0 : Int)), (.string (bs [])), (.slice none 0 0), (.slice none 0 0), (.bool false)]⟩), (.agg ⟨[(.int .i64 s0), (.int .i64 (s1 + (1 : Int))), (.slice s2a s2l s2c), (.int .i64 s3), (.int .i64 s4)]⟩)]⟩) g11)
  (ifB (eqI x0 (4 : Int))
  (∀ g12 : G, Ex g g12 →
  (0 ≤ (0 : Int) ∧ (0 : Int) < ((x3l : Nat) : Int)) ∧ derefP x3a fun ad_1 => ¬ g12.X (Addr.block (Addr.add ad_1 (Int.toNat (0 : Int) * 4))) ∧ ∃ x0_2 : Int, ∃ x1_2 : Int, ∃ x2_2 : ByteArray, ∃ x3a_2 : Option Addr, ∃ x3l_2 : Nat, ∃ x3c_2 : Nat, g12.w.cell? (Addr.add ad_1 (Int.toNat (0 : Int) * 4)) = some (.int .i64 x0_2) ∧ g12.w.cell? (Addr.add (Addr.add ad_1 (Int.toNat (0 : Int) * 4)) 1) = some (.int .i64 x1_2) ∧ g12.w.cell? (Addr.add (Addr.add ad_1 (Int.toNat (0 : Int) * 4)) 2) = some (.string x2_2) ∧ g12.w.cell? (Addr.add (Addr.add ad_1 (Int.toNat (0 : Int) * 4)) 3) = some (.slice x3a_2 x3l_2 x3c_2) ∧ ∀ g13 : G, Ex g12 g13 →
  ∀ g14 : G, Ex g13 g14 →
  R (.tuple ⟨[(.agg ⟨[(.int .i64 (7 : Int)), (.int .i64 (0 : Int)), (.string (bs [])), (.slice none 0 0), (.int .i64 x0_2), (.int .i64 x1_2), (.string x2_2), (.slice x3a_2 x3l_2 x3c_2), (.slice enva envl envc), (.bool false)]⟩), (.agg ⟨[(.int .i64 s0), (.int .i64 (s1 + (1 : Int))), (.slice s2a s2l s2c), (.int .i64 s3), (.int .i64 s4)]⟩)]⟩) g14)
  (ifB (eqI x0 (10 : Int))
  (ifB (leI s0 (s1 + (1 : Int)))
  (∀ g15 : G, Ex g g15 →
  (CallsP Tryd.prog 52 #[(.agg ⟨[(.int .i64 s0), (.int .i64 (s1 + (1 : Int))), (.slice s2a s2l s2c), (.int .i64 s3), (.int .i64 s4)]⟩), (.int .i64 (3 : Int)), (.int .i64 (0 : Int))] g15 fun v g16 =>
  ∃ x00_1 : Int, ∃ x01_1 : Int, ∃ x02_1 : ByteArray, ∃ x03a_1 : Option Addr, ∃ x03l_1 : Nat, ∃ x03c_1 : Nat, ∃ x04_1 : Int, ∃ x05_1 : Int, ∃ x06_1 : ByteArray, ∃ x07a_1 : Option Addr, ∃ x07l_1 : Nat, ∃ x07c_1 : Nat, ∃ x08a_1 : Option Addr, ∃ x08l_1 : Nat, ∃ x08c_1 : Nat, ∃ x09_1 : Bool, ∃ x10_1 : Int, ∃ x11_1 : Int, ∃ x12a_1 : Option Addr, ∃ x12l_1 : Nat, ∃ x12c_1 : Nat, ∃ x13_1 : Int, ∃ x14_1 : Int, v = (.tuple ⟨[(.agg ⟨[(.int .i64 x00_1), (.int .i64 x01_1), (.string x02_1), (.slice x03a_1 x03l_1 x03c_1), (.int .i64 x04_1), (.int .i64 x05_1), (.string x06_1), (.slice x07a_1 x07l_1 x07c_1), (.slice x08a_1 x08l_1 x08c_1), (.bool x09_1)]⟩), (.agg ⟨[(.int .i64 x10_1), (.int .i64 x11_1), (.slice x12a_1 x12l_1 x12c_1), (.int .i64 x13_1), (.int .i64 x14_1)]⟩)]⟩) ∧ ∀ g17 : G, Ex g16 g17 →
  R (.tuple ⟨[(.agg ⟨[(.int .i64 x00_1), (.int .i64 x01_1), (.string x02_1), (.slice x03a_1 x03l_1 x03c_1), (.int .i64 x04_1), (.int .i64 x05_1), (.string x06_1), (.slice x07a_1 x07l_1 x07c_1), (.slice x08a_1 x08l_1 x08c_1), (.bool x09_1)]⟩), (.agg ⟨[(.int .i64 x10_1), (.int .i64 x11_1), (.slice x12a_1 x12l_1 x12c_1), (.int .i64 x13_1), (.int .i64 x14_1)]⟩)]⟩) g17))
  (InI64 ((s1 + (1 : Int)) + (1 : Int)) ∧ ∀ g18 : G, Ex g g18 →
  (0 ≤ (0 : Int) ∧ (0 : Int) < ((x3l : Nat) : Int)) ∧ derefP x3a fun ad_2 => ¬ g18.X (Addr.block (Addr.add (Addr.add ad_2 (Int.toNat (0 : Int) * 4)) 3)) ∧ ∃ xa : Option Addr, ∃ xl : Nat, ∃ xc : Nat, g18.w.cell? (Addr.add (Addr.add ad_2 (Int.toNat (0 : Int) * 4)) 3) = some (.slice xa xl xc) ∧ (0 ≤ (0 : Int) ∧ (0 : Int) < ((xl : Nat) : Int)) ∧ derefP xa fun ad_3 => ¬ g18.X (Addr.block (Addr.add ad_3 (Int.toNat (0 : Int) * 4))) ∧ ∃ x0_3 : Int, ∃ x1_3 : Int, ∃ x2_3 : ByteArray, ∃ x3a_3 : Option Addr, ∃ x3l_3 : Nat, ∃ x3c_3 : Nat, g18.w.cell? (Addr.add ad_3 (Int.toNat (0 : Int) * 4)) = some (.int .i64 x0_3) ∧ g18.w.cell? (Addr.add (Addr.add ad_3 (Int.toNat (0 : Int) * 4)) 1) = some (.int .i64 x1_3) ∧ g18.w.cell? (Addr.add (Addr.add ad_3 (Int.toNat (0 : Int) * 4)) 2) = some (.string x2_3) ∧ g18.w.cell? (Addr.add (Addr.add ad_3 (Int.toNat (0 : Int) * 4)) 3) = some (.slice x3a_3 x3l_3 x3c_3) ∧ ∀ g19 : G, Ex g18 g19 →
  ∀ g20 : G, Ex g19 g20 →
  R (.tuple ⟨[(.agg ⟨[(.int .i64 (7 : Int)), (.int .i64 (0 : Int)), (.string (bs [])), (.slice none 0 0), (.int .i64 x0_3), (.int .i64 x1_3), (.string x2_3), (.slice x3a_3 x3l_3 x3c_3), (.slice enva envl envc), (.bool true)]⟩), (.agg ⟨[(.int .i64 s0), (.int .i64 ((s1 + (1 : Int)) + (1 : Int))), (.slice s2a s2l s2c), (.int .i64 s3), (.int .i64 s4)]⟩)]⟩) g20))
  (ifB (eqI x0 (13 : Int))
  (∀ g21 : G, Ex g g21 →
  (CallsP Tryd.prog 52 #[(.agg ⟨[(.int .i64 s0), (.int .i64 (s1 + (1 : Int))), (.slice s2a s2l s2c), (.int .i64 s3), (.int .i64 s4)]⟩), (.int .i64 (2 : Int)), (.int .i64 x1)] g21 fun v g22 =>
  ∃ x00_2 : Int, ∃ x01_2 : Int, ∃ x02_2 : ByteArray, ∃ x03a_2 : Option Addr, ∃ x03l_2 : Nat, ∃ x03c_2 : Nat, ∃ x04_2 : Int, ∃ x05_2 : Int, ∃ x06_2 : ByteArray, ∃ x07a_2 : Option Addr, ∃ x07l_2 : Nat, ∃ x07c_2 : Nat, ∃ x08a_2 : Option Addr, ∃ x08l_2 : Nat, ∃ x08c_2 : Nat, ∃ x09_2 : Bool, ∃ x10_2 : Int, ∃ x11_2 : Int, ∃ x12a_2 : Option Addr, ∃ x12l_2 : Nat, ∃ x12c_2 : Nat, ∃ x13_2 : Int, ∃ x14_2 : Int, v = (.tuple ⟨[(.agg ⟨[(.int .i64 x00_2), (.int .i64 x01_2), (.string x02_2), (.slice x03a_2 x03l_2 x03c_2), (.int .i64 x04_2), (.int .i64 x05_2), (.string x06_2), (.slice x07a_2 x07l_2 x07c_2), (.slice x08a_2 x08l_2 x08c_2), (.bool x09_2)]⟩), (.agg ⟨[(.int .i64 x10_2), (.int .i64 x11_2), (.slice x12a_2 x12l_2 x12c_2), (.int .i64 x13_2), (.int .i64 x14_2)]⟩)]⟩) ∧ ∀ g23 : G, Ex g22 g23 →
  R (.tuple ⟨[(.agg ⟨[(.int .i64 x00_2), (.int .i64 x01_2), (.string x02_2), (.slice x03a_2 x03l_2 x03c_2), (.int .i64 x04_2), (.int .i64 x05_2), (.string x06_2), (.slice x07a_2 x07l_2 x07c_2), (.slice x08a_2 x08l_2 x08c_2), (.bool x09_2)]⟩), (.agg ⟨[(.int .i64 x10_2), (.int .i64 x11_2), (.slice x12a_2 x12l_2 x12c_2), (.int .i64 x13_2), (.int .i64 x14_2)]⟩)]⟩) g23))
  (ifB (eqI x0 (11 : Int))
  (∀ J : Int → Int → ByteArray → Option Addr → Nat → Nat → Int → Int → ByteArray → Option Addr → Nat → Nat → Option Addr → Nat → Nat → Bool → Int → Int → Option Addr → Nat → Nat → Int → Int → G → Prop,
  (∀ t0 : Int, ∀ t1 : Int, ∀ t2 : ByteArray, ∀ t3a : Option Addr, ∀ t3l : Nat, ∀ t3c : Nat, ∀ t4 : Int, ∀ t5 : Int, ∀ t6 : ByteArray, ∀ t7a : Option Addr, ∀ t7l : Nat, ∀ t7c : Nat, ∀ t8a : Option Addr, ∀ t8l : Nat, ∀ t8c : Nat, ∀ t9 : Bool, ∀ s0_1 : Int, ∀ s1_1 : Int, ∀ s2a_1 : Option Addr, ∀ s2l_1 : Nat, ∀ s2c_1 : Nat, ∀ s3_1 : Int, ∀ s4_1 : Int, ∀ g24 : G, (ifB (!eqI s3_1 (0 : Int))
  (∀ g25 : G, Ex g24 g25 →
  ∀ g26 : G, Ex g25 g26 →
  R (.tuple ⟨[(.agg ⟨[(.int .i64 t0), (.int .i64 t1), (.string t2), (.slice t3a t3l t3c), (.int .i64 t4), (.int .i64 t5), (.string t6), (.slice t7a t7l t7c), (.slice t8a t8l t8c), (.bool t9)]⟩), (.agg ⟨[(.int .i64 s0_1), (.int .i64 s1_1), (.slice s2a_1 s2l_1 s2c_1), (.int .i64 s3_1), (.int .i64 s4_1)]⟩)]⟩) g26)
  (∀ g27 : G, Ex g24 g27 →
  (0 ≤ (1 : Int) ∧ (1 : Int) < ((x3l : Nat) : Int)) ∧ derefP x3a fun ad_4 => ¬ g27.X (Addr.block (Addr.add ad_4 (Int.toNat (1 : Int) * 4))) ∧ ∃ x0_4 : Int, ∃ x1_4 : Int, ∃ x2_4 : ByteArray, ∃ x3a_4 : Option Addr, ∃ x3l_4 : Nat, ∃ x3c_4 : Nat, g27.w.cell? (Addr.add ad_4 (Int.toNat (1 : Int) * 4)) = some (.int .i64 x0_4) ∧ g27.w.cell? (Addr.add (Addr.add ad_4 (Int.toNat (1 : Int) * 4)) 1) = some (.int .i64 x1_4) ∧ g27.w.cell? (Addr.add (Addr.add ad_4 (Int.toNat (1 : Int) * 4)) 2) = some (.string x2_4) ∧ g27.w.cell? (Addr.add (Addr.add ad_4 (Int.toNat (1 : Int) * 4)) 3) = some (.slice x3a_4 x3l_4 x3c_4) ∧ ∀ g28 : G, Ex g27 g28 →
  (CallsP Tryd.prog 53 #[(.slice enva envl envc), (.agg ⟨[(.int .i64 t0), (.int .i64 t1), (.string t2), (.slice t3a t3l t3c), (.int .i64 t4), (.int .i64 t5), (.string t6), (.slice t7a t7l t7c), (.slice t8a t8l t8c), (.bool t9)]⟩)] g28 fun v g29 =>
  ∃ xa_1 : Option Addr, ∃ xl_1 : Nat, ∃ xc_1 : Nat, v = (.slice xa_1 xl_1 xc_1) ∧ ∀ g30 : G, Ex g29 g30 →
  (CallsP Tryd.prog 37 #[(.agg ⟨[(.int .i64 x0_4), (.int .i64 x1_4), (.string x2_4), (.slice x3a_4 x3l_4 x3c_4)]⟩), (.slice xa_1 xl_1 xc_1), (.agg ⟨[(.int .i64 s0_1), (.int .i64 s1_1), (.slice s2a_1 s2l_1 s2c_1), (.int .i64 s3_1), (.int .i64 s4_1)]⟩)] g30 fun v g31 =>
  ∃ x00_3 : Int, ∃ x01_3 : Int, ∃ x02_3 : ByteArray, ∃ x03a_3 : Option Addr, ∃ x03l_3 : Nat, ∃ x03c_3 : Nat, ∃ x04_3 : Int, ∃ x05_3 : Int, ∃ x06_3 : ByteArray, ∃ x07a_3 : Option Addr, ∃ x07l_3 : Nat, ∃ x07c_3 : Nat, ∃ x08a_3 : Option Addr, ∃ x08l_3 : Nat, ∃ x08c_3 : Nat, ∃ x09_3 : Bool, ∃ x10_3 : Int, ∃ x11_3 : Int, ∃ x12a_3 : Option Addr, ∃ x12l_3 : Nat, ∃ x12c_3 : Nat, ∃ x13_3 : Int, ∃ x14_3 : Int, v = (.tuple ⟨[(.agg ⟨[(.int .i64 x00_3), (.int .i64 x01_3), (.string x02_3), (.slice x03a_3 x03l_3 x03c_3), (.int .i64 x04_3), (.int .i64 x05_3), (.string x06_3), (.slice x07a_3 x07l_3 x07c_3), (.slice x08a_3 x08l_3 x08c_3), (.bool x09_3)]⟩), (.agg ⟨[(.int .i64 x10_3), (.int .i64 x11_3), (.slice x12a_3 x12l_3 x12c_3), (.int .i64 x13_3), (.int .i64 x14_3)]⟩)]⟩) ∧ ∀ g32 : G, Ex g31 g32 →
  R (.tuple ⟨[(.agg ⟨[(.int .i64 x00_3), (.int .i64 x01_3), (.string x02_3), (.slice x03a_3 x03l_3 x03c_3), (.int .i64 x04_3), (.int .i64 x05_3), (.string x06_3), (.slice x07a_3 x07l_3 x07c_3), (.slice x08a_3 x08l_3 x08c_3), (.bool x09_3)]⟩), (.agg ⟨[(.int .i64 x10_3), (.int .i64 x11_3), (.slice x12a_3 x12l_3 x12c_3), (.int .i64 x13_3), (.int .i64 x14_3)]⟩)]⟩) g32)))) → J t0 t1 t2 t3a t3l t3c t4 t5 t6 t7a t7l t7c t8a t8l t8c t9 s0_1 s1_1 s2a_1 s2l_1 s2c_1 s3_1 s4_1 g24) →
  ∀ g33 : G, Ex g g33 →
  (0 ≤ (0 : Int) ∧ (0 : Int) < ((x3l : Nat) : Int)) ∧ derefP x3a fun ad_5 => ¬ g33.X (Addr.block (Addr.add ad_5 (Int.toNat (0 : Int) * 4))) ∧ ∃ x0_5 : Int, ∃ x1_5 : Int, ∃ x2_5 : ByteArray, ∃ x3a_5 : Option Addr, ∃ x3l_5 : Nat, ∃ x3c_5 : Nat, g33.w.cell? (Addr.add ad_5 (Int.toNat (0 : Int) * 4)) = some (.int .i64 x0_5) ∧ g33.w.cell? (Addr.add (Addr.add ad_5 (Int.toNat (0 : Int) * 4)) 1) = some (.int .i64 x1_5) ∧ g33.w.cell? (Addr.add (Addr.add ad_5 (Int.toNat (0 : Int) * 4)) 2) = some (.string x2_5) ∧ g33.w.cell? (Addr.add (Addr.add ad_5 (Int.toNat (0 : Int) * 4)) 3) = some (.slice x3a_5 x3l_5 x3c_5) ∧ (∀ g34 : G, Ex g33 g34 →
  (CallsP Tryd.prog 37 #[(.agg ⟨[(.int .i64 x0_5), (.int .i64 x1_5), (.string x2_5), (.slice x3a_5 x3l_5 x3c_5)]⟩), (.slice enva envl envc), (.agg ⟨[(.int .i64 s0), (.int .i64 (s1 + (1 : Int))), (.slice s2a s2l s2c), (.int .i64 s3), (.int .i64 s4)]⟩)] g34 fun v g35 =>
  ∃ x00_4 : Int, ∃ x01_4 : Int, ∃ x02_4 : ByteArray, ∃ x03a_4 : Option Addr, ∃ x03l_4 : Nat, ∃ x03c_4 : Nat, ∃ x04_4 : Int, ∃ x05_4 : Int, ∃ x06_4 : ByteArray, ∃ x07a_4 : Option Addr, ∃ x07l_4 : Nat, ∃ x07c_4 : Nat, ∃ x08a_4 : Option Addr, ∃ x08l_4 : Nat, ∃ x08c_4 : Nat, ∃ x09_4 : Bool, ∃ x10_4 : Int, ∃ x11_4 : Int, ∃ x12a_4 : Option Addr, ∃ x12l_4 : Nat, ∃ x12c_4 : Nat, ∃ x13_4 : Int, ∃ x14_4 : Int, v = (.tuple ⟨[(.agg ⟨[(.int .i64 x00_4), (.int .i64 x01_4), (.string x02_4), (.slice x03a_4 x03l_4 x03c_4), (.int .i64 x04_4), (.int .i64 x05_4), (.string x06_4), (.slice x07a_4 x07l_4 x07c_4), (.slice x08a_4 x08l_4 x08c_4), (.bool x09_4)]⟩), (.agg ⟨[(.int .i64 x10_4), (.int .i64 x11_4), (.slice x12a_4 x12l_4 x12c_4), (.int .i64 x13_4), (.int .i64 x14_4)]⟩)]⟩) ∧ Rep 1 (∀ g36 : G, Ex g35 g36 →
  J x00_4 x01_4 x02_4 x03a_4 x03l_4 x03c_4 x04_4 x05_4 x06_4 x07a_4 x07l_4 x07c_4 x08a_4 x08l_4 x08c_4 x09_4 x10_4 x11_4 x12a_4 x12l_4 x12c_4 x13_4 x14_4 g36))) ∧ ((Rep 1 (∀ g38 : G, Ex g33 g38 →
  (CallsP Tryd.prog 37 #[(.agg ⟨[(.int .i64 x0_5), (.int .i64 x1_5), (.string x2_5), (.slice x3a_5 x3l_5 x3c_5)]⟩), (.slice enva envl envc), (.agg ⟨[(.int .i64 s0), (.int .i64 (s1 + (1 : Int))), (.slice s2a s2l s2c), (.int .i64 s3), (.int .i64 s4)]⟩)] g38 fun v g39 =>
  ∃ x00_5 : Int, ∃ x01_5 : Int, ∃ x02_5 : ByteArray, ∃ x03a_5 : Option Addr, ∃ x03l_5 : Nat, ∃ x03c_5 : Nat, ∃ x04_5 : Int, ∃ x05_5 : Int, ∃ x06_5 : ByteArray, ∃ x07a_5 : Option Addr, ∃ x07l_5 : Nat, ∃ x07c_5 : Nat, ∃ x08a_5 : Option Addr, ∃ x08l_5 : Nat, ∃ x08c_5 : Nat, ∃ x09_5 : Bool, ∃ x10_5 : Int, ∃ x11_5 : Int, ∃ x12a_5 : Option Addr, ∃ x12l_5 : Nat, ∃ x12c_5 : Nat, ∃ x13_5 : Int, ∃ x14_5 : Int, v = (.tuple ⟨[(.agg ⟨[(.int .i64 x00_5), (.int .i64 x01_5), (.string x02_5), (.slice x03a_5 x03l_5 x03c_5), (.int .i64 x04_5), (.int .i64 x05_5), (.string x06_5), (.slice x07a_5 x07l_5 x07c_5), (.slice x08a_5 x08l_5 x08c_5), (.bool x09_5)]⟩), (.agg ⟨[(.int .i64 x10_5), (.int .i64 x11_5), (.slice x12a_5 x12l_5 x12c_5), (.int .i64 x13_5), (.int .i64 x14_5)]⟩)]⟩) ∧ ∀ g40 : G, Ex g39 g40 →
  J x00_5 x01_5 x02_5 x03a_5 x03l_5 x03c_5 x04_5 x05_5 x06_5 x07a_5 x07l_5 x07c_5 x08a_5 x08l_5 x08c_5 x09_5 x10_5 x11_5 x12a_5 x12l_5 x12c_5 x13_5 x14_5 g40))) ∧ (Rep 1 (∀ g44 : G, Ex g33 g44 →
  (CallsP Tryd.prog 37 #[(.agg ⟨[(.int .i64 x0_5), (.int .i64 x1_5), (.string x2_5), (.slice x3a_5 x3l_5 x3c_5)]⟩), (.slice enva envl envc), (.agg ⟨[(.int .i64 s0), (.int .i64 (s1 + (1 : Int))), (.slice s2a s2l s2c), (.int .i64 s3), (.int .i64 s4)]⟩)] g44 fun v g45 =>
  ∃ x00_7 : Int, ∃ x01_7 : Int, ∃ x02_7 : ByteArray, ∃ x03a_7 : Option Addr, ∃ x03l_7 : Nat, ∃ x03c_7 : Nat, ∃ x04_7 : Int, ∃ x05_7 : Int, ∃ x06_7 : ByteArray, ∃ x07a_7 : Option Addr, ∃ x07l_7 : Nat, ∃ x07c_7 : Nat, ∃ x08a_7 : Option Addr, ∃ x08l_7 : Nat, ∃ x08c_7 : Nat, ∃ x09_7 : Bool, ∃ x10_7 : Int, ∃ x11_7 : Int, ∃ x12a_7 : Option Addr, ∃ x12l_7 : Nat, ∃ x12c_7 : Nat, ∃ x13_7 : Int, ∃ x14_7 : Int, v = (.tuple ⟨[(.agg ⟨[(.int .i64 x00_7), (.int .i64 x01_7), (.string x02_7), (.slice x03a_7 x03l_7 x03c_7), (.int .i64 x04_7), (.int .i64 x05_7), (.string x06_7), (.slice x07a_7 x07l_7 x07c_7), (.slice x08a_7 x08l_7 x08c_7), (.bool x09_7)]⟩), (.agg ⟨[(.int .i64 x10_7), (.int .i64 x11_7), (.slice x12a_7 x12l_7 x12c_7), (.int .i64 x13_7), (.int .i64 x14_7)]⟩)]⟩) ∧ ∀ g46 : G, Ex g45 g46 →
  J x00_7 x01_7 x02_7 x03a_7 x03l_7 x03c_7 x04_7 x05_7 x06_7 x07a_7 x07l_7 x07c_7 x08a_7 x08l_7 x08c_7 x09_7 x10_7 x11_7 x12a_7 x12l_7 x12c_7 x13_7 x14_7 g46)))))
  (ifB (eqI x0 (9 : Int))
  (∀ J_1 : Int → Int → ByteArray → Option Addr → Nat → Nat → Int → Int → ByteArray → Option Addr → Nat → Nat → Option Addr → Nat → Nat → Bool → Int → Int → Option Addr → Nat → Nat → Int → Int → G → Prop,
  (∀ t0_1 : Int, ∀ t1_1 : Int, ∀ t2_1 : ByteArray, ∀ t3a_1 : Option Addr, ∀ t3l_1 : Nat, ∀ t3c_1 : Nat, ∀ t4_1 : Int, ∀ t5_1 : Int, ∀ t6_1 : ByteArray, ∀ t7a_1 : Option Addr, ∀ t7l_1 : Nat, ∀ t7c_1 : Nat, ∀ t8a_1 : Option Addr, ∀ t8l_1 : Nat, ∀ t8c_1 : Nat, ∀ t9_1 : Bool, ∀ s0_2 : Int, ∀ s1_2 : Int, ∀ s2a_2 : Option Addr, ∀ s2l_2 : Nat, ∀ s2c_2 : Nat, ∀ s3_2 : Int, ∀ s4_2 : Int, ∀ g50 : G, (ifB (!eqI s3_2 (0 : Int))
  (∀ g51 : G, Ex g50 g51 →
  ∀ g52 : G, Ex g51 g52 →
  R (.tuple ⟨[(.agg ⟨[(.int .i64 t0_1), (.int .i64 t1_1), (.string t2_1), (.slice t3a_1 t3l_1 t3c_1), (.int .i64 t4_1), (.int .i64 t5_1), (.string t6_1), (.slice t7a_1 t7l_1 t7c_1), (.slice t8a_1 t8l_1 t8c_1), (.bool t9_1)]⟩), (.agg ⟨[(.int .i64 s0_2), (.int .i64 s1_2), (.slice s2a_2 s2l_2 s2c_2), (.int .i64 s3_2), (.int .i64 s4_2)]⟩)]⟩) g52)
  (∀ J_2 : Int → Int → ByteArray → Option Addr → Nat → Nat → Int → Int → ByteArray → Option Addr → Nat → Nat → Option Addr → Nat → Nat → Bool → Int → Int → Option Addr → Nat → Nat → Int → Int → G → Prop,
  (∀ x0_6 : Int, ∀ x1_6 : Int, ∀ x2_6 : ByteArray, ∀ x3a_6 : Option Addr, ∀ x3l_6 : Nat, ∀ x3c_6 : Nat, ∀ x4_1 : Int, ∀ x5_1 : Int, ∀ x6_1 : ByteArray, ∀ x7a_1 : Option Addr, ∀ x7l_1 : Nat, ∀ x7c_1 : Nat, ∀ x8a_1 : Option Addr, ∀ x8l_1 : Nat, ∀ x8c_1 : Nat, ∀ x9_1 : Bool, ∀ x0_7 : Int, ∀ x1_7 : Int, ∀ x2a : Option Addr, ∀ x2l : Nat, ∀ x2c : Nat, ∀ x3 : Int, ∀ x4_2 : Int, ∀ g53 : G, (∀ g54 : G, Ex g53 g54 →
  InI64 (t1_1 + (1 : Int)) ∧ (0 ≤ (t1_1 + (1 : Int)) ∧ (t1_1 + (1 : Int)) < ((x3l : Nat) : Int)) ∧ derefP x3a fun ad_6 => ¬ g54.X (Addr.block (Addr.add ad_6 (Int.toNat (t1_1 + (1 : Int)) * 4))) ∧ ∃ x0_8 : Int, ∃ x1_8 : Int, ∃ x2_7 : ByteArray, ∃ x3a_7 : Option Addr, ∃ x3l_7 : Nat, ∃ x3c_7 : Nat, g54.w.cell? (Addr.add ad_6 (Int.toNat (t1_1 + (1 : Int)) * 4)) = some (.int .i64 x0_8) ∧ g54.w.cell? (Addr.add (Addr.add ad_6 (Int.toNat (t1_1 + (1 : Int)) * 4)) 1) = some (.int .i64 x1_8) ∧ g54.w.cell? (Addr.add (Addr.add ad_6 (Int.toNat (t1_1 + (1 : Int)) * 4)) 2) = some (.string x2_7) ∧ g54.w.cell? (Addr.add (Addr.add ad_6 (Int.toNat (t1_1 + (1 : Int)) * 4)) 3) = some (.slice x3a_7 x3l_7 x3c_7) ∧ (0 ≤ (0 : Int) ∧ (0 : Int) < ((t3l_1 : Nat) : Int)) ∧ derefP t3a_1 fun ad_7 => ¬ g54.X (Addr.block (Addr.add ad_7 (Int.toNat (0 : Int) * 10))) ∧ ∃ x0_9 : Int, ∃ x1_9 : Int, ∃ x2_8 : ByteArray, ∃ x3a_8 : Option Addr, ∃ x3l_8 : Nat, ∃ x3c_8 : Nat, ∃ x4_3 : Int, ∃ x5_2 : Int, ∃ x6_2 : ByteArray, ∃ x7a_2 : Option Addr, ∃ x7l_2 : Nat, ∃ x7c_2 : Nat, ∃ x8a_2 : Option Addr, ∃ x8l_2 : Nat, ∃ x8c_2 : Nat, ∃ x9_2 : Bool, g54.w.cell? (Addr.add ad_7 (Int.toNat (0 : Int) * 10)) = some (.int .i64 x0_9) ∧ g54.w.cell? (Addr.add (Addr.add ad_7 (Int.toNat (0 : Int) * 10)) 1) = some (.int .i64 x1_9) ∧ g54.w.cell? (Addr.add (Addr.add ad_7 (Int.toNat (0 : Int) * 10)) 2) = some (.string x2_8) ∧ g54.w.cell? (Addr.add (Addr.add ad_7 (Int.toNat (0 : Int) * 10)) 3) = some (.slice x3a_8 x3l_8 x3c_8) ∧ g54.w.cell? (Addr.add (Addr.add ad_7 (Int.toNat (0 : Int) * 10)) 4) = some (.int .i64 x4_3) ∧ g54.w.cell? (Addr.add (Addr.add ad_7 (Int.toNat (0 : Int) * 10)) 5) = some (.int .i64 x5_2) ∧ g54.w.cell? (Addr.add (Addr.add ad_7 (Int.toNat (0 : Int) * 10)) 6) = some (.string x6_2) ∧ g54.w.cell? (Addr.add (Addr.add ad_7 (Int.toNat (0 : Int) * 10)) 7) = some (.slice x7a_2 x7l_2 x7c_2) ∧ g54.w.cell? (Addr.add (Addr.add ad_7 (Int.toNat (0 : Int) * 10)) 8) = some (.slice x8a_2 x8l_2 x8c_2) ∧ g54.w.cell? (Addr.add (Addr.add ad_7 (Int.toNat (0 : Int) * 10)) 9) = some (.bool x9_2) ∧ ∀ g55 : G, Ex g54 g55 →
  (CallsP Tryd.prog 53 #[(.slice enva envl envc), (.agg ⟨[(.int .i64 x0_9), (.int .i64 x1_9), (.string x2_8), (.slice x3a_8 x3l_8 x3c_8), (.int .i64 x4_3), (.int .i64 x5_2), (.string x6_2), (.slice x7a_2 x7l_2 x7c_2), (.slice x8a_2 x8l_2 x8c_2), (.bool x9_2)]⟩)] g55 fun v g56 =>
  ∃ xa_2 : Option Addr, ∃ xl_2 : Nat, ∃ xc_2 : Nat, v = (.slice xa_2 xl_2 xc_2) ∧ ∀ g57 : G, Ex g56 g57 →
  (CallsP Tryd.prog 37 #[(.agg ⟨[(.int .i64 x0_8), (.int .i64 x1_8), (.string x2_7), (.slice x3a_7 x3l_7 x3c_7)]⟩), (.slice xa_2 xl_2 xc_2), (.agg ⟨[(.int .i64 s0_2), (.int .i64 s1_2), (.slice s2a_2 s2l_2 s2c_2), (.int .i64 s3_2), (.int .i64 s4_2)]⟩)] g57 fun v g58 =>
  ∃ x00_9 : Int, ∃ x01_9 : Int, ∃ x02_9 : ByteArray, ∃ x03a_9 : Option Addr, ∃ x03l_9 : Nat, ∃ x03c_9 : Nat, ∃ x04_9 : Int, ∃ x05_9 : Int, ∃ x06_9 : ByteArray, ∃ x07a_9 : Option Addr, ∃ x07l_9 : Nat, ∃ x07c_9 : Nat, ∃ x08a_9 : Option Addr, ∃ x08l_9 : Nat, ∃ x08c_9 : Nat, ∃ x09_9 : Bool, ∃ x10_9 : Int, ∃ x11_9 : Int, ∃ x12a_9 : Option Addr, ∃ x12l_9 : Nat, ∃ x12c_9 : Nat, ∃ x13_9 : Int, ∃ x14_9 : Int, v = (.tuple ⟨[(.agg ⟨[(.int .i64 x00_9), (.int .i64 x01_9), (.string x02_9), (.slice x03a_9 x03l_9 x03c_9), (.int .i64 x04_9), (.int .i64 x05_9), (.string x06_9), (.slice x07a_9 x07l_9 x07c_9), (.slice x08a_9 x08l_9 x08c_9), (.bool x09_9)]⟩), (.agg ⟨[(.int .i64 x10_9), (.int .i64 x11_9), (.slice x12a_9 x12l_9 x12c_9), (.int .i64 x13_9), (.int .i64 x14_9)]⟩)]⟩) ∧ ∀ g59 : G, Ex g58 g59 →
  R (.tuple ⟨[(.agg ⟨[(.int .i64 x00_9), (.int .i64 x01_9), (.string x02_9), (.slice x03a_9 x03l_9 x03c_9), (.int .i64 x04_9), (.int .i64 x05_9), (.string x06_9), (.slice x07a_9 x07l_9 x07c_9), (.slice x08a_9 x08l_9 x08c_9), (.bool x09_9)]⟩), (.agg ⟨[(.int .i64 x10_9), (.int .i64 x11_9), (.slice x12a_9 x12l_9 x12c_9), (.int .i64 x13_9), (.int .i64 x14_9)]⟩)]⟩) g59))) → J_2 x0_6 x1_6 x2_6 x3a_6 x3l_6 x3c_6 x4_1 x5_1 x6_1 x7a_1 x7l_1 x7c_1 x8a_1 x8l_1 x8c_1 x9_1 x0_7 x1_7 x2a x2l x2c x3 x4_2 g53) →
  ifB (!eqI t0_1 (4 : Int))
  ((CallsP Tryd.prog 52 #[(.agg ⟨[(.int .i64 s0_2), (.int .i64 s1_2), (.slice s2a_2 s2l_2 s2c_2), (.int .i64 s3_2), (.int .i64 s4_2)]⟩), (.int .i64 (4 : Int)), (.int .i64 (0 : Int))] g50 fun v g60 =>
  ∃ x00_10 : Int, ∃ x01_10 : Int, ∃ x02_10 : ByteArray, ∃ x03a_10 : Option Addr, ∃ x03l_10 : Nat, ∃ x03c_10 : Nat, ∃ x04_10 : Int, ∃ x05_10 : Int, ∃ x06_10 : ByteArray, ∃ x07a_10 : Option Addr, ∃ x07l_10 : Nat, ∃ x07c_10 : Nat, ∃ x08a_10 : Option Addr, ∃ x08l_10 : Nat, ∃ x08c_10 : Nat, ∃ x09_10 : Bool, ∃ x10_10 : Int, ∃ x11_10 : Int, ∃ x12a_10 : Option Addr, ∃ x12l_10 : Nat, ∃ x12c_10 : Nat, ∃ x13_10 : Int, ∃ x14_10 : Int, v = (.tuple ⟨[(.agg ⟨[(.int .i64 x00_10), (.int .i64 x01_10), (.string x02_10), (.slice x03a_10 x03l_10 x03c_10), (.int .i64 x04_10), (.int .i64 x05_10), (.string x06_10), (.slice x07a_10 x07l_10 x07c_10), (.slice x08a_10 x08l_10 x08c_10), (.bool x09_10)]⟩), (.agg ⟨[(.int .i64 x10_10), (.int .i64 x11_10), (.slice x12a_10 x12l_10 x12c_10), (.int .i64 x13_10), (.int .i64 x14_10)]⟩)]⟩) ∧ ∀ g61 : G, Ex g60 g61 →
  R (.tuple ⟨[(.agg ⟨[(.int .i64 x00_10), (.int .i64 x01_10), (.string x02_10), (.slice x03a_10 x03l_10 x03c_10), (.int .i64 x04_10), (.int .i64 x05_10), (.string x06_10), (.slice x07a_10 x07l_10 x07c_10), (.slice x08a_10 x08l_10 x08c_10), (.bool x09_10)]⟩), (.agg ⟨[(.int .i64 x10_10), (.int .i64 x11_10), (.slice x12a_10 x12l_10 x12c_10), (.int .i64 x13_10), (.int .i64 x14_10)]⟩)]⟩) g61))
  (InI64 (((x3l : Nat) : Int) - (1 : Int)) ∧ ifB (leI (((x3l : Nat) : Int) - (1 : Int)) t1_1)
  ((CallsP Tryd.prog 52 #[(.agg ⟨[(.int .i64 s0_2), (.int .i64 s1_2), (.slice s2a_2 s2l_2 s2c_2), (.int .i64 s3_2), (.int .i64 s4_2)]⟩), (.int .i64 (4 : Int)), (.int .i64 (0 : Int))] g50 fun v g62 =>
  ∃ x00_11 : Int, ∃ x01_11 : Int, ∃ x02_11 : ByteArray, ∃ x03a_11 : Option Addr, ∃ x03l_11 : Nat, ∃ x03c_11 : Nat, ∃ x04_11 : Int, ∃ x05_11 : Int, ∃ x06_11 : ByteArray, ∃ x07a_11 : Option Addr, ∃ x07l_11 : Nat, ∃ x07c_11 : Nat, ∃ x08a_11 : Option Addr, ∃ x08l_11 : Nat, ∃ x08c_11 : Nat, ∃ x09_11 : Bool, ∃ x10_11 : Int, ∃ x11_11 : Int, ∃ x12a_11 : Option Addr, ∃ x12l_11 : Nat, ∃ x12c_11 : Nat, ∃ x13_11 : Int, ∃ x14_11 : Int, v = (.tuple ⟨[(.agg ⟨[(.int .i64 x00_11), (.int .i64 x01_11), (.string x02_11), (.slice x03a_11 x03l_11 x03c_11), (.int .i64 x04_11), (.int .i64 x05_11), (.string x06_11), (.slice x07a_11 x07l_11 x07c_11), (.slice x08a_11 x08l_11 x08c_11), (.bool x09_11)]⟩), (.agg ⟨[(.int .i64 x10_11), (.int .i64 x11_11), (.slice x12a_11 x12l_11 x12c_11), (.int .i64 x13_11), (.int .i64 x14_11)]⟩)]⟩) ∧ ∀ g63 : G, Ex g62 g63 →
  R (.tuple ⟨[(.agg ⟨[(.int .i64 x00_11), (.int .i64 x01_11), (.string x02_11), (.slice x03a_11 x03l_11 x03c_11), (.int .i64 x04_11), (.int .i64 x05_11), (.string x06_11), (.slice x07a_11 x07l_11 x07c_11), (.slice x08a_11 x08l_11 x08c_11), (.bool x09_11)]⟩), (.agg ⟨[(.int .i64 x10_11), (.int .i64 x11_11), (.slice x12a_11 x12l_11 x12c_11), (.int .i64 x13_11), (.int .i64 x14_11)]⟩)]⟩) g63))
  (J_2 (0 : Int) (0 : Int) (bs []) none 0 0 (0 : Int) (0 : Int) (bs []) none 0 0 none 0 0 false (0 : Int) (0 : Int) none 0 0 (0 : Int) (0 : Int) g50)))) → J_1 t0_1 t1_1 t2_1 t3a_1 t3l_1 t3c_1 t4_1 t5_1 t6_1 t7a_1 t7l_1 t7c_1 t8a_1 t8l_1 t8c_1 t9_1 s0_2 s1_2 s2a_2 s2l_2 s2c_2 s3_2 s4_2 g50) →
  ∀ g64 : G, Ex g g64 →
  (0 ≤ (0 : Int) ∧ (0 : Int) < ((x3l : Nat) : Int)) ∧ derefP x3a fun ad_8 => ¬ g64.X (Addr.block (Addr.add ad_8 (Int.toNat (0 : Int) * 4))) ∧ ∃ x0_10 : Int, ∃ x1_10 : Int, ∃ x2_9 : ByteArray, ∃ x3a_9 : Option Addr, ∃ x3l_9 : Nat, ∃ x3c_9 : Nat, g64.w.cell? (Addr.add ad_8 (Int.toNat (0 : Int) * 4)) = some (.int .i64 x0_10) ∧ g64.w.cell? (Addr.add (Addr.add ad_8 (Int.toNat (0 : Int) * 4)) 1) = some (.int .i64 x1_10) ∧ g64.w.cell? (Addr.add (Addr.add ad_8 (Int.toNat (0 : Int) * 4)) 2) = some (.string x2_9) ∧ g64.w.cell? (Addr.add (Addr.add ad_8 (Int.toNat (0 : Int) * 4)) 3) = some (.slice x3a_9 x3l_9 x3c_9) ∧ (∀ g65 : G, Ex g64 g65 →
  (CallsP Tryd.prog 37 #[(.agg ⟨[(.int .i64 x0_10), (.int .i64 x1_10), (.string x2_9), (.slice x3a_9 x3l_9 x3c_9)]⟩), (.slice enva envl envc), (.agg ⟨[(.int .i64 s0), (.int .i64 (s1 + (1 : Int))), (.slice s2a s2l s2c), (.int .i64 s3), (.int .i64 s4)]⟩)] g65 fun v g66 =>
  ∃ x00_12 : Int, ∃ x01_12 : Int, ∃ x02_12 : ByteArray, ∃ x03a_12 : Option Addr, ∃ x03l_12 : Nat, ∃ x03c_12 : Nat, ∃ x04_12 : Int, ∃ x05_12 : Int, ∃ x06_12 : ByteArray, ∃ x07a_12 : Option Addr, ∃ x07l_12 : Nat, ∃ x07c_12 : Nat, ∃ x08a_12 : Option Addr, ∃ x08l_12 : Nat, ∃ x08c_12 : Nat, ∃ x09_12 : Bool, ∃ x10_12 : Int, ∃ x11_12 : Int, ∃ x12a_12 : Option Addr, ∃ x12l_12 : Nat, ∃ x12c_12 : Nat, ∃ x13_12 : Int, ∃ x14_12 : Int, v = (.tuple ⟨[(.agg ⟨[(.int .i64 x00_12), (.int .i64 x01_12), (.string x02_12), (.slice x03a_12 x03l_12 x03c_12), (.int .i64 x04_12), (.int .i64 x05_12), (.string x06_12), (.slice x07a_12 x07l_12 x07c_12), (.slice x08a_12 x08l_12 x08c_12), (.bool x09_12)]⟩), (.agg ⟨[(.int .i64 x10_12), (.int .i64 x11_12), (.slice x12a_12 x12l_12 x12c_12), (.int .i64 x13_12), (.int .i64 x14_12)]⟩)]⟩) ∧ Rep 1 (∀ g67 : G, Ex g66 g67 →
  J_1 x00_12 x01_12 x02_12 x03a_12 x03l_12 x03c_12 x04_12 x05_12 x06_12 x07a_12 x07l_12 x07c_12 x08a_12 x08l_12 x08c_12 x09_12 x10_12 x11_12 x12a_12 x12l_12 x12c_12 x13_12 x14_12 g67))) ∧ ((Rep 1 (∀ g69 : G, Ex g64 g69 →
  (CallsP Tryd.prog 37 #[(.agg ⟨[(.int .i64 x0_10), (.int .i64 x1_10), (.string x2_9), (.slice x3a_9 x3l_9 x3c_9)]⟩), (.slice enva envl envc), (.agg ⟨[(.int .i64 s0), (.int .i64 (s1 + (1 : Int))), (.slice s2a s2l s2c), (.int .i64 s3), (.int .i64 s4)]⟩)] g69 fun v g70 =>
  ∃ x00_13 : Int, ∃ x01_13 : Int, ∃ x02_13 : ByteArray, ∃ x03a_13 : Option Addr, ∃ x03l_13 : Nat, ∃ x03c_13 : Nat, ∃ x04_13 : Int, ∃ x05_13 : Int, ∃ x06_13 : ByteArray, ∃ x07a_13 : Option Addr, ∃ x07l_13 : Nat, ∃ x07c_13 : Nat, ∃ x08a_13 : Option Addr, ∃ x08l_13 : Nat, ∃ x08c_13 : Nat, ∃ x09_13 : Bool, ∃ x10_13 : Int, ∃ x11_13 : Int, ∃ x12a_13 : Option Addr, ∃ x12l_13 : Nat, ∃ x12c_13 : Nat, ∃ x13_13 : Int, ∃ x14_13 : Int, v = (.tuple ⟨[(.agg ⟨[(.int .i64 x00_13), (.int .i64 x01_13), (.string x02_13), (.slice x03a_13 x03l_13 x03c_13), (.int .i64 x04_13), (.int .i64 x05_13), (.string x06_13), (.slice x07a_13 x07l_13 x07c_13), (.slice x08a_13 x08l_13 x08c_13), (.bool x09_13)]⟩), (.agg ⟨[(.int .i64 x10_13), (.int .i64 x11_13), (.slice x12a_13 x12l_13 x12c_13), (.int .i64 x13_13), (.int .i64 x14_13)]⟩)]⟩) ∧ ∀ g71 : G, Ex g70 g71 →
  J_1 x00_13 x01_13 x02_13 x03a_13 x03l_13 x03c_13 x04_13 x05_13 x06_13 x07a_13 x07l_13 x07c_13 x08a_13 x08l_13 x08c_13 x09_13 x10_13 x11_13 x12a_13 x12l_13 x12c_13 x13_13 x14_13 g71))) ∧ (Rep 1 (∀ g75 : G, Ex g64 g75 →
  (CallsP Tryd.prog 37 #[(.agg ⟨[(.int .i64 x0_10), (.int .i64 x1_10), (.string x2_9), (.slice x3a_9 x3l_9 x3c_9)]⟩), (.slice enva envl envc), (.agg ⟨[(.int .i64 s0), (.int .i64 (s1 + (1 : Int))), (.slice s2a s2l s2c), (.int .i64 s3), (.int .i64 s4)]⟩)] g75 fun v g76 =>
  ∃ x00_15 : Int, ∃ x01_15 : Int, ∃ x02_15 : ByteArray, ∃ x03a_15 : Option Addr, ∃ x03l_15 : Nat, ∃ x03c_15 : Nat, ∃ x04_15 : Int, ∃ x05_15 : Int, ∃ x06_15 : ByteArray, ∃ x07a_15 : Option Addr, ∃ x07l_15 : Nat, ∃ x07c_15 : Nat, ∃ x08a_15 : Option Addr, ∃ x08l_15 : Nat, ∃ x08c_15 : Nat, ∃ x09_15 : Bool, ∃ x10_15 : Int, ∃ x11_15 : Int, ∃ x12a_15 : Option Addr, ∃ x12l_15 : Nat, ∃ x12c_15 : Nat, ∃ x13_15 : Int, ∃ x14_15 : Int, v = (.tuple ⟨[(.agg ⟨[(.int .i64 x00_15), (.int .i64 x01_15), (.string x02_15), (.slice x03a_15 x03l_15 x03c_15), (.int .i64 x04_15), (.int .i64 x05_15), (.string x06_15), (.slice x07a_15 x07l_15 x07c_15), (.slice x08a_15 x08l_15 x08c_15), (.bool x09_15)]⟩), (.agg ⟨[(.int .i64 x10_15), (.int .i64 x11_15), (.slice x12a_15 x12l_15 x12c_15), (.int .i64 x13_15), (.int .i64 x14_15)]⟩)]⟩) ∧ ∀ g77 : G, Ex g76 g77 →
  J_1 x00_15 x01_15 x02_15 x03a_15 x03l_15 x03c_15 x04_15 x05_15 x06_15 x07a_15 x07l_15 x07c_15 x08a_15 x08l_15 x08c_15 x09_15 x10_15 x11_15 x12a_15 x12l_15 x12c_15 x13_15 x14_15 g77)))))
  (∀ g81 : G, Ex g g81 →
  (CallsP Tryd.prog 54 #[(.slice x3a x3l x3c), (.slice enva envl envc), (.agg ⟨[(.int .i64 s0), (.int .i64 (s1 + (1 : Int))), (.slice s2a s2l s2c), (.int .i64 s3), (.int .i64 s4)]⟩)] g81 fun v g82 =>
  ∃ x0a : Option Addr, ∃ x0l : Nat, ∃ x0c : Nat, ∃ x10_17 : Int, ∃ x11_17 : Int, ∃ x12a_17 : Option Addr, ∃ x12l_17 : Nat, ∃ x12c_17 : Nat, ∃ x13_17 : Int, ∃ x14_17 : Int, v = (.tuple ⟨[(.slice x0a x0l x0c), (.agg ⟨[(.int .i64 x10_17), (.int .i64 x11_17), (.slice x12a_17 x12l_17 x12c_17), (.int .i64 x13_17), (.int .i64 x14_17)]⟩)]⟩) ∧ ifB (!eqI x13_17 (0 : Int))
  (∀ g83 : G, Ex g82 g83 →
  ∀ g84 : G, Ex g83 g84 →
  ∀ g85 : G, Ex g84 g85 →
  R (.tuple ⟨[(.agg ⟨[(.int .i64 (0 : Int)), (.int .i64 (0 : Int)), (.string (bs [])), (.slice none 0 0), (.int .i64 (0 : Int)), (.int .i64 (0 : Int)), (.string (bs [])), (.slice none 0 0), (.slice none 0 0), (.bool false)]⟩), (.agg ⟨[(.int .i64 x10_17), (.int .i64 x11_17), (.slice x12a_17 x12l_17 x12c_17), (.int .i64 x13_17), (.int .i64 x14_17)]⟩)]⟩) g85)
  (ifB (eqI x0 (5 : Int))
  ((0 ≤ (0 : Int) ∧ (0 : Int) < ((x0l : Nat) : Int)) ∧ derefP x0a fun ad_9 => ∀ g86 : G, Ex g82 g86 →
  ∃ x0_11 : Int, ∃ x1_11 : Int, ∃ x2_10 : ByteArray, ∃ x3a_10 : Option Addr, ∃ x3l_10 : Nat, ∃ x3c_10 : Nat, ∃ x4_4 : Int, ∃ x5_3 : Int, ∃ x6_3 : ByteArray, ∃ x7a_3 : Option Addr, ∃ x7l_3 : Nat, ∃ x7c_3 : Nat, ∃ x8a_3 : Option Addr, ∃ x8l_3 : Nat, ∃ x8c_3 : Nat, ∃ x9_3 : Bool, g86.w.cell? (Addr.add ad_9 (Int.toNat (0 : Int) * 10)) = some (.int .i64 x0_11) ∧ g86.w.cell? (Addr.add (Addr.add ad_9 (Int.toNat (0 : Int) * 10)) 1) = some (.int .i64 x1_11) ∧ g86.w.cell? (Addr.add (Addr.add ad_9 (Int.toNat (0 : Int) * 10)) 2) = some (.string x2_10) ∧ g86.w.cell? (Addr.add (Addr.add ad_9 (Int.toNat (0 : Int) * 10)) 3) = some (.slice x3a_10 x3l_10 x3c_10) ∧ g86.w.cell? (Addr.add (Addr.add ad_9 (Int.toNat (0 : Int) * 10)) 4) = some (.int .i64 x4_4) ∧ g86.w.cell? (Addr.add (Addr.add ad_9 (Int.toNat (0 : Int) * 10)) 5) = some (.int .i64 x5_3) ∧ g86.w.cell? (Addr.add (Addr.add ad_9 (Int.toNat (0 : Int) * 10)) 6) = some (.string x6_3) ∧ g86.w.cell? (Addr.add (Addr.add ad_9 (Int.toNat (0 : Int) * 10)) 7) = some (.slice x7a_3 x7l_3 x7c_3) ∧ g86.w.cell? (Addr.add (Addr.add ad_9 (Int.toNat (0 : Int) * 10)) 8) = some (.slice x8a_3 x8l_3 x8c_3) ∧ g86.w.cell? (Addr.add (Addr.add ad_9 (Int.toNat (0 : Int) * 10)) 9) = some (.bool x9_3) ∧ ifB (!eqI x0_11 (7 : Int))
  (∀ g87 : G, Ex g86 g87 →
  (CallsP Tryd.prog 52 #[(.agg ⟨[(.int .i64 x10_17), (.int .i64 x11_17), (.slice x12a_17 x12l_17 x12c_17), (.int .i64 x13_17), (.int .i64 x14_17)]⟩), (.int .i64 (4 : Int)), (.int .i64 (0 : Int))] g87 fun v g88 =>
  ∃ x00_17 : Int, ∃ x01_17 : Int, ∃ x02_17 : ByteArray, ∃ x03a_17 : Option Addr, ∃ x03l_17 : Nat, ∃ x03c_17 : Nat, ∃ x04_17 : Int, ∃ x05_17 : Int, ∃ x06_17 : ByteArray, ∃ x07a_17 : Option Addr, ∃ x07l_17 : Nat, ∃ x07c_17 : Nat, ∃ x08a_17 : Option Addr, ∃ x08l_17 : Nat, ∃ x08c_17 : Nat, ∃ x09_17 : Bool, ∃ x10_18 : Int, ∃ x11_18 : Int, ∃ x12a_18 : Option Addr, ∃ x12l_18 : Nat, ∃ x12c_18 : Nat, ∃ x13_18 : Int, ∃ x14_18 : Int, v = (.tuple ⟨[(.agg ⟨[(.int .i64 x00_17), (.int .i64 x01_17), (.string x02_17), (.slice x03a_17 x03l_17 x03c_17), (.int .i64 x04_17), (.int .i64 x05_17), (.string x06_17), (.slice x07a_17 x07l_17 x07c_17), (.slice x08a_17 x08l_17 x08c_17), (.bool x09_17)]⟩), (.agg ⟨[(.int .i64 x10_18), (.int .i64 x11_18), (.slice x12a_18 x12l_18 x12c_18), (.int .i64 x13_18), (.int .i64 x14_18)]⟩)]⟩) ∧ ∀ g89 : G, Ex g88 g89 →
  R (.tuple ⟨[(.agg ⟨[(.int .i64 x00_17), (.int .i64 x01_17), (.string x02_17), (.slice x03a_17 x03l_17 x03c_17), (.int .i64 x04_17), (.int .i64 x05_17), (.string x06_17), (.slice x07a_17 x07l_17 x07c_17), (.slice x08a_17 x08l_17 x08c_17), (.bool x09_17)]⟩), (.agg ⟨[(.int .i64 x10_18), (.int .i64 x11_18), (.slice x12a_18 x12l_18 x12c_18), (.int .i64 x13_18), (.int .i64 x14_18)]⟩)]⟩) g89))
  (∀ J_3 : Option Addr → Nat → Nat → G → Prop,
  (∀ innera : Option Addr, ∀ innerl : Nat, ∀ innerc : Nat, ∀ g90 : G, (∀ g91 : G, Ex g90 g91 →
  (0 ≤ (1 : Int) ∧ (1 : Int) < ((x0l : Nat) : Int)) ∧ derefP x0a fun ad_10 => ¬ g91.X (Addr.block (Addr.add ad_10 (Int.toNat (1 : Int) * 10))) ∧ ∃ x0_12 : Int, ∃ x1_12 : Int, ∃ x2_11 : ByteArray, ∃ x3a_11 : Option Addr, ∃ x3l_11 : Nat, ∃ x3c_11 : Nat, ∃ x4_5 : Int, ∃ x5_4 : Int, ∃ x6_4 : ByteArray, ∃ x7a_4 : Option Addr, ∃ x7l_4 : Nat, ∃ x7c_4 : Nat, ∃ x8a_4 : Option Addr, ∃ x8l_4 : Nat, ∃ x8c_4 : Nat, ∃ x9_4 : Bool, g91.w.cell? (Addr.add ad_10 (Int.toNat (1 : Int) * 10)) = some (.int .i64 x0_12) ∧ g91.w.cell? (Addr.add (Addr.add ad_10 (Int.toNat (1 : Int) * 10)) 1) = some (.int .i64 x1_12) ∧ g91.w.cell? (Addr.add (Addr.add ad_10 (Int.toNat (1 : Int) * 10)) 2) = some (.string x2_11) ∧ g91.w.cell? (Addr.add (Addr.add ad_10 (Int.toNat (1 : Int) * 10)) 3) = some (.slice x3a_11 x3l_11 x3c_11) ∧ g91.w.cell? (Addr.add (Addr.add ad_10 (Int.toNat (1 : Int) * 10)) 4) = some (.int .i64 x4_5) ∧ g91.w.cell? (Addr.add (Addr.add ad_10 (Int.toNat (1 : Int) * 10)) 5) = some (.int .i64 x5_4) ∧ g91.w.cell? (Addr.add (Addr.add ad_10 (Int.toNat (1 : Int) * 10)) 6) = some (.string x6_4) ∧ g91.w.cell? (Addr.add (Addr.add ad_10 (Int.toNat (1 : Int) * 10)) 7) = some (.slice x7a_4 x7l_4 x7c_4) ∧ g91.w.cell? (Addr.add (Addr.add ad_10 (Int.toNat (1 : Int) * 10)) 8) = some (.slice x8a_4 x8l_4 x8c_4) ∧ g91.w.cell? (Addr.add (Addr.add ad_10 (Int.toNat (1 : Int) * 10)) 9) = some (.bool x9_4) ∧ ∀ g92 : G, Ex g91 g92 →
  (CallsP Tryd.prog 53 #[(.slice innera innerl innerc), (.agg ⟨[(.int .i64 x0_12), (.int .i64 x1_12), (.string x2_11), (.slice x3a_11 x3l_11 x3c_11), (.int .i64 x4_5), (.int .i64 x5_4), (.string x6_4), (.slice x7a_4 x7l_4 x7c_4), (.slice x8a_4 x8l_4 x8c_4), (.bool x9_4)]⟩)] g92 fun v g93 =>
  ∃ xa_3 : Option Addr, ∃ xl_3 : Nat, ∃ xc_3 : Nat, v = (.slice xa_3 xl_3 xc_3) ∧ ∀ g94 : G, Ex g93 g94 →
  (CallsP Tryd.prog 37 #[(.agg ⟨[(.int .i64 x4_4), (.int .i64 x5_3), (.string x6_3), (.slice x7a_3 x7l_3 x7c_3)]⟩), (.slice xa_3 xl_3 xc_3), (.agg ⟨[(.int .i64 x10_17), (.int .i64 x11_17), (.slice x12a_17 x12l_17 x12c_17), (.int .i64 x13_17), (.int .i64 x14_17)]⟩)] g94 fun v g95 =>
  ∃ x00_18 : Int, ∃ x01_18 : Int, ∃ x02_18 : ByteArray, ∃ x03a_18 : Option Addr, ∃ x03l_18 : Nat, ∃ x03c_18 : Nat, ∃ x04_18 : Int, ∃ x05_18 : Int, ∃ x06_18 : ByteArray, ∃ x07a_18 : Option Addr, ∃ x07l_18 : Nat, ∃ x07c_18 : Nat, ∃ x08a_18 : Option Addr, ∃ x08l_18 : Nat, ∃ x08c_18 : Nat, ∃ x09_18 : Bool, ∃ x10_19 : Int, ∃ x11_19 : Int, ∃ x12a_19 : Option Addr, ∃ x12l_19 : Nat, ∃ x12c_19 : Nat, ∃ x13_19 : Int, ∃ x14_19 : Int, v = (.tuple ⟨[(.agg ⟨[(.int .i64 x00_18), (.int .i64 x01_18), (.string x02_18), (.slice x03a_18 x03l_18 x03c_18), (.int .i64 x04_18), (.int .i64 x05_18), (.string x06_18), (.slice x07a_18 x07l_18 x07c_18), (.slice x08a_18 x08l_18 x08c_18), (.bool x09_18)]⟩), (.agg ⟨[(.int .i64 x10_19), (.int .i64 x11_19), (.slice x12a_19 x12l_19 x12c_19), (.int .i64 x13_19), (.int .i64 x14_19)]⟩)]⟩) ∧ ∀ g96 : G, Ex g95 g96 →
  R (.tuple ⟨[(.agg ⟨[(.int .i64 x00_18), (.int .i64 x01_18), (.string x02_18), (.slice x03a_18 x03l_18 x03c_18), (.int .i64 x04_18), (.int .i64 x05_18), (.string x06_18), (.slice x07a_18 x07l_18 x07c_18), (.slice x08a_18 x08l_18 x08c_18), (.bool x09_18)]⟩), (.agg ⟨[(.int .i64 x10_19), (.int .i64 x11_19), (.slice x12a_19 x12l_19 x12c_19), (.int .i64 x13_19), (.int .i64 x14_19)]⟩)]⟩) g96))) → J_3 innera innerl innerc g90) →
  ifB x9_3
  (∀ g97 : G, Ex g86 g97 →
  (CallsP Tryd.prog 53 #[(.slice x8a_3 x8l_3 x8c_3), (.agg ⟨[(.int .i64 x0_11), (.int .i64 x1_11), (.string x2_10), (.slice x3a_10 x3l_10 x3c_10), (.int .i64 x4_4), (.int .i64 x5_3), (.string x6_3), (.slice x7a_3 x7l_3 x7c_3), (.slice x8a_3 x8l_3 x8c_3), (.bool x9_3)]⟩)] g97 fun v g98 =>
  ∃ innera_1 : Option Addr, ∃ innerl_1 : Nat, ∃ innerc_1 : Nat, v = (.slice innera_1 innerl_1 innerc_1) ∧ J_3 innera_1 innerl_1 innerc_1 g98))
  (∀ g99 : G, Ex g86 g99 →
  J_3 x8a_3 x8l_3 x8c_3 g99)))
  (ifB (eqI x0 (6 : Int))
  (∀ g100 : G, Ex g82 g100 →
  ∀ g101 : G, Ex g100 g101 →
  ∀ g102 : G, Ex g101 g102 →
  R (.tuple ⟨[(.agg ⟨[(.int .i64 (3 : Int)), (.int .i64 (0 : Int)), (.string (bs [])), (.slice x0a x0l x0c), (.int .i64 (0 : Int)), (.int .i64 (0 : Int)), (.string (bs [])), (.slice none 0 0), (.slice none 0 0), (.bool false)]⟩), (.agg ⟨[(.int .i64 x10_17), (.int .i64 x11_17), (.slice x12a_17 x12l_17 x12c_17), (.int .i64 x13_17), (.int .i64 x14_17)]⟩)]⟩) g102)
  (ifB (eqI x0 (7 : Int))
  (∀ J_4 : Int → Int → ByteArray → Option Addr → Nat → Nat → Int → Int → ByteArray → Option Addr → Nat → Nat → Option Addr → Nat → Nat → Bool → Int → Int → Option Addr → Nat → Nat → Int → Int → G → Prop,
  (∀ x0_13 : Int, ∀ x1_13 : Int, ∀ x2_12 : ByteArray, ∀ x3a_12 : Option Addr, ∀ x3l_12 : Nat, ∀ x3c_12 : Nat, ∀ x4_6 : Int, ∀ x5_5 : Int, ∀ x6_5 : ByteArray, ∀ x7a_5 : Option Addr, ∀ x7l_5 : Nat, ∀ x7c_5 : Nat, ∀ x8a_5 : Option Addr, ∀ x8l_5 : Nat, ∀ x8c_5 : Nat, ∀ x9_5 : Bool, ∀ x0_14 : Int, ∀ x1_14 : Int, ∀ x2a_1 : Option Addr, ∀ x2l_1 : Nat, ∀ x2c_1 : Nat, ∀ x3_1 : Int, ∀ x4_7 : Int, ∀ g103 : G, (∀ g104 : G, Ex g103 g104 →
  (0 ≤ (0 : Int) ∧ (0 : Int) < ((x0l : Nat) : Int)) ∧ derefP x0a fun ad_11 => ¬ g104.X (Addr.block (Addr.add (Addr.add ad_11 (Int.toNat (0 : Int) * 10)) 3)) ∧ ∃ xa_4 : Option Addr, ∃ xl_4 : Nat, ∃ xc_4 : Nat, g104.w.cell? (Addr.add (Addr.add ad_11 (Int.toNat (0 : Int) * 10)) 3) = some (.slice xa_4 xl_4 xc_4) ∧ (0 ≤ x1 ∧ x1 < ((xl_4 : Nat) : Int)) ∧ derefP xa_4 fun ad_12 => ¬ g104.X (Addr.block (Addr.add ad_12 (Int.toNat x1 * 10))) ∧ ∃ x0_15 : Int, ∃ x1_15 : Int, ∃ x2_13 : ByteArray, ∃ x3a_13 : Option Addr, ∃ x3l_13 : Nat, ∃ x3c_13 : Nat, ∃ x4_8 : Int, ∃ x5_6 : Int, ∃ x6_6 : ByteArray, ∃ x7a_6 : Option Addr, ∃ x7l_6 : Nat, ∃ x7c_6 : Nat, ∃ x8a_6 : Option Addr, ∃ x8l_6 : Nat, ∃ x8c_6 : Nat, ∃ x9_6 : Bool, g104.w.cell? (Addr.add ad_12 (Int.toNat x1 * 10)) = some (.int .i64 x0_15) ∧ g104.w.cell? (Addr.add (Addr.add ad_12 (Int.toNat x1 * 10)) 1) = some (.int .i64 x1_15) ∧ g104.w.cell? (Addr.add (Addr.add ad_12 (Int.toNat x1 * 10)) 2) = some (.string x2_13) ∧ g104.w.cell? (Addr.add (Addr.add ad_12 (Int.toNat x1 * 10)) 3) = some (.slice x3a_13 x3l_13 x3c_13) ∧ g104.w.cell? (Addr.add (Addr.add ad_12 (Int.toNat x1 * 10)) 4) = some (.int .i64 x4_8) ∧ g104.w.cell? (Addr.add (Addr.add ad_12 (Int.toNat x1 * 10)) 5) = some (.int .i64 x5_6) ∧ g104.w.cell? (Addr.add (Addr.add ad_12 (Int.toNat x1 * 10)) 6) = some (.string x6_6) ∧ g104.w.cell? (Addr.add (Addr.add ad_12 (Int.toNat x1 * 10)) 7) = some (.slice x7a_6 x7l_6 x7c_6) ∧ g104.w.cell? (Addr.add (Addr.add ad_12 (Int.toNat x1 * 10)) 8) = some (.slice x8a_6 x8l_6 x8c_6) ∧ g104.w.cell? (Addr.add (Addr.add ad_12 (Int.toNat x1 * 10)) 9) = some (.bool x9_6) ∧ ∀ g105 : G, Ex g104 g105 →
  R (.tuple ⟨[(.agg ⟨[(.int .i64 x0_15), (.int .i64 x1_15), (.string x2_13), (.slice x3a_13 x3l_13 x3c_13), (.int .i64 x4_8), (.int .i64 x5_6), (.string x6_6), (.slice x7a_6 x7l_6 x7c_6), (.slice x8a_6 x8l_6 x8c_6), (.bool x9_6)]⟩), (.agg ⟨[(.int .i64 x10_17), (.int .i64 x11_17), (.slice x12a_17 x12l_17 x12c_17), (.int .i64 x13_17), (.int .i64 x14_17)]⟩)]⟩) g105) → J_4 x0_13 x1_13 x2_12 x3a_12 x3l_12 x3c_12 x4_6 x5_5 x6_5 x7a_5 x7l_5 x7c_5 x8a_5 x8l_5 x8c_5 x9_5 x0_14 x1_14 x2a_1 x2l_1 x2c_1 x3_1 x4_7 g103) →
  ∀ g106 : G, Ex g82 g106 →
  (0 ≤ (0 : Int) ∧ (0 : Int) < ((x0l : Nat) : Int)) ∧ derefP x0a fun ad_13 => ∃ x : Int, g106.w.cell? (Addr.add ad_13 (Int.toNat (0 : Int) * 10)) = some (.int .i64 x) ∧ ifB (!eqI x (3 : Int))
  ((CallsP Tryd.prog 52 #[(.agg ⟨[(.int .i64 x10_17), (.int .i64 x11_17), (.slice x12a_17 x12l_17 x12c_17), (.int .i64 x13_17), (.int .i64 x14_17)]⟩), (.int .i64 (4 : Int)), (.int .i64 (0 : Int))] g106 fun v g107 =>
  ∃ x00_19 : Int, ∃ x01_19 : Int, ∃ x02_19 : ByteArray, ∃ x03a_19 : Option Addr, ∃ x03l_19 : Nat, ∃ x03c_19 : Nat, ∃ x04_19 : Int, ∃ x05_19 : Int, ∃ x06_19 : ByteArray, ∃ x07a_19 : Option Addr, ∃ x07l_19 : Nat, ∃ x07c_19 : Nat, ∃ x08a_19 : Option Addr, ∃ x08l_19 : Nat, ∃ x08c_19 : Nat, ∃ x09_19 : Bool, ∃ x10_20 : Int, ∃ x11_20 : Int, ∃ x12a_20 : Option Addr, ∃ x12l_20 : Nat, ∃ x12c_20 : Nat, ∃ x13_20 : Int, ∃ x14_20 : Int, v = (.tuple ⟨[(.agg ⟨[(.int .i64 x00_19), (.int .i64 x01_19), (.string x02_19), (.slice x03a_19 x03l_19 x03c_19), (.int .i64 x04_19), (.int .i64 x05_19), (.string x06_19), (.slice x07a_19 x07l_19 x07c_19), (.slice x08a_19 x08l_19 x08c_19), (.bool x09_19)]⟩), (.agg ⟨[(.int .i64 x10_20), (.int .i64 x11_20), (.slice x12a_20 x12l_20 x12c_20), (.int .i64 x13_20), (.int .i64 x14_20)]⟩)]⟩) ∧ ∀ g108 : G, Ex g107 g108 →
  R (.tuple ⟨[(.agg ⟨[(.int .i64 x00_19), (.int .i64 x01_19), (.string x02_19), (.slice x03a_19 x03l_19 x03c_19), (.int .i64 x04_19), (.int .i64 x05_19), (.string x06_19), (.slice x07a_19 x07l_19 x07c_19), (.slice x08a_19 x08l_19 x08c_19), (.bool x09_19)]⟩), (.agg ⟨[(.int .i64 x10_20), (.int .i64 x11_20), (.slice x12a_20 x12l_20 x12c_20), (.int .i64 x13_20), (.int .i64 x14_20)]⟩)]⟩) g108))
  ((0 ≤ (0 : Int) ∧ (0 : Int) < ((x0l : Nat) : Int)) ∧ derefP x0a fun ad_14 => ∃ xa_5 : Option Addr, ∃ xl_5 : Nat, ∃ xc_5 : Nat, g106.w.cell? (Addr.add (Addr.add ad_14 (Int.toNat (0 : Int) * 10)) 3) = some (.slice xa_5 xl_5 xc_5) ∧ ifB (leI ((xl_5 : Nat) : Int) x1)
  ((CallsP Tryd.prog 52 #[(.agg ⟨[(.int .i64 x10_17), (.int .i64 x11_17), (.slice x12a_17 x12l_17 x12c_17), (.int .i64 x13_17), (.int .i64 x14_17)]⟩), (.int .i64 (4 : Int)), (.int .i64 (0 : Int))] g106 fun v g109 =>
  ∃ x00_20 : Int, ∃ x01_20 : Int, ∃ x02_20 : ByteArray, ∃ x03a_20 : Option Addr, ∃ x03l_20 : Nat, ∃ x03c_20 : Nat, ∃ x04_20 : Int, ∃ x05_20 : Int, ∃ x06_20 : ByteArray, ∃ x07a_20 : Option Addr, ∃ x07l_20 : Nat, ∃ x07c_20 : Nat, ∃ x08a_20 : Option Addr, ∃ x08l_20 : Nat, ∃ x08c_20 : Nat, ∃ x09_20 : Bool, ∃ x10_21 : Int, ∃ x11_21 : Int, ∃ x12a_21 : Option Addr, ∃ x12l_21 : Nat, ∃ x12c_21 : Nat, ∃ x13_21 : Int, ∃ x14_21 : Int, v = (.tuple ⟨[(.agg ⟨[(.int .i64 x00_20), (.int .i64 x01_20), (.string x02_20), (.slice x03a_20 x03l_20 x03c_20), (.int .i64 x04_20), (.int .i64 x05_20), (.string x06_20), (.slice x07a_20 x07l_20 x07c_20), (.slice x08a_20 x08l_20 x08c_20), (.bool x09_20)]⟩), (.agg ⟨[(.int .i64 x10_21), (.int .i64 x11_21), (.slice x12a_21 x12l_21 x12c_21), (.int .i64 x13_21), (.int .i64 x14_21)]⟩)]⟩) ∧ ∀ g110 : G, Ex g109 g110 →
  R (.tuple ⟨[(.agg ⟨[(.int .i64 x00_20), (.int .i64 x01_20), (.string x02_20), (.slice x03a_20 x03l_20 x03c_20), (.int .i64 x04_20), (.int .i64 x05_20), (.string x06_20), (.slice x07a_20 x07l_20 x07c_20), (.slice x08a_20 x08l_20 x08c_20), (.bool x09_20)]⟩), (.agg ⟨[(.int .i64 x10_21), (.int .i64 x11_21), (.slice x12a_21 x12l_21 x12c_21), (.int .i64 x13_21), (.int .i64 x14_21)]⟩)]⟩) g110))
  (J_4 (0 : Int) (0 : Int) (bs []) none 0 0 (0 : Int) (0 : Int) (bs []) none 0 0 none 0 0 false (0 : Int) (0 : Int) none 0 0 (0 : Int) (0 : Int) g106)))
  (ifB (eqI x0 (8 : Int))
  (∀ g111 : G, Ex g82 g111 →
  ∀ g112 : G, Ex g111 g112 →
  ∀ g113 : G, Ex g112 g113 →
  R (.tuple ⟨[(.agg ⟨[(.int .i64 (4 : Int)), (.int .i64 x1), (.string (bs [])), (.slice x0a x0l x0c), (.int .i64 (0 : Int)), (.int .i64 (0 : Int)), (.string (bs [])), (.slice none 0 0), (.slice none 0 0), (.bool false)]⟩), (.agg ⟨[(.int .i64 x10_17), (.int .i64 x11_17), (.slice x12a_17 x12l_17 x12c_17), (.int .i64 x13_17), (.int .i64 x14_17)]⟩)]⟩) g113)
  (∀ g114 : G, Ex g82 g114 →
  (CallsP Tryd.prog 55 #[(.int .i64 x1), (.slice x0a x0l x0c), (.agg ⟨[(.int .i64 x10_17), (.int .i64 x11_17), (.slice x12a_17 x12l_17 x12c_17), (.int .i64 x13_17), (.int .i64 x14_17)]⟩)] g114 fun v g115 =>
  ∃ x00_21 : Int, ∃ x01_21 : Int, ∃ x02_21 : ByteArray, ∃ x03a_21 : Option Addr, ∃ x03l_21 : Nat, ∃ x03c_21 : Nat, ∃ x04_21 : Int, ∃ x05_21 : Int, ∃ x06_21 : ByteArray, ∃ x07a_21 : Option Addr, ∃ x07l_21 : Nat, ∃ x07c_21 : Nat, ∃ x08a_21 : Option Addr, ∃ x08l_21 : Nat, ∃ x08c_21 : Nat, ∃ x09_21 : Bool, ∃ x10_22 : Int, ∃ x11_22 : Int, ∃ x12a_22 : Option Addr, ∃ x12l_22 : Nat, ∃ x12c_22 : Nat, ∃ x13_22 : Int, ∃ x14_22 : Int, v = (.tuple ⟨[(.agg ⟨[(.int .i64 x00_21), (.int .i64 x01_21), (.string x02_21), (.slice x03a_21 x03l_21 x03c_21), (.int .i64 x04_21), (.int .i64 x05_21), (.string x06_21), (.slice x07a_21 x07l_21 x07c_21), (.slice x08a_21 x08l_21 x08c_21), (.bool x09_21)]⟩), (.agg ⟨[(.int .i64 x10_22), (.int .i64 x11_22), (.slice x12a_22 x12l_22 x12c_22), (.int .i64 x13_22), (.int .i64 x14_22)]⟩)]⟩) ∧ ∀ g116 : G, Ex g115 g116 →
  R (.tuple ⟨[(.agg ⟨[(.int .i64 x00_21), (.int .i64 x01_21), (.string x02_21), (.slice x03a_21 x03l_21 x03c_21), (.int .i64 x04_21), (.int .i64 x05_21), (.string x06_21), (.slice x07a_21 x07l_21 x07c_21), (.slice x08a_21 x08l_21 x08c_21), (.bool x09_21)]⟩), (.agg ⟨[(.int .i64 x10_22), (.int .i64 x11_22), (.slice x12a_22 x12l_22 x12c_22), (.int .i64 x13_22), (.int .i64 x14_22)]⟩)]⟩) g116))))))))))))))))
theorem F37_eq (x0 : Int) (x1 : Int) (x2 : ByteArray) (x3a : Option Addr) (x3l : Nat) (x3c : Nat) (enva : Option Addr) (envl : Nat) (envc : Nat) (s0 : Int) (s1 : Int) (s2a : Option Addr) (s2l : Nat) (s2c : Nat) (s3 : Int) (s4 : Int) (g : G) (R : Value → G → Prop) : fnG cfg37 268 [.cell 6 63, .cell 7 65] c37 an37 [(.agg ⟨[(.int .i64 x0), (.int .i64 x1), (.string x2), (.slice x3a x3l x3c)]⟩), (.slice enva envl envc), (.agg ⟨[(.int .i64 s0), (.int .i64 s1), (.slice s2a s2l s2c), (.int .i64 s3), (.int .i64 s4)]⟩)] g nobody R = F37 x0 x1 x2 x3a x3l x3c enva envl envc s0 s1 s2a s2l s2c s3 s4 g R := by kernel_rfl
theorem call37 (x0 : Int) (x1 : Int) (x2 : ByteArray) (x3a : Option Addr) (x3l : Nat) (x3c : Nat) (enva : Option Addr) (envl : Nat) (envc : Nat) (s0 : Int) (s1 : Int) (s2a : Option Addr) (s2l : Nat) (s2c : Nat) (s3 : Int) (s4 : Int) (g : G) (R : Value → G → Prop) (hF : F37 x0 x1 x2 x3a x3l x3c enva envl envc s0 s1 s2a s2l s2c s3 s4 g R) : CallsG Tryd.prog 37 #[(.agg ⟨[(.int .i64 x0), (.int .i64 x1), (.string x2), (.slice x3a x3l x3c)]⟩), (.slice enva envl envc), (.agg ⟨[(.int .i64 s0), (.int .i64 s1), (.slice s2a s2l s2c), (.int .i64 s3), (.int .i64 s4)]⟩)] g nobody R :=
  fn_soundG (c := cfg37) TTok FNSok mixed Tryd.func37 (show Tryd.f37.body = some c37 by kernel_rfl) (show Tryd.f37.ntmps = 268 by kernel_rfl) (show Tryd.f37.results.toList = [.cell 6 63, .cell 7 65] by kernel_rfl) rfl ((F37_eq x0 x1 x2 x3a x3l x3c enva envl envc s0 s1 s2a s2l s2c s3 s4 g R ).mpr hF)

/- 38 pilaster/pilasterref44.observe -/
noncomputable def c38 : Code := match Tryd.f38.body with
  | some c => c
  | none => .skip
noncomputable def cfg38 : Cfg := ⟨Tryd.prog, TT, FNS, [3, 6, 8, 10], [(3, 3), (6, 6), (8, 8), (10, 10), (12, 3), (14, 3), (16, 3), (29, 3), (40, 3), (52, 8), (57, 8)], [], TCH, false, false, none, PNF, false⟩
def an38 : AnnG := (.seq .leaf (.seq .leaf (.join ⟨[], [(6, 6, 0)], [(6, [(.int .i64), (.int .i64), (.str), (.sl), (.sl)])]⟩ (.seq .leaf (.cond (.seq .leaf .leaf) .leaf)) (.seq .leaf (.seq (.seq .leaf (.blk (.loop ⟨[(1, .int .i64), (9, .int .i64)], [(8, 8, 0)], [(8, [(.int .i64), (.int .i64), (.str), (.sl), (.sl)])]⟩ (.join ⟨[], [], []⟩ (.seq .leaf (.cond .leaf .leaf)) (.seq (.blk (.seq .leaf (.seq .leaf .leaf))) .leaf))))) (.seq .leaf .leaf))))))
def F38 (t0 : Int) (t1 : Int) (t2 : ByteArray) (t3a : Option Addr) (t3l : Nat) (t3c : Nat) (t4 : Int) (t5 : Int) (t6 : ByteArray) (t7a : Option Addr) (t7l : Nat) (t7c : Nat) (t8a : Option Addr) (t8l : Nat) (t8c : Nat) (t9 : Bool) (left : Int) (depth : Int) (g : G) (R : Value → G → Prop) : Prop :=
  ∀ g1 : G, Ex g g1 →
  ∀ J : Int → Int → ByteArray → Option Addr → Nat → Nat → Option Addr → Nat → Nat → G → Prop,
  (∀ x0 : Int, ∀ x1 : Int, ∀ x2 : ByteArray, ∀ x3a : Option Addr, ∀ x3l : Nat, ∀ x3c : Nat, ∀ x4a : Option Addr, ∀ x4l : Nat, ∀ x4c : Nat, ∀ g2 : G, (InI64 (left - (1 : Int)) ∧ ∃ Inv : Nat → Int → Int → Int → Int → ByteArray → Option Addr → Nat → Nat → Option Addr → Nat → Nat → G → Prop, ((∃ m0 : Nat, Inv m0 (left - (1 : Int)) (0 : Int) t0 t1 t2 none 0 0 none 0 0 g2)) ∧
  ∀ m : Nat, ∀ left_1 : Int, ∀ i : Int, ∀ v0 : Int, ∀ v1 : Int, ∀ v2 : ByteArray, ∀ v3a : Option Addr, ∀ v3l : Nat, ∀ v3c : Nat, ∀ v4a : Option Addr, ∀ v4l : Nat, ∀ v4c : Nat, ∀ g3 : G, Le g2 g3 → Inv m left_1 i v0 v1 v2 v3a v3l v3c v4a v4l v4c g3 →
  ∀ J_1 : G → Prop,
  (∀ g4 : G, ((0 ≤ i ∧ i < ((t3l : Nat) : Int)) ∧ derefP t3a fun ad => ∃ x0_1 : Int, ∃ x1_1 : Int, ∃ x2_1 : ByteArray, ∃ x3a_1 : Option Addr, ∃ x3l_1 : Nat, ∃ x3c_1 : Nat, ∃ x4 : Int, ∃ x5 : Int, ∃ x6 : ByteArray, ∃ x7a : Option Addr, ∃ x7l : Nat, ∃ x7c : Nat, ∃ x8a : Option Addr, ∃ x8l : Nat, ∃ x8c : Nat, ∃ x9 : Bool, g4.w.cell? (Addr.add ad (Int.toNat i * 10)) = some (.int .i64 x0_1) ∧ g4.w.cell? (Addr.add (Addr.add ad (Int.toNat i * 10)) 1) = some (.int .i64 x1_1) ∧ g4.w.cell? (Addr.add (Addr.add ad (Int.toNat i * 10)) 2) = some (.string x2_1) ∧ g4.w.cell? (Addr.add (Addr.add ad (Int.toNat i * 10)) 3) = some (.slice x3a_1 x3l_1 x3c_1) ∧ g4.w.cell? (Addr.add (Addr.add ad (Int.toNat i * 10)) 4) = some (.int .i64 x4) ∧ g4.w.cell? (Addr.add (Addr.add ad (Int.toNat i * 10)) 5) = some (.int .i64 x5) ∧ g4.w.cell? (Addr.add (Addr.add ad (Int.toNat i * 10)) 6) = some (.string x6) ∧ g4.w.cell? (Addr.add (Addr.add ad (Int.toNat i * 10)) 7) = some (.slice x7a x7l x7c) ∧ g4.w.cell? (Addr.add (Addr.add ad (Int.toNat i * 10)) 8) = some (.slice x8a x8l x8c) ∧ g4.w.cell? (Addr.add (Addr.add ad (Int.toNat i * 10)) 9) = some (.bool x9) ∧ InI64 (depth - (1 : Int)) ∧ (CallsP Tryd.prog 38 #[(.agg ⟨[(.int .i64 x0_1), (.int .i64 x1_1), (.string x2_1), (.slice x3a_1 x3l_1 x3c_1), (.int .i64 x4), (.int .i64 x5), (.string x6), (.slice x7a x7l x7c), (.slice x8a x8l x8c), (.bool x9)]⟩), (.int .i64 left_1), (.int .i64 (depth - (1 : Int)))] g4 fun v g5 =>
  ∃ x00 : Int, ∃ x01 : Int, ∃ x02 : ByteArray, ∃ x03a : Option Addr, ∃ x03l : Nat, ∃ x03c : Nat, ∃ x04a : Option Addr, ∃ x04l : Nat, ∃ x04c : Nat, ∃ x1_2 : Int, v = (.tuple ⟨[(.agg ⟨[(.int .i64 x00), (.int .i64 x01), (.string x02), (.slice x03a x03l x03c), (.slice x04a x04l x04c)]⟩), (.int .i64 x1_2)]⟩) ∧ ∀ g6 : G, Ex g5 g6 →
  ∀ g7 : G, NewL g6 g7 30 [(.int .i64 x00), (.int .i64 x01), (.string x02), (.slice x03a x03l x03c), (.slice x04a x04l x04c)] →
  ∃ xa : Option Addr, ∃ xl : Nat, ∃ xc : Nat, ∃ wo1 : World, Sem.run Tryd.prog (Builtin.append_ #[28, 28] 28 #[(.slice v4a v4l v4c), (.slice (some ⟨g6.w.heap.size, 0, none⟩) 1 1)]) g7.w = .ok (.slice xa xl xc) wo1 ∧ ∃ g8 : G, g8.w = wo1 ∧ Stp g.w.heap.size nobody g7 g8 ∧ InI64 (i + (1 : Int)) ∧ ∀ g9 : G, Ex g8 g9 →
  (∃ m_1 : Nat, m_1 < m ∧ Inv m_1 x1_2 (i + (1 : Int)) v0 v1 v2 v3a v3l v3c xa xl xc g9))) → J_1 g4) →
  ifB (ltI i ((t3l : Nat) : Int))
  (ifB (leI (0 : Int) left_1)
  (J_1 g3)
  (∀ g10 : G, Ex g3 g10 →
  R (.tuple ⟨[(.agg ⟨[(.int .i64 v0), (.int .i64 v1), (.string v2), (.slice v3a v3l v3c), (.slice v4a v4l v4c)]⟩), (.int .i64 left_1)]⟩) g10))
  (∀ g11 : G, Ex g3 g11 →
  R (.tuple ⟨[(.agg ⟨[(.int .i64 v0), (.int .i64 v1), (.string v2), (.slice v3a v3l v3c), (.slice v4a v4l v4c)]⟩), (.int .i64 left_1)]⟩) g11)) → J x0 x1 x2 x3a x3l x3c x4a x4l x4c g2) →
  ifB (ltI left (1 : Int))
  (∀ g12 : G, Ex g1 g12 →
  R (.tuple ⟨[(.agg ⟨[(.int .i64 t0), (.int .i64 t1), (.string t2), (.slice none 0 0), (.slice none 0 0)]⟩), (.int .i64 (-1 : Int))]⟩) g12)
  (ifB (ltI depth (1 : Int))
  (∀ g13 : G, Ex g1 g13 →
  R (.tuple ⟨[(.agg ⟨[(.int .i64 t0), (.int .i64 t1), (.string t2), (.slice none 0 0), (.slice none 0 0)]⟩), (.int .i64 (-1 : Int))]⟩) g13)
  (∀ g14 : G, Ex g1 g14 →
  J (0 : Int) (0 : Int) (bs []) none 0 0 none 0 0 g14))
theorem F38_eq (t0 : Int) (t1 : Int) (t2 : ByteArray) (t3a : Option Addr) (t3l : Nat) (t3c : Nat) (t4 : Int) (t5 : Int) (t6 : ByteArray) (t7a : Option Addr) (t7l : Nat) (t7c : Nat) (t8a : Option Addr) (t8l : Nat) (t8c : Nat) (t9 : Bool) (left : Int) (depth : Int) (g : G) (R : Value → G → Prop) : fnG cfg38 60 [.cell 6 30, .tmp 7] c38 an38 [(.agg ⟨[(.int .i64 t0), (.int .i64 t1), (.string t2), (.slice t3a t3l t3c), (.int .i64 t4), (.int .i64 t5), (.string t6), (.slice t7a t7l t7c), (.slice t8a t8l t8c), (.bool t9)]⟩), (.int .i64 left), (.int .i64 depth)] g nobody R = F38 t0 t1 t2 t3a t3l t3c t4 t5 t6 t7a t7l t7c t8a t8l t8c t9 left depth g R := by kernel_rfl
theorem call38 (t0 : Int) (t1 : Int) (t2 : ByteArray) (t3a : Option Addr) (t3l : Nat) (t3c : Nat) (t4 : Int) (t5 : Int) (t6 : ByteArray) (t7a : Option Addr) (t7l : Nat) (t7c : Nat) (t8a : Option Addr) (t8l : Nat) (t8c : Nat) (t9 : Bool) (left : Int) (depth : Int) (g : G) (R : Value → G → Prop) (hF : F38 t0 t1 t2 t3a t3l t3c t4 t5 t6 t7a t7l t7c t8a t8l t8c t9 left depth g R) : CallsG Tryd.prog 38 #[(.agg ⟨[(.int .i64 t0), (.int .i64 t1), (.string t2), (.slice t3a t3l t3c), (.int .i64 t4), (.int .i64 t5), (.string t6), (.slice t7a t7l t7c), (.slice t8a t8l t8c), (.bool t9)]⟩), (.int .i64 left), (.int .i64 depth)] g nobody R :=
  fn_soundG (c := cfg38) TTok FNSok mixed Tryd.func38 (show Tryd.f38.body = some c38 by kernel_rfl) (show Tryd.f38.ntmps = 60 by kernel_rfl) (show Tryd.f38.results.toList = [.cell 6 30, .tmp 7] by kernel_rfl) rfl ((F38_eq t0 t1 t2 t3a t3l t3c t4 t5 t6 t7a t7l t7c t8a t8l t8c t9 left depth g R ).mpr hF)

/- 39 pilaster/pilasterref44.form -/
/- 40 pilaster/lambda.measure -/
noncomputable def c40 : Code := match Tryd.f40.body with
  | some c => c
  | none => .skip
noncomputable def cfg40 : Cfg := ⟨Tryd.prog, TT, FNS, [3, 10], [(3, 3), (10, 10), (24, 3)], [], TCH, false, false, none, PNF, false⟩
def an40 : AnnG := (.seq .leaf (.join ⟨[], [], []⟩ (.seq .leaf (.cond (.seq .leaf .leaf) .leaf)) (.seq .leaf (.seq (.seq .leaf (.blk (.loop ⟨[(8, .int .i64), (27, .int .i64)], [], []⟩ (.seq .leaf (.seq (.cond .leaf .leaf) (.seq (.blk (.seq .leaf (.seq .leaf (.seq (.seq .leaf (.cond (.seq .leaf .leaf) .leaf)) .leaf)))) .leaf)))))) (.seq .leaf .leaf)))))
def F40 (x0 : Int) (x1 : Int) (x2 : ByteArray) (x3a : Option Addr) (x3l : Nat) (x3c : Nat) (left : Int) (depth : Int) (g : G) (R : Value → G → Prop) : Prop :=
  ∀ J : G → Prop,
  (∀ g1 : G, (∃ Inv : Nat → Int → Int → G → Prop, ((∃ m0 : Nat, Inv m0 (1 : Int) (0 : Int) g1)) ∧
  ∀ m : Nat, ∀ n : Int, ∀ v_1 : Int, ∀ g2 : G, Le g1 g2 → Inv m n v_1 g2 →
  ifB (ltI v_1 ((x3l : Nat) : Int))
  ((0 ≤ v_1 ∧ v_1 < ((x3l : Nat) : Int)) ∧ derefP x3a fun ad => ∃ x0_1 : Int, ∃ x1_1 : Int, ∃ x2_1 : ByteArray, ∃ x3a_1 : Option Addr, ∃ x3l_1 : Nat, ∃ x3c_1 : Nat, g2.w.cell? (Addr.add ad (Int.toNat v_1 * 4)) = some (.int .i64 x0_1) ∧ g2.w.cell? (Addr.add (Addr.add ad (Int.toNat v_1 * 4)) 1) = some (.int .i64 x1_1) ∧ g2.w.cell? (Addr.add (Addr.add ad (Int.toNat v_1 * 4)) 2) = some (.string x2_1) ∧ g2.w.cell? (Addr.add (Addr.add ad (Int.toNat v_1 * 4)) 3) = some (.slice x3a_1 x3l_1 x3c_1) ∧ InI64 (left - n) ∧ InI64 (depth + (1 : Int)) ∧ ∀ g3 : G, Ex g2 g3 →
  (CallsP Tryd.prog 40 #[(.agg ⟨[(.int .i64 x0_1), (.int .i64 x1_1), (.string x2_1), (.slice x3a_1 x3l_1 x3c_1)]⟩), (.int .i64 (left - n)), (.int .i64 (depth + (1 : Int)))] g3 fun v g4 =>
  ∃ x0_2 : Int, ∃ x1_2 : Bool, v = (.tuple ⟨[(.int .i64 x0_2), (.bool x1_2)]⟩) ∧ ifB (!x1_2)
  (∀ g5 : G, Ex g4 g5 →
  R (.tuple ⟨[(.int .i64 (0 : Int)), (.bool false)]⟩) g5)
  (InI64 (n + x0_2) ∧ InI64 (v_1 + (1 : Int)) ∧ (∃ m_1 : Nat, m_1 < m ∧ Inv m_1 (n + x0_2) (v_1 + (1 : Int)) g4))))
  (∀ g6 : G, Ex g2 g6 →
  R (.tuple ⟨[(.int .i64 n), (.bool true)]⟩) g6)) → J g1) →
  ifB (leI left (0 : Int))
  (∀ g7 : G, Ex g g7 →
  R (.tuple ⟨[(.int .i64 (0 : Int)), (.bool false)]⟩) g7)
  (ifB (ltI (400 : Int) depth)
  (∀ g8 : G, Ex g g8 →
  R (.tuple ⟨[(.int .i64 (0 : Int)), (.bool false)]⟩) g8)
  (∀ g9 : G, Ex g g9 →
  (CallsP Tryd.prog 56 #[(.agg ⟨[(.int .i64 x0), (.int .i64 x1), (.string x2), (.slice x3a x3l x3c)]⟩)] g9 fun v g10 =>
  ∃ x : Bool, v = (.bool x) ∧ ifB (!x)
  (∀ g11 : G, Ex g10 g11 →
  R (.tuple ⟨[(.int .i64 (0 : Int)), (.bool false)]⟩) g11)
  (J g10))))
theorem F40_eq (x0 : Int) (x1 : Int) (x2 : ByteArray) (x3a : Option Addr) (x3l : Nat) (x3c : Nat) (left : Int) (depth : Int) (g : G) (R : Value → G → Prop) : fnG cfg40 48 [.tmp 6, .tmp 7] c40 an40 [(.agg ⟨[(.int .i64 x0), (.int .i64 x1), (.string x2), (.slice x3a x3l x3c)]⟩), (.int .i64 left), (.int .i64 depth)] g nobody R = F40 x0 x1 x2 x3a x3l x3c left depth g R := by kernel_rfl
theorem call40 (x0 : Int) (x1 : Int) (x2 : ByteArray) (x3a : Option Addr) (x3l : Nat) (x3c : Nat) (left : Int) (depth : Int) (g : G) (R : Value → G → Prop) (hF : F40 x0 x1 x2 x3a x3l x3c left depth g R) : CallsG Tryd.prog 40 #[(.agg ⟨[(.int .i64 x0), (.int .i64 x1), (.string x2), (.slice x3a x3l x3c)]⟩), (.int .i64 left), (.int .i64 depth)] g nobody R :=
  fn_soundG (c := cfg40) TTok FNSok mixed Tryd.func40 (show Tryd.f40.body = some c40 by kernel_rfl) (show Tryd.f40.ntmps = 48 by kernel_rfl) (show Tryd.f40.results.toList = [.tmp 6, .tmp 7] by kernel_rfl) rfl ((F40_eq x0 x1 x2 x3a x3l x3c left depth g R ).mpr hF)

/- 41 pilaster/lambda.collect -/
noncomputable def c41 : Code := match Tryd.f41.body with
  | some c => c
  | none => .skip
noncomputable def cfg41 : Cfg := ⟨Tryd.prog, TT, FNS, [4, 7], [(4, 4), (7, 7), (9, 4), (13, 4), (19, 4), (23, 4)], [], TCH, false, false, none, PNF, false⟩
def an41 : AnnG := (.seq .leaf (.join ⟨[], [], []⟩ (.seq .leaf (.cond .leaf .leaf)) (.seq .leaf (.blk (.loop ⟨[(26, .int .i64)], [], []⟩ (.seq .leaf (.seq (.cond .leaf .leaf) (.seq (.blk (.seq .leaf (.seq .leaf (.seq (.seq .leaf (.cond .leaf .leaf)) .leaf)))) .leaf))))))))
def F41 (m : Option Nat) (x0 : Int) (x1 : Int) (x2 : ByteArray) (x3a : Option Addr) (x3l : Nat) (x3c : Nat) (depth : Int) (g : G) (R : Value → G → Prop) : Prop :=
  ∀ J : G → Prop,
  (∀ g1 : G, (∃ Inv : Nat → Int → G → Prop, ((∃ m0 : Nat, Inv m0 (0 : Int) g1)) ∧
  ∀ m_1 : Nat, ∀ v_1 : Int, ∀ g2 : G, Le g1 g2 → Inv m_1 v_1 g2 →
  ifB (ltI v_1 ((x3l : Nat) : Int))
  ((0 ≤ v_1 ∧ v_1 < ((x3l : Nat) : Int)) ∧ derefP x3a fun ad => ∃ x0_1 : Int, ∃ x1_1 : Int, ∃ x2_1 : ByteArray, ∃ x3a_1 : Option Addr, ∃ x3l_1 : Nat, ∃ x3c_1 : Nat, g2.w.cell? (Addr.add ad (Int.toNat v_1 * 4)) = some (.int .i64 x0_1) ∧ g2.w.cell? (Addr.add (Addr.add ad (Int.toNat v_1 * 4)) 1) = some (.int .i64 x1_1) ∧ g2.w.cell? (Addr.add (Addr.add ad (Int.toNat v_1 * 4)) 2) = some (.string x2_1) ∧ g2.w.cell? (Addr.add (Addr.add ad (Int.toNat v_1 * 4)) 3) = some (.slice x3a_1 x3l_1 x3c_1) ∧ ∀ g3 : G, Ex g2 g3 →
  (CallsP Tryd.prog 57 #[(.agg ⟨[(.int .i64 x0), (.int .i64 x1), (.string x2), (.slice x3a x3l x3c)]⟩), (.int .i64 v_1)] g3 fun v g4 =>
  ∃ x : Bool, v = (.bool x) ∧ ifB x
  (InI64 (depth + (1 : Int)) ∧ (CallsP Tryd.prog 41 #[(.map m), (.agg ⟨[(.int .i64 x0_1), (.int .i64 x1_1), (.string x2_1), (.slice x3a_1 x3l_1 x3c_1)]⟩), (.int .i64 (depth + (1 : Int)))] g4 fun v g5 =>
  v = (.tuple ⟨[]⟩) ∧ InI64 (v_1 + (1 : Int)) ∧ (∃ m_2 : Nat, m_2 < m_1 ∧ Inv m_2 (v_1 + (1 : Int)) g5)))
  ((CallsP Tryd.prog 41 #[(.map m), (.agg ⟨[(.int .i64 x0_1), (.int .i64 x1_1), (.string x2_1), (.slice x3a_1 x3l_1 x3c_1)]⟩), (.int .i64 depth)] g4 fun v g6 =>
  v = (.tuple ⟨[]⟩) ∧ InI64 (v_1 + (1 : Int)) ∧ (∃ m_2 : Nat, m_2 < m_1 ∧ Inv m_2 (v_1 + (1 : Int)) g6)))))
  (∀ g7 : G, Ex g2 g7 →
  R (.tuple ⟨[]⟩) g7)) → J g1) →
  ifB (eqI x0 (1 : Int))
  (ifB (leI depth x1)
  (InI64 (x1 - depth) ∧ ∀ g8 : G, Ex g g8 →
  ∃ wo1 : World, Sem.run Tryd.prog (Instr.mapUpdate 72 (.map m) (.int .i64 (x1 - depth)) (.bool true)) g8.w = .ok () wo1 ∧ ∃ g9 : G, g9.w = wo1 ∧ Stp g.w.heap.size nobody g8 g9 ∧ J g9)
  (∀ g10 : G, Ex g g10 →
  J g10))
  (∀ g11 : G, Ex g g11 →
  J g11)
theorem F41_eq (m : Option Nat) (x0 : Int) (x1 : Int) (x2 : ByteArray) (x3a : Option Addr) (x3l : Nat) (x3c : Nat) (depth : Int) (g : G) (R : Value → G → Prop) : fnG cfg41 42 [] c41 an41 [(.map m), (.agg ⟨[(.int .i64 x0), (.int .i64 x1), (.string x2), (.slice x3a x3l x3c)]⟩), (.int .i64 depth)] g nobody R = F41 m x0 x1 x2 x3a x3l x3c depth g R := by kernel_rfl
theorem call41 (m : Option Nat) (x0 : Int) (x1 : Int) (x2 : ByteArray) (x3a : Option Addr) (x3l : Nat) (x3c : Nat) (depth : Int) (g : G) (R : Value → G → Prop) (hF : F41 m x0 x1 x2 x3a x3l x3c depth g R) : CallsG Tryd.prog 41 #[(.map m), (.agg ⟨[(.int .i64 x0), (.int .i64 x1), (.string x2), (.slice x3a x3l x3c)]⟩), (.int .i64 depth)] g nobody R :=
  fn_soundG (c := cfg41) TTok FNSok mixed Tryd.func41 (show Tryd.f41.body = some c41 by kernel_rfl) (show Tryd.f41.ntmps = 42 by kernel_rfl) (show Tryd.f41.results.toList = [] by kernel_rfl) rfl ((F41_eq m x0 x1 x2 x3a x3l x3c depth g R ).mpr hF)

/- 44 pilaster/lambda.equal -/
/- 45 pilaster/lambda.form -/
end Go.Proofs.YtfmjipgcbecamaaDoor
