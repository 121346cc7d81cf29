/- Printed by a program (wip/tools/gen2.py): for each function its condition as a plain formula, and that the formula gives the call. -/
import Derived.Test.YtfmjipgcbecamaaDoorProg
import Derived.Test.YtfmjipgcbecamaaDoorVda
namespace Go.Proofs.YtfmjipgcbecamaaDoor
open Go Go.Vc Go.RowKit
set_option maxRecDepth 100000
set_option linter.unusedVariables false
def TT : List TI := [
  ⟨0, .tuple #[], 1, 0, some (.tuple ⟨[]⟩), (.tup [])⟩,
  ⟨3, .int .i64, 1, 8, some (.int .i64 (0 : Int)), (.e (.one (.int .i64)))⟩,
  ⟨4, .bool, 1, 1, some (.bool false), (.e (.one (.bool)))⟩,
  ⟨9, .string, 1, 16, some (.string (bs [])), (.e (.one (.str)))⟩,
  ⟨22, .slice 24, 1, 24, some (.slice none 0 0), (.e (.one (.sl)))⟩,
  ⟨24, .struct #[{ name := "Op", type := 3, offset := 0, embedded := false, tag := "", pkgPath := "", byteOffset := 0 }, { name := "N", type := 3, offset := 1, embedded := false, tag := "", pkgPath := "", byteOffset := 8 }, { name := "S", type := 9, offset := 2, embedded := false, tag := "", pkgPath := "", byteOffset := 16 }, { name := "L", type := 22, offset := 3, embedded := false, tag := "", pkgPath := "", byteOffset := 32 }], 4, 56, some (.agg ⟨[(.int .i64 (0 : Int)), (.int .i64 (0 : Int)), (.string (bs [])), (.slice none 0 0)]⟩), (.e (.agg [(.int .i64), (.int .i64), (.str), (.sl)]))⟩,
  ⟨26, .func #[24] #[4] false, 1, 8, some .nilFunc, (.e (.one (.fn)))⟩,
  ⟨27, .slice 9, 1, 24, some (.slice none 0 0), (.e (.one (.sl)))⟩,
  ⟨28, .slice 30, 1, 24, some (.slice none 0 0), (.e (.one (.sl)))⟩,
  ⟨30, .struct #[{ name := "Op", type := 3, offset := 0, embedded := false, tag := "", pkgPath := "", byteOffset := 0 }, { name := "N", type := 3, offset := 1, embedded := false, tag := "", pkgPath := "", byteOffset := 8 }, { name := "S", type := 9, offset := 2, embedded := false, tag := "", pkgPath := "", byteOffset := 16 }, { name := "Names", type := 27, offset := 3, embedded := false, tag := "", pkgPath := "", byteOffset := 32 }, { name := "L", type := 28, offset := 4, embedded := false, tag := "", pkgPath := "", byteOffset := 56 }], 5, 80, some (.agg ⟨[(.int .i64 (0 : Int)), (.int .i64 (0 : Int)), (.string (bs [])), (.slice none 0 0), (.slice none 0 0)]⟩), (.e (.agg [(.int .i64), (.int .i64), (.str), (.sl), (.sl)]))⟩,
  ⟨32, .struct #[{ name := "Op", type := 3, offset := 0, embedded := false, tag := "", pkgPath := "", byteOffset := 0 }, { name := "N", type := 3, offset := 1, embedded := false, tag := "", pkgPath := "", byteOffset := 8 }, { name := "Steps", type := 3, offset := 2, embedded := false, tag := "", pkgPath := "", byteOffset := 16 }, { name := "V", type := 30, offset := 3, embedded := false, tag := "", pkgPath := "", byteOffset := 24 }, { name := "Out", type := 27, offset := 8, embedded := false, tag := "", pkgPath := "", byteOffset := 104 }], 9, 128, some (.agg ⟨[(.int .i64 (0 : Int)), (.int .i64 (0 : Int)), (.int .i64 (0 : Int)), (.int .i64 (0 : Int)), (.int .i64 (0 : Int)), (.string (bs [])), (.slice none 0 0), (.slice none 0 0), (.slice none 0 0)]⟩), (.e (.agg [(.int .i64), (.int .i64), (.int .i64), (.int .i64), (.int .i64), (.str), (.sl), (.sl), (.sl)]))⟩,
  ⟨33, .int .i64, 1, 8, some (.int .i64 (0 : Int)), (.e (.one (.int .i64)))⟩,
  ⟨34, .tuple #[32, 33], 1, 0, some (.tuple ⟨[(.agg ⟨[(.int .i64 (0 : Int)), (.int .i64 (0 : Int)), (.int .i64 (0 : Int)), (.int .i64 (0 : Int)), (.int .i64 (0 : Int)), (.string (bs [])), (.slice none 0 0), (.slice none 0 0), (.slice none 0 0)]⟩), (.int .i64 (0 : Int))]⟩), (.tup [(.agg [(.int .i64), (.int .i64), (.int .i64), (.int .i64), (.int .i64), (.str), (.sl), (.sl), (.sl)]), (.one (.int .i64))])⟩,
  ⟨36, .slice 3, 1, 24, some (.slice none 0 0), (.e (.one (.sl)))⟩,
  ⟨42, .int .u16, 1, 2, some (.int .u16 (0 : Int)), (.e (.one (.int .u16)))⟩,
  ⟨47, .func #[24] #[30] false, 1, 8, some .nilFunc, (.e (.one (.fn)))⟩,
  ⟨50, .tuple #[36, 33], 1, 0, some (.tuple ⟨[(.slice none 0 0), (.int .i64 (0 : Int))]⟩), (.tup [(.one (.sl)), (.one (.int .i64))])⟩,
  ⟨54, .func #[24, 24] #[4] false, 1, 8, some .nilFunc, (.e (.one (.fn)))⟩,
  ⟨55, .func #[24, 3] #[] false, 1, 8, some .nilFunc, (.e (.one (.fn)))⟩,
  ⟨56, .pointer 58, 1, 8, some (.pointer none), (.e (.one (.ptr)))⟩,
  ⟨58, .struct #[{ name := "steps", type := 3, offset := 0, embedded := false, tag := "", pkgPath := "pilaster/lambda", byteOffset := 0 }, { name := "fuel", type := 3, offset := 1, embedded := false, tag := "", pkgPath := "pilaster/lambda", byteOffset := 8 }, { name := "out", type := 27, offset := 2, embedded := false, tag := "", pkgPath := "pilaster/lambda", byteOffset := 16 }, { name := "op", type := 3, offset := 3, embedded := false, tag := "", pkgPath := "pilaster/lambda", byteOffset := 40 }, { name := "n", type := 3, offset := 4, embedded := false, tag := "", pkgPath := "pilaster/lambda", byteOffset := 48 }], 5, 56, some (.agg ⟨[(.int .i64 (0 : Int)), (.int .i64 (0 : Int)), (.slice none 0 0), (.int .i64 (0 : Int)), (.int .i64 (0 : Int))]⟩), (.e (.agg [(.int .i64), (.int .i64), (.sl), (.int .i64), (.int .i64)]))⟩,
  ⟨61, .slice 63, 1, 24, some (.slice none 0 0), (.e (.one (.sl)))⟩,
  ⟨63, .struct #[{ name := "Op", type := 3, offset := 0, embedded := false, tag := "", pkgPath := "", byteOffset := 0 }, { name := "N", type := 3, offset := 1, embedded := false, tag := "", pkgPath := "", byteOffset := 8 }, { name := "S", type := 9, offset := 2, embedded := false, tag := "", pkgPath := "", byteOffset := 16 }, { name := "L", type := 61, offset := 3, embedded := false, tag := "", pkgPath := "", byteOffset := 32 }, { name := "Body", type := 24, offset := 4, embedded := false, tag := "", pkgPath := "", byteOffset := 56 }, { name := "Env", type := 61, offset := 8, embedded := false, tag := "", pkgPath := "", byteOffset := 112 }, { name := "Self", type := 4, offset := 9, embedded := false, tag := "", pkgPath := "", byteOffset := 136 }], 10, 144, some (.agg ⟨[(.int .i64 (0 : Int)), (.int .i64 (0 : Int)), (.string (bs [])), (.slice none 0 0), (.int .i64 (0 : Int)), (.int .i64 (0 : Int)), (.string (bs [])), (.slice none 0 0), (.slice none 0 0), (.bool false)]⟩), (.e (.agg [(.int .i64), (.int .i64), (.str), (.sl), (.int .i64), (.int .i64), (.str), (.sl), (.sl), (.bool)]))⟩,
  ⟨65, .struct #[{ name := "fuel", type := 3, offset := 0, embedded := false, tag := "", pkgPath := "pilaster/pilasterref44", byteOffset := 0 }, { name := "steps", type := 3, offset := 1, embedded := false, tag := "", pkgPath := "pilaster/pilasterref44", byteOffset := 8 }, { name := "out", type := 27, offset := 2, embedded := false, tag := "", pkgPath := "pilaster/pilasterref44", byteOffset := 16 }, { name := "end", type := 3, offset := 3, embedded := false, tag := "", pkgPath := "pilaster/pilasterref44", byteOffset := 40 }, { name := "code", type := 3, offset := 4, embedded := false, tag := "", pkgPath := "pilaster/pilasterref44", byteOffset := 48 }], 5, 56, some (.agg ⟨[(.int .i64 (0 : Int)), (.int .i64 (0 : Int)), (.slice none 0 0), (.int .i64 (0 : Int)), (.int .i64 (0 : Int))]⟩), (.e (.agg [(.int .i64), (.int .i64), (.sl), (.int .i64), (.int .i64)]))⟩,
  ⟨66, .tuple #[63, 65], 1, 0, some (.tuple ⟨[(.agg ⟨[(.int .i64 (0 : Int)), (.int .i64 (0 : Int)), (.string (bs [])), (.slice none 0 0), (.int .i64 (0 : Int)), (.int .i64 (0 : Int)), (.string (bs [])), (.slice none 0 0), (.slice none 0 0), (.bool false)]⟩), (.agg ⟨[(.int .i64 (0 : Int)), (.int .i64 (0 : Int)), (.slice none 0 0), (.int .i64 (0 : Int)), (.int .i64 (0 : Int))]⟩)]⟩), (.tup [(.agg [(.int .i64), (.int .i64), (.str), (.sl), (.int .i64), (.int .i64), (.str), (.sl), (.sl), (.bool)]), (.agg [(.int .i64), (.int .i64), (.sl), (.int .i64), (.int .i64)])])⟩,
  ⟨68, .tuple #[30, 3], 1, 0, some (.tuple ⟨[(.agg ⟨[(.int .i64 (0 : Int)), (.int .i64 (0 : Int)), (.string (bs [])), (.slice none 0 0), (.slice none 0 0)]⟩), (.int .i64 (0 : Int))]⟩), (.tup [(.agg [(.int .i64), (.int .i64), (.str), (.sl), (.sl)]), (.one (.int .i64))])⟩,
  ⟨70, .tuple #[3, 4], 1, 0, some (.tuple ⟨[(.int .i64 (0 : Int)), (.bool false)]⟩), (.tup [(.one (.int .i64)), (.one (.bool))])⟩,
  ⟨72, .map 3 4, 1, 8, some (.map none), (.e (.one (.map)))⟩,
  ⟨77, .struct #[], 0, 0, some (.agg ⟨[]⟩), (.e (.agg []))⟩,
  ⟨80, .pointer 100, 1, 8, some (.pointer none), (.e (.one (.ptr)))⟩,
  ⟨82, .pointer 3, 1, 8, some (.pointer none), (.e (.one (.ptr)))⟩,
  ⟨87, .tuple #[61, 65], 1, 0, some (.tuple ⟨[(.slice none 0 0), (.agg ⟨[(.int .i64 (0 : Int)), (.int .i64 (0 : Int)), (.slice none 0 0), (.int .i64 (0 : Int)), (.int .i64 (0 : Int))]⟩)]⟩), (.tup [(.one (.sl)), (.agg [(.int .i64), (.int .i64), (.sl), (.int .i64), (.int .i64)])])⟩,
  ⟨97, .slice 80, 1, 24, some (.slice none 0 0), (.e (.one (.sl)))⟩,
  ⟨98, .pointer 103, 1, 8, some (.pointer none), (.e (.one (.ptr)))⟩,
  ⟨100, .struct #[{ name := "op", type := 3, offset := 0, embedded := false, tag := "", pkgPath := "pilaster/lambda", byteOffset := 0 }, { name := "n", type := 3, offset := 1, embedded := false, tag := "", pkgPath := "pilaster/lambda", byteOffset := 8 }, { name := "s", type := 9, offset := 2, embedded := false, tag := "", pkgPath := "pilaster/lambda", byteOffset := 16 }, { name := "l", type := 97, offset := 3, embedded := false, tag := "", pkgPath := "pilaster/lambda", byteOffset := 32 }, { name := "body", type := 24, offset := 4, embedded := false, tag := "", pkgPath := "pilaster/lambda", byteOffset := 56 }, { name := "env", type := 98, offset := 8, embedded := false, tag := "", pkgPath := "pilaster/lambda", byteOffset := 112 }], 9, 120, some (.agg ⟨[(.int .i64 (0 : Int)), (.int .i64 (0 : Int)), (.string (bs [])), (.slice none 0 0), (.int .i64 (0 : Int)), (.int .i64 (0 : Int)), (.string (bs [])), (.slice none 0 0), (.pointer none)]⟩), (.e (.agg [(.int .i64), (.int .i64), (.str), (.sl), (.int .i64), (.int .i64), (.str), (.sl), (.ptr)]))⟩,
  ⟨103, .struct #[{ name := "v", type := 80, offset := 0, embedded := false, tag := "", pkgPath := "pilaster/lambda", byteOffset := 0 }, { name := "next", type := 98, offset := 1, embedded := false, tag := "", pkgPath := "pilaster/lambda", byteOffset := 8 }], 2, 16, some (.agg ⟨[(.pointer none), (.pointer none)]⟩), (.e (.agg [(.ptr), (.ptr)]))⟩]
theorem TTok : TOk Tryd.prog TT := tok_of (by kernel_rfl)
def FNS : List Nat := [9, 10, 11, 12, 13, 14, 15, 16, 17, 18, 19, 20, 22, 23, 24, 25, 26, 27, 28, 29, 30, 31, 33, 34, 35, 36, 37, 38, 39, 40, 41, 42, 43, 44, 45, 47, 48, 49, 50, 51, 52, 53, 54, 55, 56, 57, 61, 62, 64, 65, 66, 67, 68, 69, 70, 71, 72, 73, 74, 85, 86, 87, 88, 94, 95, 96, 97, 98, 100]
theorem FNSok : FOk Tryd.prog FNS := fok_of (by kernel_rfl)
theorem mixed : Tryd.prog.follows .mixedOrders = true := by kernel_rfl
def TCH : List Nat := [34, 47, 48, 64, 66, 67, 86, 87, 88, 94, 97]
def PNF : List Nat := [47, 48, 64, 66, 67, 86, 87, 88, 94, 97]

/- 3 pilaster/pilasterlaw44.LambdaRuns -/
noncomputable def c3 : Code := match Tryd.f3.body with
  | some c => c
  | none => .skip
/- 4 pilaster/pilasterlaw44.LambdaFuel -/
noncomputable def c4 : Code := match Tryd.f4.body with
  | some c => c
  | none => .skip
/- 5 pilaster/pilasterlaw44.LambdaLets -/
/- 6 pilaster/pilasterlaw44.LambdaValues -/
noncomputable def c6 : Code := match Tryd.f6.body with
  | some c => c
  | none => .skip
noncomputable def cfg6 : Cfg := ⟨Tryd.prog, TT, FNS, [1, 5, 6], [(1, 1), (5, 5), (6, 6), (29, 6), (34, 6), (41, 6), (46, 6)], [4], TCH, false, false, none, PNF, false⟩
def an6 : AnnG := (.seq .leaf (.seq (.seq .leaf (.cond (.seq .leaf .leaf) .leaf)) (.join ⟨[], [], []⟩ (.seq .leaf (.cond (.seq .leaf .leaf) .leaf)) (.seq .leaf (.seq .leaf (.seq .leaf (.seq .leaf (.seq .leaf (.join ⟨[], [], []⟩ (.seq .leaf (.cond (.seq .leaf .leaf) .leaf)) (.seq (.tree 11 (.quiet 0 (.quiet 1 (.quiet 2 (.quiet 3 (.quiet 4 (.eff 5 (.quiet 6 (.quiet 7 (.quiet 8 (.quiet 9 (.eff 10 .fin .fin))))) .fin))))))) .leaf))))))))))
def F6 (x0 : Int) (x1 : Int) (x2 : ByteArray) (x3a : Option Addr) (x3l : Nat) (x3c : Nat) (g : G) (R : Value → G → Prop) : Prop :=
  ∀ g1 : G, Ex g g1 →
  (CallsP Tryd.prog 9 #[] g1 fun v g2 =>
  ∃ x : Bool, v = (.bool x) ∧ ifB (!x)
  (∀ g3 : G, Ex g2 g3 →
  R (.bool false) g3)
  (∀ J : G → Prop,
  (∀ g4 : G, (∀ g5 : G, NewD g4 g5 4 [(.bool false)] →
  stOk g5.w ⟨g4.w.heap.size, 0, none⟩ 1 ∧ ¬ g5.X (Addr.block ⟨g4.w.heap.size, 0, none⟩) ∧ mutAt g5 ⟨g4.w.heap.size, 0, none⟩ 1 ∧ ((Addr.block ⟨g4.w.heap.size, 0, none⟩) < g.w.heap.size → nobody (Addr.block ⟨g4.w.heap.size, 0, none⟩)) ∧ ∀ g6 : G, StG false g5 ⟨g4.w.heap.size, 0, none⟩ [(.bool false)] g6 →
  ∀ g7 : G, NewD g6 g7 47 [.nilFunc] →
  stOk g7.w ⟨g6.w.heap.size, 0, none⟩ 1 ∧ ¬ g7.X (Addr.block ⟨g6.w.heap.size, 0, none⟩) ∧ mutAt g7 ⟨g6.w.heap.size, 0, none⟩ 1 ∧ ((Addr.block ⟨g6.w.heap.size, 0, none⟩) < g.w.heap.size → nobody (Addr.block ⟨g6.w.heap.size, 0, none⟩)) ∧ ∀ g8 : G, StG true g7 ⟨g6.w.heap.size, 0, none⟩ [(.func (.func 21) #[] ⟨[(.pointer (some ⟨g4.w.heap.size, 0, none⟩)), (.pointer (some ⟨g6.w.heap.size, 0, none⟩))]⟩)] g8 →
  ∃ writtenf : FuncId, ∃ writtenc : Array Value, g8.w.cell? ⟨g6.w.heap.size, 0, none⟩ = some (.func (.func writtenf) #[] writtenc) ∧ Enters Tryd.prog writtenf ∧ (CallsP Tryd.prog writtenf ((⟨[(.agg ⟨[(.int .i64 x0), (.int .i64 x1), (.string x2), (.slice x3a x3l x3c)]⟩)]⟩ : Array Value) ++ writtenc) g8 fun v g9 =>
  ∃ x0_1 : Int, ∃ x1_1 : Int, ∃ x2_1 : ByteArray, ∃ x3a_1 : Option Addr, ∃ x3l_1 : Nat, ∃ x3c_1 : Nat, ∃ x4a : Option Addr, ∃ x4l : Nat, ∃ x4c : Nat, v = (.agg ⟨[(.int .i64 x0_1), (.int .i64 x1_1), (.string x2_1), (.slice x3a_1 x3l_1 x3c_1), (.slice x4a x4l x4c)]⟩) ∧ ∀ g10 : G, Ex g9 g10 →
  (CallsP Tryd.prog 11 #[(.agg ⟨[(.int .i64 x0), (.int .i64 x1), (.string x2), (.slice x3a x3l x3c)]⟩), (.int .i64 (5000 : Int))] g10 fun v g11 =>
  ∃ x00 : Int, ∃ x01 : Int, ∃ x02 : Int, ∃ x03 : Int, ∃ x04 : Int, ∃ x05 : ByteArray, ∃ x06a : Option Addr, ∃ x06l : Nat, ∃ x06c : Nat, ∃ x07a : Option Addr, ∃ x07l : Nat, ∃ x07c : Nat, ∃ x08a : Option Addr, ∃ x08l : Nat, ∃ x08c : Nat, ∃ x1_2 : Int, v = (.tuple ⟨[(.agg ⟨[(.int .i64 x00), (.int .i64 x01), (.int .i64 x02), (.int .i64 x03), (.int .i64 x04), (.string x05), (.slice x06a x06l x06c), (.slice x07a x07l x07c), (.slice x08a x08l x08c)]⟩), (.int .i64 x1_2)]⟩) ∧ ∀ J_1 : G → Prop,
  (∀ g12 : G, (∀ g13 : G, Ex g12 g13 →
  ∃ functions : Bool, g13.w.cell? ⟨g4.w.heap.size, 0, none⟩ = some (.bool functions) ∧ ifB functions
  (∀ g14 : G, Ex g13 g14 →
  R (.bool true) g14)
  ((CallsP Tryd.prog 22 #[(.agg ⟨[(.int .i64 x03), (.int .i64 x04), (.string x05), (.slice x06a x06l x06c), (.slice x07a x07l x07c)]⟩), (.agg ⟨[(.int .i64 x0_1), (.int .i64 x1_1), (.string x2_1), (.slice x3a_1 x3l_1 x3c_1), (.slice x4a x4l x4c)]⟩)] g13 fun v g15 =>
  ∃ x_1 : Bool, v = (.bool x_1) ∧ ifB x_1
  ((CallsP Tryd.prog 23 #[(.agg ⟨[(.int .i64 x0), (.int .i64 x1), (.string x2), (.slice x3a x3l x3c)]⟩)] g15 fun v g16 =>
  ∃ x_2 : Int, v = (.int .i64 x_2) ∧ ∀ g17 : G, Ex g16 g17 →
  R (.bool (eqI x02 x_2)) g17))
  (∀ g18 : G, Ex g15 g18 →
  R (.bool false) g18)))) → J_1 g12) →
  ifB (!eqI x1_2 (0 : Int))
  (∀ g19 : G, Ex g11 g19 →
  R (.bool false) g19)
  (ifB (!eqI x00 (1 : Int))
  (∀ g20 : G, Ex g11 g20 →
  R (.bool false) g20)
  (ifB (!eqI ((x08l : Nat) : Int) (0 : Int))
  (∀ g21 : G, Ex g11 g21 →
  R (.bool false) g21)
  (∀ g22 : G, Ex g11 g22 →
  J_1 g22)))))) → J g4) →
  (CallsP Tryd.prog 10 #[(.agg ⟨[(.int .i64 x0), (.int .i64 x1), (.string x2), (.slice x3a x3l x3c)]⟩)] g2 fun v g23 =>
  ∃ x_3 : Bool, v = (.bool x_3) ∧ ifB x_3
  (∀ g24 : G, Ex g23 g24 →
  R (.bool true) g24)
  ((CallsP Tryd.prog 20 #[(.agg ⟨[(.int .i64 x0), (.int .i64 x1), (.string x2), (.slice x3a x3l x3c)]⟩)] g23 fun v g25 =>
  ∃ x_4 : Bool, v = (.bool x_4) ∧ ifB (!x_4)
  (∀ g26 : G, Ex g25 g26 →
  R (.bool true) g26)
  (J g25))))))
theorem F6_eq (x0 : Int) (x1 : Int) (x2 : ByteArray) (x3a : Option Addr) (x3l : Nat) (x3c : Nat) (g : G) (R : Value → G → Prop) : fnG cfg6 53 [.tmp 2] c6 an6 [(.agg ⟨[(.int .i64 x0), (.int .i64 x1), (.string x2), (.slice x3a x3l x3c)]⟩)] g nobody R = F6 x0 x1 x2 x3a x3l x3c g R := by kernel_rfl
theorem call6 (x0 : Int) (x1 : Int) (x2 : ByteArray) (x3a : Option Addr) (x3l : Nat) (x3c : Nat) (g : G) (R : Value → G → Prop) (hF : F6 x0 x1 x2 x3a x3l x3c g R) : CallsG Tryd.prog 6 #[(.agg ⟨[(.int .i64 x0), (.int .i64 x1), (.string x2), (.slice x3a x3l x3c)]⟩)] g nobody R :=
  fn_soundG (c := cfg6) TTok FNSok mixed Tryd.func6 (show Tryd.f6.body = some c6 by kernel_rfl) (show Tryd.f6.ntmps = 53 by kernel_rfl) (show Tryd.f6.results.toList = [.tmp 2] by kernel_rfl) rfl ((F6_eq x0 x1 x2 x3a x3l x3c g R ).mpr hF)

/- 7 pilaster/pilasterlaw44.LambdaFree -/
/- 8 pilaster/pilasterlaw44.LambdaForms -/
/- 9 pilaster/pilasterlaw44.awake -/
noncomputable def c9 : Code := match Tryd.f9.body with
  | some c => c
  | none => .skip
noncomputable def cfg9 : Cfg := ⟨Tryd.prog, TT, FNS, [1, 2, 4, 5], [(1, 1), (2, 2), (4, 4), (5, 5), (38, 2), (43, 2), (44, 2), (49, 2), (50, 2), (55, 2), (64, 5), (69, 5)], [], TCH, false, false, none, PNF, false⟩
def an9 : AnnG := (.seq .leaf (.seq .leaf (.seq .leaf (.seq .leaf (.join ⟨[(6, .int .i64)], [(5, 5, 0)], [(5, [(.int .i64), (.int .i64), (.int .i64), (.int .i64), (.int .i64), (.str), (.sl), (.sl), (.sl)])]⟩ (.treeP false [] 10 (.quiet 0 (.eff 1 (.eff 2 (.eff 3 (.eff 4 (.quiet 5 (.quiet 6 (.quiet 7 (.eff 8 (.eff 9 .fin .fin) .fin)))) (.eff 8 (.eff 4 (.quiet 5 (.quiet 6 (.quiet 7 (.eff 9 .fin .fin)))) .fin) .fin)) (.eff 8 (.eff 3 (.eff 4 (.quiet 5 (.quiet 6 (.quiet 7 (.eff 9 .fin .fin)))) .fin) .fin) .fin)) (.eff 8 (.eff 2 (.eff 3 (.eff 4 (.quiet 5 (.quiet 6 (.quiet 7 (.eff 9 .fin .fin)))) .fin) .fin) .fin) .fin)) (.eff 8 (.eff 1 (.eff 2 (.eff 3 (.eff 4 (.quiet 5 (.quiet 6 (.quiet 7 (.eff 9 .fin .fin)))) .fin) .fin) .fin) .fin) .fin)))) (.seq .leaf .leaf))))))
def F9 (g : G) (R : Value → G → Prop) : Prop :=
  (CallsP Tryd.prog 18 #[(.int .i64 (2 : Int)), (.int .i64 (2 : Int)), (.slice none 0 0)] g fun v g1 =>
  ∃ x0 : Int, ∃ x1 : Int, ∃ x2 : ByteArray, ∃ x3a : Option Addr, ∃ x3l : Nat, ∃ x3c : Nat, v = (.agg ⟨[(.int .i64 x0), (.int .i64 x1), (.string x2), (.slice x3a x3l x3c)]⟩) ∧ (CallsP Tryd.prog 18 #[(.int .i64 (1 : Int)), (.int .i64 (0 : Int)), (.slice none 0 0)] g1 fun v g2 =>
  ∃ x0_1 : Int, ∃ x1_1 : Int, ∃ x2_1 : ByteArray, ∃ x3a_1 : Option Addr, ∃ x3l_1 : Nat, ∃ x3c_1 : Nat, v = (.agg ⟨[(.int .i64 x0_1), (.int .i64 x1_1), (.string x2_1), (.slice x3a_1 x3l_1 x3c_1)]⟩) ∧ (CallsP Tryd.prog 18 #[(.int .i64 (1 : Int)), (.int .i64 (0 : Int)), (.slice none 0 0)] g2 fun v g3 =>
  ∃ x0_2 : Int, ∃ x1_2 : Int, ∃ x2_2 : ByteArray, ∃ x3a_2 : Option Addr, ∃ x3l_2 : Nat, ∃ x3c_2 : Nat, v = (.agg ⟨[(.int .i64 x0_2), (.int .i64 x1_2), (.string x2_2), (.slice x3a_2 x3l_2 x3c_2)]⟩) ∧ ∀ g4 : G, NewL g3 g4 24 [(.int .i64 x0_1), (.int .i64 x1_1), (.string x2_1), (.slice x3a_1 x3l_1 x3c_1), (.int .i64 x0_2), (.int .i64 x1_2), (.string x2_2), (.slice x3a_2 x3l_2 x3c_2)] →
  (CallsP Tryd.prog 18 #[(.int .i64 (12 : Int)), (.int .i64 (1 : Int)), (.slice (some ⟨g3.w.heap.size, 0, none⟩) 2 2)] g4 fun v g5 =>
  ∃ x0_3 : Int, ∃ x1_3 : Int, ∃ x2_3 : ByteArray, ∃ x3a_3 : Option Addr, ∃ x3l_3 : Nat, ∃ x3c_3 : Nat, v = (.agg ⟨[(.int .i64 x0_3), (.int .i64 x1_3), (.string x2_3), (.slice x3a_3 x3l_3 x3c_3)]⟩) ∧ ∀ g6 : G, NewL g5 g6 24 [(.int .i64 x0), (.int .i64 x1), (.string x2), (.slice x3a x3l x3c), (.int .i64 x0_3), (.int .i64 x1_3), (.string x2_3), (.slice x3a_3 x3l_3 x3c_3)] →
  (CallsP Tryd.prog 18 #[(.int .i64 (11 : Int)), (.int .i64 (0 : Int)), (.slice (some ⟨g5.w.heap.size, 0, none⟩) 2 2)] g6 fun v g7 =>
  ∃ x0_4 : Int, ∃ x1_4 : Int, ∃ x2_4 : ByteArray, ∃ x3a_4 : Option Addr, ∃ x3l_4 : Nat, ∃ x3c_4 : Nat, v = (.agg ⟨[(.int .i64 x0_4), (.int .i64 x1_4), (.string x2_4), (.slice x3a_4 x3l_4 x3c_4)]⟩) ∧ ∀ g8 : G, Ex g7 g8 →
  (CallsP Tryd.prog 11 #[(.agg ⟨[(.int .i64 x0_4), (.int .i64 x1_4), (.string x2_4), (.slice x3a_4 x3l_4 x3c_4)]⟩), (.int .i64 (100 : Int))] g8 fun v g9 =>
  ∃ x00 : Int, ∃ x01 : Int, ∃ x02 : Int, ∃ x03 : Int, ∃ x04 : Int, ∃ x05 : ByteArray, ∃ x06a : Option Addr, ∃ x06l : Nat, ∃ x06c : Nat, ∃ x07a : Option Addr, ∃ x07l : Nat, ∃ x07c : Nat, ∃ x08a : Option Addr, ∃ x08l : Nat, ∃ x08c : Nat, ∃ x1_5 : Int, v = (.tuple ⟨[(.agg ⟨[(.int .i64 x00), (.int .i64 x01), (.int .i64 x02), (.int .i64 x03), (.int .i64 x04), (.string x05), (.slice x06a x06l x06c), (.slice x07a x07l x07c), (.slice x08a x08l x08c)]⟩), (.int .i64 x1_5)]⟩) ∧ ∀ g10 : G, Ex g9 g10 →
  (CallsP Tryd.prog 18 #[(.int .i64 (1 : Int)), (.int .i64 (1 : Int)), (.slice none 0 0)] g10 fun v g11 =>
  ∃ x0_5 : Int, ∃ x1_6 : Int, ∃ x2_5 : ByteArray, ∃ x3a_5 : Option Addr, ∃ x3l_5 : Nat, ∃ x3c_5 : Nat, v = (.agg ⟨[(.int .i64 x0_5), (.int .i64 x1_6), (.string x2_5), (.slice x3a_5 x3l_5 x3c_5)]⟩) ∧ (CallsP Tryd.prog 18 #[(.int .i64 (1 : Int)), (.int .i64 (0 : Int)), (.slice none 0 0)] g11 fun v g12 =>
  ∃ x0_6 : Int, ∃ x1_7 : Int, ∃ x2_6 : ByteArray, ∃ x3a_6 : Option Addr, ∃ x3l_6 : Nat, ∃ x3c_6 : Nat, v = (.agg ⟨[(.int .i64 x0_6), (.int .i64 x1_7), (.string x2_6), (.slice x3a_6 x3l_6 x3c_6)]⟩) ∧ ∀ g13 : G, NewL g12 g13 24 [(.int .i64 x0_5), (.int .i64 x1_6), (.string x2_5), (.slice x3a_5 x3l_5 x3c_5), (.int .i64 x0_6), (.int .i64 x1_7), (.string x2_6), (.slice x3a_6 x3l_6 x3c_6)] →
  (CallsP Tryd.prog 18 #[(.int .i64 (5 : Int)), (.int .i64 (0 : Int)), (.slice (some ⟨g12.w.heap.size, 0, none⟩) 2 2)] g13 fun v g14 =>
  ∃ x0_7 : Int, ∃ x1_8 : Int, ∃ x2_7 : ByteArray, ∃ x3a_7 : Option Addr, ∃ x3l_7 : Nat, ∃ x3c_7 : Nat, v = (.agg ⟨[(.int .i64 x0_7), (.int .i64 x1_8), (.string x2_7), (.slice x3a_7 x3l_7 x3c_7)]⟩) ∧ ∀ g15 : G, NewL g14 g15 24 [(.int .i64 x0_7), (.int .i64 x1_8), (.string x2_7), (.slice x3a_7 x3l_7 x3c_7)] →
  (CallsP Tryd.prog 18 #[(.int .i64 (4 : Int)), (.int .i64 (0 : Int)), (.slice (some ⟨g14.w.heap.size, 0, none⟩) 1 1)] g15 fun v g16 =>
  ∃ x0_8 : Int, ∃ x1_9 : Int, ∃ x2_8 : ByteArray, ∃ x3a_8 : Option Addr, ∃ x3l_8 : Nat, ∃ x3c_8 : Nat, v = (.agg ⟨[(.int .i64 x0_8), (.int .i64 x1_9), (.string x2_8), (.slice x3a_8 x3l_8 x3c_8)]⟩) ∧ ∀ g17 : G, NewL g16 g17 24 [(.int .i64 x0_8), (.int .i64 x1_9), (.string x2_8), (.slice x3a_8 x3l_8 x3c_8)] →
  (CallsP Tryd.prog 18 #[(.int .i64 (10 : Int)), (.int .i64 (0 : Int)), (.slice (some ⟨g16.w.heap.size, 0, none⟩) 1 1)] g17 fun v g18 =>
  ∃ x0_9 : Int, ∃ x1_10 : Int, ∃ x2_9 : ByteArray, ∃ x3a_9 : Option Addr, ∃ x3l_9 : Nat, ∃ x3c_9 : Nat, v = (.agg ⟨[(.int .i64 x0_9), (.int .i64 x1_10), (.string x2_9), (.slice x3a_9 x3l_9 x3c_9)]⟩) ∧ ∀ J : Int → Int → Int → Int → Int → Int → ByteArray → Option Addr → Nat → Nat → Option Addr → Nat → Nat → Option Addr → Nat → Nat → G → Prop,
  (∀ f : Int, ∀ y0 : Int, ∀ y1 : Int, ∀ y2 : Int, ∀ y3 : Int, ∀ y4 : Int, ∀ y5 : ByteArray, ∀ y6a : Option Addr, ∀ y6l : Nat, ∀ y6c : Nat, ∀ y7a : Option Addr, ∀ y7l : Nat, ∀ y7c : Nat, ∀ y8a : Option Addr, ∀ y8l : Nat, ∀ y8c : Nat, ∀ g19 : G, (ifB (eqI x1_5 (0 : Int))
  (ifB (eqI x00 (1 : Int))
  (ifB (eqI x03 (1 : Int))
  (ifB (eqI x04 (4 : Int))
  (ifB (eqI x02 (5 : Int))
  (ifB (eqI f (0 : Int))
  (ifB (eqI y0 (3 : Int))
  (∀ g20 : G, Ex g19 g20 →
  R (.bool (eqI y2 (100 : Int))) g20)
  (∀ g21 : G, Ex g19 g21 →
  R (.bool false) g21))
  (∀ g22 : G, Ex g19 g22 →
  R (.bool false) g22))
  (∀ g23 : G, Ex g19 g23 →
  R (.bool false) g23))
  (∀ g24 : G, Ex g19 g24 →
  R (.bool false) g24))
  (∀ g25 : G, Ex g19 g25 →
  R (.bool false) g25))
  (∀ g26 : G, Ex g19 g26 →
  R (.bool false) g26))
  (∀ g27 : G, Ex g19 g27 →
  R (.bool false) g27)) → J f y0 y1 y2 y3 y4 y5 y6a y6l y6c y7a y7l y7c y8a y8l y8c g19) →
  ∀ g28 : G, Ex g18 g28 →
  (∀ g29 : G, Ex g28 g29 →
  (CallsP Tryd.prog 18 #[(.int .i64 (2 : Int)), (.int .i64 (0 : Int)), (.slice none 0 0)] g29 fun v g30 =>
  ∃ x0_10 : Int, ∃ x1_11 : Int, ∃ x2_10 : ByteArray, ∃ x3a_10 : Option Addr, ∃ x3l_10 : Nat, ∃ x3c_10 : Nat, v = (.agg ⟨[(.int .i64 x0_10), (.int .i64 x1_11), (.string x2_10), (.slice x3a_10 x3l_10 x3c_10)]⟩) ∧ (∀ g31 : G, Ex g30 g31 →
  ∀ g32 : G, NewL g31 g32 24 [(.int .i64 x0_9), (.int .i64 x1_10), (.string x2_9), (.slice x3a_9 x3l_9 x3c_9), (.int .i64 x0_10), (.int .i64 x1_11), (.string x2_10), (.slice x3a_10 x3l_10 x3c_10)] →
  (∀ g33 : G, Ex g32 g33 →
  (CallsP Tryd.prog 18 #[(.int .i64 (5 : Int)), (.int .i64 (0 : Int)), (.slice (some ⟨g31.w.heap.size, 0, none⟩) 2 2)] g33 fun v g34 =>
  ∃ x0_11 : Int, ∃ x1_12 : Int, ∃ x2_11 : ByteArray, ∃ x3a_11 : Option Addr, ∃ x3l_11 : Nat, ∃ x3c_11 : Nat, v = (.agg ⟨[(.int .i64 x0_11), (.int .i64 x1_12), (.string x2_11), (.slice x3a_11 x3l_11 x3c_11)]⟩) ∧ Rep 1 (∀ g35 : G, Ex g34 g35 →
  (CallsP Tryd.prog 11 #[(.agg ⟨[(.int .i64 x0_11), (.int .i64 x1_12), (.string x2_11), (.slice x3a_11 x3l_11 x3c_11)]⟩), (.int .i64 (100 : Int))] g35 fun v g36 =>
  ∃ x00_1 : Int, ∃ x01_1 : Int, ∃ x02_1 : Int, ∃ x03_1 : Int, ∃ x04_1 : Int, ∃ x05_1 : ByteArray, ∃ x06a_1 : Option Addr, ∃ x06l_1 : Nat, ∃ x06c_1 : Nat, ∃ x07a_1 : Option Addr, ∃ x07l_1 : Nat, ∃ x07c_1 : Nat, ∃ x08a_1 : Option Addr, ∃ x08l_1 : Nat, ∃ x08c_1 : Nat, ∃ x1_13 : Int, v = (.tuple ⟨[(.agg ⟨[(.int .i64 x00_1), (.int .i64 x01_1), (.int .i64 x02_1), (.int .i64 x03_1), (.int .i64 x04_1), (.string x05_1), (.slice x06a_1 x06l_1 x06c_1), (.slice x07a_1 x07l_1 x07c_1), (.slice x08a_1 x08l_1 x08c_1)]⟩), (.int .i64 x1_13)]⟩) ∧ ∀ g37 : G, Ex g36 g37 →
  J x1_13 x00_1 x01_1 x02_1 x03_1 x04_1 x05_1 x06a_1 x06l_1 x06c_1 x07a_1 x07l_1 x07c_1 x08a_1 x08l_1 x08c_1 g37)))) ∧ (∀ g41 : G, Ex g32 g41 →
  (CallsP Tryd.prog 18 #[(.int .i64 (5 : Int)), (.int .i64 (0 : Int)), (.slice (some ⟨g31.w.heap.size, 0, none⟩) 2 2)] g41 fun v g42 =>
  ∃ x0_12 : Int, ∃ x1_15 : Int, ∃ x2_12 : ByteArray, ∃ x3a_12 : Option Addr, ∃ x3l_12 : Nat, ∃ x3c_12 : Nat, v = (.agg ⟨[(.int .i64 x0_12), (.int .i64 x1_15), (.string x2_12), (.slice x3a_12 x3l_12 x3c_12)]⟩) ∧ ∀ g43 : G, Ex g42 g43 →
  (CallsP Tryd.prog 11 #[(.agg ⟨[(.int .i64 x0_12), (.int .i64 x1_15), (.string x2_12), (.slice x3a_12 x3l_12 x3c_12)]⟩), (.int .i64 (100 : Int))] g43 fun v g44 =>
  ∃ x00_3 : Int, ∃ x01_3 : Int, ∃ x02_3 : Int, ∃ x03_3 : Int, ∃ x04_3 : Int, ∃ x05_3 : ByteArray, ∃ x06a_3 : Option Addr, ∃ x06l_3 : Nat, ∃ x06c_3 : Nat, ∃ x07a_3 : Option Addr, ∃ x07l_3 : Nat, ∃ x07c_3 : Nat, ∃ x08a_3 : Option Addr, ∃ x08l_3 : Nat, ∃ x08c_3 : Nat, ∃ x1_16 : Int, v = (.tuple ⟨[(.agg ⟨[(.int .i64 x00_3), (.int .i64 x01_3), (.int .i64 x02_3), (.int .i64 x03_3), (.int .i64 x04_3), (.string x05_3), (.slice x06a_3 x06l_3 x06c_3), (.slice x07a_3 x07l_3 x07c_3), (.slice x08a_3 x08l_3 x08c_3)]⟩), (.int .i64 x1_16)]⟩) ∧ ∀ g45 : G, Ex g44 g45 →
  J x1_16 x00_3 x01_3 x02_3 x03_3 x04_3 x05_3 x06a_3 x06l_3 x06c_3 x07a_3 x07l_3 x07c_3 x08a_3 x08l_3 x08c_3 g45)))) ∧ (∀ g46 : G, Ex g30 g46 →
  ∀ g47 : G, NewL g46 g47 24 [(.int .i64 x0_9), (.int .i64 x1_10), (.string x2_9), (.slice x3a_9 x3l_9 x3c_9), (.int .i64 x0_10), (.int .i64 x1_11), (.string x2_10), (.slice x3a_10 x3l_10 x3c_10)] →
  ∀ g48 : G, Ex g47 g48 →
  (CallsP Tryd.prog 18 #[(.int .i64 (5 : Int)), (.int .i64 (0 : Int)), (.slice (some ⟨g46.w.heap.size, 0, none⟩) 2 2)] g48 fun v g49 =>
  ∃ x0_13 : Int, ∃ x1_17 : Int, ∃ x2_13 : ByteArray, ∃ x3a_13 : Option Addr, ∃ x3l_13 : Nat, ∃ x3c_13 : Nat, v = (.agg ⟨[(.int .i64 x0_13), (.int .i64 x1_17), (.string x2_13), (.slice x3a_13 x3l_13 x3c_13)]⟩) ∧ ∀ g50 : G, Ex g49 g50 →
  (CallsP Tryd.prog 11 #[(.agg ⟨[(.int .i64 x0_13), (.int .i64 x1_17), (.string x2_13), (.slice x3a_13 x3l_13 x3c_13)]⟩), (.int .i64 (100 : Int))] g50 fun v g51 =>
  ∃ x00_4 : Int, ∃ x01_4 : Int, ∃ x02_4 : Int, ∃ x03_4 : Int, ∃ x04_4 : Int, ∃ x05_4 : ByteArray, ∃ x06a_4 : Option Addr, ∃ x06l_4 : Nat, ∃ x06c_4 : Nat, ∃ x07a_4 : Option Addr, ∃ x07l_4 : Nat, ∃ x07c_4 : Nat, ∃ x08a_4 : Option Addr, ∃ x08l_4 : Nat, ∃ x08c_4 : Nat, ∃ x1_18 : Int, v = (.tuple ⟨[(.agg ⟨[(.int .i64 x00_4), (.int .i64 x01_4), (.int .i64 x02_4), (.int .i64 x03_4), (.int .i64 x04_4), (.string x05_4), (.slice x06a_4 x06l_4 x06c_4), (.slice x07a_4 x07l_4 x07c_4), (.slice x08a_4 x08l_4 x08c_4)]⟩), (.int .i64 x1_18)]⟩) ∧ ∀ g52 : G, Ex g51 g52 →
  J x1_18 x00_4 x01_4 x02_4 x03_4 x04_4 x05_4 x06a_4 x06l_4 x06c_4 x07a_4 x07l_4 x07c_4 x08a_4 x08l_4 x08c_4 g52))))) ∧ (∀ g53 : G, Ex g28 g53 →
  (CallsP Tryd.prog 18 #[(.int .i64 (2 : Int)), (.int .i64 (0 : Int)), (.slice none 0 0)] g53 fun v g54 =>
  ∃ x0_14 : Int, ∃ x1_19 : Int, ∃ x2_14 : ByteArray, ∃ x3a_14 : Option Addr, ∃ x3l_14 : Nat, ∃ x3c_14 : Nat, v = (.agg ⟨[(.int .i64 x0_14), (.int .i64 x1_19), (.string x2_14), (.slice x3a_14 x3l_14 x3c_14)]⟩) ∧ ∀ g55 : G, Ex g54 g55 →
  ∀ g56 : G, NewL g55 g56 24 [(.int .i64 x0_9), (.int .i64 x1_10), (.string x2_9), (.slice x3a_9 x3l_9 x3c_9), (.int .i64 x0_14), (.int .i64 x1_19), (.string x2_14), (.slice x3a_14 x3l_14 x3c_14)] →
  ∀ g57 : G, Ex g56 g57 →
  (CallsP Tryd.prog 18 #[(.int .i64 (5 : Int)), (.int .i64 (0 : Int)), (.slice (some ⟨g55.w.heap.size, 0, none⟩) 2 2)] g57 fun v g58 =>
  ∃ x0_15 : Int, ∃ x1_20 : Int, ∃ x2_15 : ByteArray, ∃ x3a_15 : Option Addr, ∃ x3l_15 : Nat, ∃ x3c_15 : Nat, v = (.agg ⟨[(.int .i64 x0_15), (.int .i64 x1_20), (.string x2_15), (.slice x3a_15 x3l_15 x3c_15)]⟩) ∧ ∀ g59 : G, Ex g58 g59 →
  (CallsP Tryd.prog 11 #[(.agg ⟨[(.int .i64 x0_15), (.int .i64 x1_20), (.string x2_15), (.slice x3a_15 x3l_15 x3c_15)]⟩), (.int .i64 (100 : Int))] g59 fun v g60 =>
  ∃ x00_5 : Int, ∃ x01_5 : Int, ∃ x02_5 : Int, ∃ x03_5 : Int, ∃ x04_5 : Int, ∃ x05_5 : ByteArray, ∃ x06a_5 : Option Addr, ∃ x06l_5 : Nat, ∃ x06c_5 : Nat, ∃ x07a_5 : Option Addr, ∃ x07l_5 : Nat, ∃ x07c_5 : Nat, ∃ x08a_5 : Option Addr, ∃ x08l_5 : Nat, ∃ x08c_5 : Nat, ∃ x1_21 : Int, v = (.tuple ⟨[(.agg ⟨[(.int .i64 x00_5), (.int .i64 x01_5), (.int .i64 x02_5), (.int .i64 x03_5), (.int .i64 x04_5), (.string x05_5), (.slice x06a_5 x06l_5 x06c_5), (.slice x07a_5 x07l_5 x07c_5), (.slice x08a_5 x08l_5 x08c_5)]⟩), (.int .i64 x1_21)]⟩) ∧ ∀ g61 : G, Ex g60 g61 →
  J x1_21 x00_5 x01_5 x02_5 x03_5 x04_5 x05_5 x06a_5 x06l_5 x06c_5 x07a_5 x07l_5 x07c_5 x08a_5 x08l_5 x08c_5 g61)))))))))))))))
theorem F9_eq (g : G) (R : Value → G → Prop) : fnG cfg9 73 [.tmp 0] c9 an9 [] g nobody R = F9 g R := by kernel_rfl
theorem call9 (g : G) (R : Value → G → Prop) (hF : F9 g R) : CallsG Tryd.prog 9 #[] g nobody R :=
  fn_soundG (c := cfg9) TTok FNSok mixed Tryd.func9 (show Tryd.f9.body = some c9 by kernel_rfl) (show Tryd.f9.ntmps = 73 by kernel_rfl) (show Tryd.f9.results.toList = [.tmp 0] by kernel_rfl) rfl ((F9_eq g R ).mpr hF)

/- 10 pilaster/pilasterlaw44.big -/
noncomputable def c10 : Code := match Tryd.f10.body with
  | some c => c
  | none => .skip
noncomputable def cfg10 : Cfg := ⟨Tryd.prog, TT, FNS, [1], [(1, 1)], [4], TCH, false, false, none, PNF, false⟩
def an10 : AnnG := (.seq .leaf (.seq .leaf (.seq .leaf (.seq .leaf (.seq .leaf (.seq .leaf .leaf))))))
def F10 (x0 : Int) (x1 : Int) (x2 : ByteArray) (x3a : Option Addr) (x3l : Nat) (x3c : Nat) (g : G) (R : Value → G → Prop) : Prop :=
  ∀ g1 : G, Ex g g1 →
  ∀ g2 : G, NewD g1 g2 3 [(.int .i64 (0 : Int))] →
  stOk g2.w ⟨g1.w.heap.size, 0, none⟩ 1 ∧ ¬ g2.X (Addr.block ⟨g1.w.heap.size, 0, none⟩) ∧ mutAt g2 ⟨g1.w.heap.size, 0, none⟩ 1 ∧ ((Addr.block ⟨g1.w.heap.size, 0, none⟩) < g.w.heap.size → nobody (Addr.block ⟨g1.w.heap.size, 0, none⟩)) ∧ ∀ g3 : G, StG false g2 ⟨g1.w.heap.size, 0, none⟩ [(.int .i64 (0 : Int))] g3 →
  ∀ g4 : G, NewD g3 g4 55 [.nilFunc] →
  stOk g4.w ⟨g3.w.heap.size, 0, none⟩ 1 ∧ ¬ g4.X (Addr.block ⟨g3.w.heap.size, 0, none⟩) ∧ mutAt g4 ⟨g3.w.heap.size, 0, none⟩ 1 ∧ ((Addr.block ⟨g3.w.heap.size, 0, none⟩) < g.w.heap.size → nobody (Addr.block ⟨g3.w.heap.size, 0, none⟩)) ∧ ∀ g5 : G, StG true g4 ⟨g3.w.heap.size, 0, none⟩ [(.func (.func 32) #[] ⟨[(.pointer (some ⟨g1.w.heap.size, 0, none⟩)), (.pointer (some ⟨g3.w.heap.size, 0, none⟩))]⟩)] g5 →
  ∃ walkf : FuncId, ∃ walkc : Array Value, g5.w.cell? ⟨g3.w.heap.size, 0, none⟩ = some (.func (.func walkf) #[] walkc) ∧ Enters Tryd.prog walkf ∧ (CallsP Tryd.prog walkf ((⟨[(.agg ⟨[(.int .i64 x0), (.int .i64 x1), (.string x2), (.slice x3a x3l x3c)]⟩), (.int .i64 (1 : Int))]⟩ : Array Value) ++ walkc) g5 fun v g6 =>
  v = (.tuple ⟨[]⟩) ∧ ∃ n : Int, g6.w.cell? ⟨g1.w.heap.size, 0, none⟩ = some (.int .i64 n) ∧ ∀ g7 : G, Ex g6 g7 →
  R (.bool (ltI (200 : Int) n)) g7)
theorem F10_eq (x0 : Int) (x1 : Int) (x2 : ByteArray) (x3a : Option Addr) (x3l : Nat) (x3c : Nat) (g : G) (R : Value → G → Prop) : fnG cfg10 11 [.tmp 2] c10 an10 [(.agg ⟨[(.int .i64 x0), (.int .i64 x1), (.string x2), (.slice x3a x3l x3c)]⟩)] g nobody R = F10 x0 x1 x2 x3a x3l x3c g R := by kernel_rfl
theorem call10 (x0 : Int) (x1 : Int) (x2 : ByteArray) (x3a : Option Addr) (x3l : Nat) (x3c : Nat) (g : G) (R : Value → G → Prop) (hF : F10 x0 x1 x2 x3a x3l x3c g R) : CallsG Tryd.prog 10 #[(.agg ⟨[(.int .i64 x0), (.int .i64 x1), (.string x2), (.slice x3a x3l x3c)]⟩)] g nobody R :=
  fn_soundG (c := cfg10) TTok FNSok mixed Tryd.func10 (show Tryd.f10.body = some c10 by kernel_rfl) (show Tryd.f10.ntmps = 11 by kernel_rfl) (show Tryd.f10.results.toList = [.tmp 2] by kernel_rfl) rfl ((F10_eq x0 x1 x2 x3a x3l x3c g R ).mpr hF)

/- 11 pilaster/lambda.Run -/
noncomputable def c11 : Code := match Tryd.f11.body with
  | some c => c
  | none => .skip
noncomputable def cfg11 : Cfg := ⟨Tryd.prog, TT, FNS, [2, 4, 7], [(2, 2), (4, 4), (7, 7)], [], TCH, false, false, none, PNF, false⟩
def an11 : AnnG := (.seq .leaf (.join ⟨[], [(4, 4, 0)], [(4, [(.int .i64), (.int .i64), (.int .i64), (.int .i64), (.int .i64), (.str), (.sl), (.sl), (.sl)])]⟩ (.blk (.seq .leaf (.cond (.seq .leaf .leaf) (.seq .leaf (.cond (.seq .leaf .leaf) .leaf))))) (.seq .leaf (.seq .leaf (.seq (.treeP false [4] 17 (.quiet 0 (.quiet 1 (.quiet 2 (.quiet 3 (.quiet 4 (.quiet 5 (.quiet 6 (.quiet 7 (.quiet 8 (.quiet 9 (.quiet 10 (.quiet 11 (.quiet 12 (.quiet 13 (.quiet 14 (.quiet 15 (.quiet 16 .fin)))))))))))))))))) .leaf)))))
def F11 (x0 : Int) (x1 : Int) (x2 : ByteArray) (x3a : Option Addr) (x3l : Nat) (x3c : Nat) (fuel : Int) (g : G) (R : Value → G → Prop) : Prop :=
  ∀ J : Int → Int → Int → Int → Int → ByteArray → Option Addr → Nat → Nat → Option Addr → Nat → Nat → Option Addr → Nat → Nat → G → Prop,
  (∀ x0_1 : Int, ∀ x1_1 : Int, ∀ x2_1 : Int, ∀ x3 : Int, ∀ x4 : Int, ∀ x5 : ByteArray, ∀ x6a : Option Addr, ∀ x6l : Nat, ∀ x6c : Nat, ∀ x7a : Option Addr, ∀ x7l : Nat, ∀ x7c : Nat, ∀ x8a : Option Addr, ∀ x8l : Nat, ∀ x8c : Nat, ∀ g1 : G, (∀ g2 : G, NewD g1 g2 58 ([(.int .i64 (0 : Int)), (.int .i64 fuel), (.slice none 0 0), (.int .i64 (1 : Int)), (.int .i64 (0 : Int))] : List Value) →
  ∃ M1 : Nat → Prop, (∀ b, b < g.w.heap.size → M1 b → nobody b) ∧ (CallsG Tryd.prog 34 #[(.pointer (some ⟨g1.w.heap.size, 0, none⟩)), (.agg ⟨[(.int .i64 x0), (.int .i64 x1), (.string x2), (.slice x3a x3l x3c)]⟩)] g2 M1 fun v g3 =>
  ∃ x0_2 : Int, ∃ x1_2 : Int, ∃ x2_2 : ByteArray, ∃ x3a_1 : Option Addr, ∃ x3l_1 : Nat, ∃ x3c_1 : Nat, ∃ x4a : Option Addr, ∃ x4l : Nat, ∃ x4c : Nat, v = (.agg ⟨[(.int .i64 x0_2), (.int .i64 x1_2), (.string x2_2), (.slice x3a_1 x3l_1 x3c_1), (.slice x4a x4l x4c)]⟩) ∧ ∀ g4 : G, Ex g3 g4 →
  ¬ g4.X (Addr.block (Addr.add ⟨g1.w.heap.size, 0, none⟩ 3)) ∧ ∃ x : Int, g4.w.cell? (Addr.add ⟨g1.w.heap.size, 0, none⟩ 3) = some (.int .i64 x) ∧ ¬ g4.X (Addr.block (Addr.add ⟨g1.w.heap.size, 0, none⟩ 4)) ∧ ∃ x_1 : Int, g4.w.cell? (Addr.add ⟨g1.w.heap.size, 0, none⟩ 4) = some (.int .i64 x_1) ∧ ¬ g4.X (Addr.block ⟨g1.w.heap.size, 0, none⟩) ∧ ∃ x_2 : Int, g4.w.cell? ⟨g1.w.heap.size, 0, none⟩ = some (.int .i64 x_2) ∧ ¬ g4.X (Addr.block (Addr.add ⟨g1.w.heap.size, 0, none⟩ 2)) ∧ ∃ xa : Option Addr, ∃ xl : Nat, ∃ xc : Nat, g4.w.cell? (Addr.add ⟨g1.w.heap.size, 0, none⟩ 2) = some (.slice xa xl xc) ∧ ∀ g5 : G, Ex g4 g5 →
  R (.tuple ⟨[(.agg ⟨[(.int .i64 x), (.int .i64 x_1), (.int .i64 x_2), (.int .i64 x0_2), (.int .i64 x1_2), (.string x2_2), (.slice x3a_1 x3l_1 x3c_1), (.slice x4a x4l x4c), (.slice xa xl xc)]⟩), (.int .i64 (0 : Int))]⟩) g5)) → J x0_1 x1_1 x2_1 x3 x4 x5 x6a x6l x6c x7a x7l x7c x8a x8l x8c g1) →
  ∀ g6 : G, Ex g g6 →
  (CallsP Tryd.prog 33 #[(.agg ⟨[(.int .i64 x0), (.int .i64 x1), (.string x2), (.slice x3a x3l x3c)]⟩)] g6 fun v g7 =>
  ∃ x_3 : Bool, v = (.bool x_3) ∧ ifB (!x_3)
  (∀ g8 : G, Ex g7 g8 →
  R (.tuple ⟨[(.agg ⟨[(.int .i64 (0 : Int)), (.int .i64 (0 : Int)), (.int .i64 (0 : Int)), (.int .i64 (0 : Int)), (.int .i64 (0 : Int)), (.string (bs [])), (.slice none 0 0), (.slice none 0 0), (.slice none 0 0)]⟩), (.int .i64 (1 : Int))]⟩) g8)
  (ifB (ltI fuel (0 : Int))
  (∀ g9 : G, Ex g7 g9 →
  R (.tuple ⟨[(.agg ⟨[(.int .i64 (0 : Int)), (.int .i64 (0 : Int)), (.int .i64 (0 : Int)), (.int .i64 (0 : Int)), (.int .i64 (0 : Int)), (.string (bs [])), (.slice none 0 0), (.slice none 0 0), (.slice none 0 0)]⟩), (.int .i64 (2 : Int))]⟩) g9)
  (ifB (ltI (1048576 : Int) fuel)
  (∀ g10 : G, Ex g7 g10 →
  R (.tuple ⟨[(.agg ⟨[(.int .i64 (0 : Int)), (.int .i64 (0 : Int)), (.int .i64 (0 : Int)), (.int .i64 (0 : Int)), (.int .i64 (0 : Int)), (.string (bs [])), (.slice none 0 0), (.slice none 0 0), (.slice none 0 0)]⟩), (.int .i64 (2 : Int))]⟩) g10)
  (J (0 : Int) (0 : Int) (0 : Int) (0 : Int) (0 : Int) (bs []) none 0 0 none 0 0 none 0 0 g7))))
theorem F11_eq (x0 : Int) (x1 : Int) (x2 : ByteArray) (x3a : Option Addr) (x3l : Nat) (x3c : Nat) (fuel : Int) (g : G) (R : Value → G → Prop) : fnG cfg11 45 [.cell 4 32, .tmp 5] c11 an11 [(.agg ⟨[(.int .i64 x0), (.int .i64 x1), (.string x2), (.slice x3a x3l x3c)]⟩), (.int .i64 fuel)] g nobody R = F11 x0 x1 x2 x3a x3l x3c fuel g R := by kernel_rfl
theorem call11 (x0 : Int) (x1 : Int) (x2 : ByteArray) (x3a : Option Addr) (x3l : Nat) (x3c : Nat) (fuel : Int) (g : G) (R : Value → G → Prop) (hF : F11 x0 x1 x2 x3a x3l x3c fuel g R) : CallsG Tryd.prog 11 #[(.agg ⟨[(.int .i64 x0), (.int .i64 x1), (.string x2), (.slice x3a x3l x3c)]⟩), (.int .i64 fuel)] g nobody R :=
  fn_soundG (c := cfg11) TTok FNSok mixed Tryd.func11 (show Tryd.f11.body = some c11 by kernel_rfl) (show Tryd.f11.ntmps = 45 by kernel_rfl) (show Tryd.f11.results.toList = [.cell 4 32, .tmp 5] by kernel_rfl) rfl ((F11_eq x0 x1 x2 x3a x3l x3c fuel g R ).mpr hF)

/- 12 pilaster/pilasterref44.Valid -/
noncomputable def c12 : Code := match Tryd.f12.body with
  | some c => c
  | none => .skip
noncomputable def cfg12 : Cfg := ⟨Tryd.prog, TT, FNS, [1], [(1, 1)], [], TCH, false, false, none, PNF, false⟩
def an12 : AnnG := (.seq .leaf (.seq .leaf .leaf))
def F12 (x0 : Int) (x1 : Int) (x2 : ByteArray) (x3a : Option Addr) (x3l : Nat) (x3c : Nat) (g : G) (R : Value → G → Prop) : Prop :=
  ∀ g1 : G, Ex g g1 →
  (CallsP Tryd.prog 35 #[(.agg ⟨[(.int .i64 x0), (.int .i64 x1), (.string x2), (.slice x3a x3l x3c)]⟩), (.int .i64 (20000 : Int)), (.int .i64 (400 : Int))] g1 fun v g2 =>
  ∃ x : Int, v = (.int .i64 x) ∧ ∀ g3 : G, Ex g2 g3 →
  R (.bool (leI (0 : Int) x)) g3)
theorem F12_eq (x0 : Int) (x1 : Int) (x2 : ByteArray) (x3a : Option Addr) (x3l : Nat) (x3c : Nat) (g : G) (R : Value → G → Prop) : fnG cfg12 6 [.tmp 2] c12 an12 [(.agg ⟨[(.int .i64 x0), (.int .i64 x1), (.string x2), (.slice x3a x3l x3c)]⟩)] g nobody R = F12 x0 x1 x2 x3a x3l x3c g R := by kernel_rfl
theorem call12 (x0 : Int) (x1 : Int) (x2 : ByteArray) (x3a : Option Addr) (x3l : Nat) (x3c : Nat) (g : G) (R : Value → G → Prop) (hF : F12 x0 x1 x2 x3a x3l x3c g R) : CallsG Tryd.prog 12 #[(.agg ⟨[(.int .i64 x0), (.int .i64 x1), (.string x2), (.slice x3a x3l x3c)]⟩)] g nobody R :=
  fn_soundG (c := cfg12) TTok FNSok mixed Tryd.func12 (show Tryd.f12.body = some c12 by kernel_rfl) (show Tryd.f12.ntmps = 6 by kernel_rfl) (show Tryd.f12.results.toList = [.tmp 2] by kernel_rfl) rfl ((F12_eq x0 x1 x2 x3a x3l x3c g R ).mpr hF)

/- 13 pilaster/pilasterref44.Free -/
noncomputable def c13 : Code := match Tryd.f13.body with
  | some c => c
  | none => .skip
noncomputable def cfg13 : Cfg := ⟨Tryd.prog, TT, FNS, [1], [(1, 1)], [], TCH, false, false, none, PNF, false⟩
def an13 : AnnG := (.seq .leaf (.seq .leaf .leaf))
def F13 (x0 : Int) (x1 : Int) (x2 : ByteArray) (x3a : Option Addr) (x3l : Nat) (x3c : Nat) (g : G) (R : Value → G → Prop) : Prop :=
  ∀ g1 : G, Ex g g1 →
  (CallsP Tryd.prog 36 #[(.agg ⟨[(.int .i64 x0), (.int .i64 x1), (.string x2), (.slice x3a x3l x3c)]⟩), (.int .i64 (0 : Int)), (.slice none 0 0)] g1 fun v g2 =>
  ∃ xa : Option Addr, ∃ xl : Nat, ∃ xc : Nat, v = (.slice xa xl xc) ∧ ∀ g3 : G, Ex g2 g3 →
  R (.slice xa xl xc) g3)
theorem F13_eq (x0 : Int) (x1 : Int) (x2 : ByteArray) (x3a : Option Addr) (x3l : Nat) (x3c : Nat) (g : G) (R : Value → G → Prop) : fnG cfg13 5 [.tmp 2] c13 an13 [(.agg ⟨[(.int .i64 x0), (.int .i64 x1), (.string x2), (.slice x3a x3l x3c)]⟩)] g nobody R = F13 x0 x1 x2 x3a x3l x3c g R := by kernel_rfl
theorem call13 (x0 : Int) (x1 : Int) (x2 : ByteArray) (x3a : Option Addr) (x3l : Nat) (x3c : Nat) (g : G) (R : Value → G → Prop) (hF : F13 x0 x1 x2 x3a x3l x3c g R) : CallsG Tryd.prog 13 #[(.agg ⟨[(.int .i64 x0), (.int .i64 x1), (.string x2), (.slice x3a x3l x3c)]⟩)] g nobody R :=
  fn_soundG (c := cfg13) TTok FNSok mixed Tryd.func13 (show Tryd.f13.body = some c13 by kernel_rfl) (show Tryd.f13.ntmps = 5 by kernel_rfl) (show Tryd.f13.results.toList = [.tmp 2] by kernel_rfl) rfl ((F13_eq x0 x1 x2 x3a x3l x3c g R ).mpr hF)

/- 14 pilaster/pilasterlaw44.none -/
/- 15 pilaster/pilasterref44.SameOutcome -/
/- 16 pilaster/pilasterref44.Run -/
/- 17 pilaster/pilasterref44.SameTexts -/
noncomputable def c17 : Code := match Tryd.f17.body with
  | some c => c
  | none => .skip
noncomputable def cfg17 : Cfg := ⟨Tryd.prog, TT, FNS, [], [], [], TCH, false, false, none, PNF, false⟩
def an17 : AnnG := (.seq .leaf (.seq (.seq .leaf (.cond (.seq .leaf .leaf) .leaf)) (.seq (.seq .leaf (.blk (.loop ⟨[(5, .int .i64)], [], []⟩ (.seq (.seq .leaf (.cond .leaf .leaf)) (.seq (.blk (.seq (.tree 8 (.quiet 0 (.quiet 1 (.quiet 2 (.quiet 3 (.quiet 4 (.quiet 5 (.quiet 6 (.quiet 7 .fin))))))))) (.cond (.seq .leaf .leaf) .leaf))) .leaf))))) (.seq .leaf .leaf))))
def F17 (aa : Option Addr) (al : Nat) (ac : Nat) (ba : Option Addr) (bl : Nat) (bc : Nat) (g : G) (R : Value → G → Prop) : Prop :=
  ifB (!eqI ((al : Nat) : Int) ((bl : Nat) : Int))
  (∀ g1 : G, Ex g g1 →
  R (.bool false) g1)
  (∃ Inv : Nat → Int → G → Prop, ((∃ m0 : Nat, Inv m0 (0 : Int) g)) ∧
  ∀ m : Nat, ∀ i : Int, ∀ g2 : G, Le g g2 → Inv m i g2 →
  ifB (ltI i ((al : Nat) : Int))
  (∀ g3 : G, Ex g2 g3 →
  (0 ≤ i ∧ i < ((al : Nat) : Int)) ∧ derefP aa fun ad => ∃ x : ByteArray, g3.w.cell? (Addr.add ad (Int.toNat i * 1)) = some (.string x) ∧ (0 ≤ i ∧ i < ((bl : Nat) : Int)) ∧ derefP ba fun ad_1 => ∃ x_1 : ByteArray, g3.w.cell? (Addr.add ad_1 (Int.toNat i * 1)) = some (.string x_1) ∧ ifB (!strEq x x_1)
  (∀ g4 : G, Ex g3 g4 →
  R (.bool false) g4)
  (InI64 (i + (1 : Int)) ∧ (∃ m_1 : Nat, m_1 < m ∧ Inv m_1 (i + (1 : Int)) g3)))
  (∀ g5 : G, Ex g2 g5 →
  R (.bool true) g5))
theorem F17_eq (aa : Option Addr) (al : Nat) (ac : Nat) (ba : Option Addr) (bl : Nat) (bc : Nat) (g : G) (R : Value → G → Prop) : fnG cfg17 26 [.tmp 4] c17 an17 [(.slice aa al ac), (.slice ba bl bc)] g nobody R = F17 aa al ac ba bl bc g R := by kernel_rfl
theorem call17 (aa : Option Addr) (al : Nat) (ac : Nat) (ba : Option Addr) (bl : Nat) (bc : Nat) (g : G) (R : Value → G → Prop) (hF : F17 aa al ac ba bl bc g R) : CallsG Tryd.prog 17 #[(.slice aa al ac), (.slice ba bl bc)] g nobody R :=
  fn_soundG (c := cfg17) TTok FNSok mixed Tryd.func17 (show Tryd.f17.body = some c17 by kernel_rfl) (show Tryd.f17.ntmps = 26 by kernel_rfl) (show Tryd.f17.results.toList = [.tmp 4] by kernel_rfl) rfl ((F17_eq aa al ac ba bl bc g R ).mpr hF)

/- 18 pilaster/pilasterlaw44.u -/
noncomputable def c18 : Code := match Tryd.f18.body with
  | some c => c
  | none => .skip
noncomputable def cfg18 : Cfg := ⟨Tryd.prog, TT, FNS, [6], [(6, 6)], [], TCH, false, false, none, PNF, false⟩
def an18 : AnnG := (.seq .leaf (.seq .leaf .leaf))
def F18 (op : Int) (n : Int) (la : Option Addr) (ll : Nat) (lc : Nat) (g : G) (R : Value → G → Prop) : Prop :=
  ∀ g1 : G, Ex g g1 →
  ∀ g2 : G, Ex g1 g2 →
  R (.agg ⟨[(.int .i64 op), (.int .i64 n), (.string (bs [])), (.slice la ll lc)]⟩) g2
theorem F18_eq (op : Int) (n : Int) (la : Option Addr) (ll : Nat) (lc : Nat) (g : G) (R : Value → G → Prop) : fnG cfg18 11 [.cell 6 24] c18 an18 [(.int .i64 op), (.int .i64 n), (.slice la ll lc)] g nobody R = F18 op n la ll lc g R := by kernel_rfl
theorem call18 (op : Int) (n : Int) (la : Option Addr) (ll : Nat) (lc : Nat) (g : G) (R : Value → G → Prop) (hF : F18 op n la ll lc g R) : CallsG Tryd.prog 18 #[(.int .i64 op), (.int .i64 n), (.slice la ll lc)] g nobody R :=
  fn_soundG (c := cfg18) TTok FNSok mixed Tryd.func18 (show Tryd.f18.body = some c18 by kernel_rfl) (show Tryd.f18.ntmps = 11 by kernel_rfl) (show Tryd.f18.results.toList = [.cell 6 24] by kernel_rfl) rfl ((F18_eq op n la ll lc g R ).mpr hF)

/- 19 pilaster/pilasterref44.SameEnd -/
/- 20 pilaster/pilasterref44.Value -/
noncomputable def c20 : Code := match Tryd.f20.body with
  | some c => c
  | none => .skip
noncomputable def cfg20 : Cfg := ⟨Tryd.prog, TT, FNS, [1], [(1, 1)], [], TCH, false, false, none, PNF, false⟩
def an20 : AnnG := (.seq .leaf (.seq .leaf .leaf))
def F20 (x0 : Int) (x1 : Int) (x2 : ByteArray) (x3a : Option Addr) (x3l : Nat) (x3c : Nat) (g : G) (R : Value → G → Prop) : Prop :=
  ∀ g1 : G, Ex g g1 →
  (CallsP Tryd.prog 12 #[(.agg ⟨[(.int .i64 x0), (.int .i64 x1), (.string x2), (.slice x3a x3l x3c)]⟩)] g1 fun v g2 =>
  ∃ x : Bool, v = (.bool x) ∧ ifB x
  ((CallsP Tryd.prog 13 #[(.agg ⟨[(.int .i64 x0), (.int .i64 x1), (.string x2), (.slice x3a x3l x3c)]⟩)] g2 fun v g3 =>
  ∃ xa : Option Addr, ∃ xl : Nat, ∃ xc : Nat, v = (.slice xa xl xc) ∧ ifB (eqI ((xl : Nat) : Int) (0 : Int))
  ((CallsP Tryd.prog 39 #[(.agg ⟨[(.int .i64 x0), (.int .i64 x1), (.string x2), (.slice x3a x3l x3c)]⟩)] g3 fun v g4 =>
  ∃ x_1 : Bool, v = (.bool x_1) ∧ ∀ g5 : G, Ex g4 g5 →
  R (.bool x_1) g5))
  (∀ g6 : G, Ex g3 g6 →
  R (.bool false) g6)))
  (∀ g7 : G, Ex g2 g7 →
  R (.bool false) g7))
theorem F20_eq (x0 : Int) (x1 : Int) (x2 : ByteArray) (x3a : Option Addr) (x3l : Nat) (x3c : Nat) (g : G) (R : Value → G → Prop) : fnG cfg20 15 [.tmp 2] c20 an20 [(.agg ⟨[(.int .i64 x0), (.int .i64 x1), (.string x2), (.slice x3a x3l x3c)]⟩)] g nobody R = F20 x0 x1 x2 x3a x3l x3c g R := by kernel_rfl
theorem call20 (x0 : Int) (x1 : Int) (x2 : ByteArray) (x3a : Option Addr) (x3l : Nat) (x3c : Nat) (g : G) (R : Value → G → Prop) (hF : F20 x0 x1 x2 x3a x3l x3c g R) : CallsG Tryd.prog 20 #[(.agg ⟨[(.int .i64 x0), (.int .i64 x1), (.string x2), (.slice x3a x3l x3c)]⟩)] g nobody R :=
  fn_soundG (c := cfg20) TTok FNSok mixed Tryd.func20 (show Tryd.f20.body = some c20 by kernel_rfl) (show Tryd.f20.ntmps = 15 by kernel_rfl) (show Tryd.f20.results.toList = [.tmp 2] by kernel_rfl) rfl ((F20_eq x0 x1 x2 x3a x3l x3c g R ).mpr hF)

/- 21 pilaster/pilasterlaw44.LambdaValues$1 -/
noncomputable def c21 : Code := match Tryd.f21.body with
  | some c => c
  | none => .skip
noncomputable def cfg21 : Cfg := ⟨Tryd.prog, TT, FNS, [3, 4, 5, 7], [(3, 3), (4, 4), (5, 5), (7, 7), (8, 3), (10, 3), (13, 3), (18, 5), (21, 5), (24, 5), (27, 5), (28, 3), (35, 5), (42, 5)], [], TCH, false, false, none, PNF, false⟩
def an21 : AnnG := (.seq .leaf (.seq .leaf (.join ⟨[], [(4, 4, 0), (5, 5, 0)], [(4, [(.int .i64), (.int .i64), (.str), (.sl), (.sl)]), (5, [(.int .i64), (.int .i64), (.str), (.sl), (.sl)])]⟩ (.seq .leaf (.blk (.seq .leaf (.cond .leaf (.seq .leaf (.cond .leaf (.seq .leaf (.cond .leaf (.seq .leaf (.cond .leaf (.seq .leaf (.seq .leaf .leaf)))))))))))) (.seq (.seq .leaf (.blk (.loop ⟨[(31, .int .i64)], [(5, 5, 0)], [(5, [(.int .i64), (.int .i64), (.str), (.sl), (.sl)])]⟩ (.seq .leaf (.seq (.cond .leaf .leaf) (.seq (.blk (.seq .leaf (.treeP false [5] 6 (.quiet 0 (.quiet 2 (.quiet 3 (.eff 1 (.eff 4 (.eff 5 .fin .fin) .fin) (.eff 4 (.eff 1 (.eff 5 .fin .fin) (.eff 5 (.eff 1 .fin .fin) .fin)) .fin)))))))) .leaf)))))) (.seq .leaf .leaf)))))
def F21 (x0 : Int) (x1 : Int) (x2 : ByteArray) (x3a : Option Addr) (x3l : Nat) (x3c : Nat) (c0 : Option Addr) (c1 : Option Addr) (g : G) (R : Value → G → Prop) : Prop :=
  ∀ g1 : G, Ex g g1 →
  ∀ J : Int → Int → ByteArray → Option Addr → Nat → Nat → Option Addr → Nat → Nat → Int → Int → ByteArray → Option Addr → Nat → Nat → Option Addr → Nat → Nat → G → Prop,
  (∀ x0_1 : Int, ∀ x1_1 : Int, ∀ x2_1 : ByteArray, ∀ x3a_1 : Option Addr, ∀ x3l_1 : Nat, ∀ x3c_1 : Nat, ∀ x4a : Option Addr, ∀ x4l : Nat, ∀ x4c : Nat, ∀ v0 : Int, ∀ v1 : Int, ∀ v2 : ByteArray, ∀ v3a : Option Addr, ∀ v3l : Nat, ∀ v3c : Nat, ∀ v4a : Option Addr, ∀ v4l : Nat, ∀ v4c : Nat, ∀ g2 : G, (∃ Inv : Nat → Int → Int → Int → ByteArray → Option Addr → Nat → Nat → Option Addr → Nat → Nat → G → Prop, ((∃ m0 : Nat, Inv m0 (0 : Int) v0 v1 v2 v3a v3l v3c v4a v4l v4c g2)) ∧
  ∀ m : Nat, ∀ v_1 : Int, ∀ v0_1 : Int, ∀ v1_1 : Int, ∀ v2_1 : ByteArray, ∀ v3a_1 : Option Addr, ∀ v3l_1 : Nat, ∀ v3c_1 : Nat, ∀ v4a_1 : Option Addr, ∀ v4l_1 : Nat, ∀ v4c_1 : Nat, ∀ g3 : G, Le g2 g3 → Inv m v_1 v0_1 v1_1 v2_1 v3a_1 v3l_1 v3c_1 v4a_1 v4l_1 v4c_1 g3 →
  ifB (ltI v_1 ((x3l : Nat) : Int))
  ((0 ≤ v_1 ∧ v_1 < ((x3l : Nat) : Int)) ∧ derefP x3a fun ad => ∃ x0_2 : Int, ∃ x1_2 : Int, ∃ x2_2 : ByteArray, ∃ x3a_2 : Option Addr, ∃ x3l_2 : Nat, ∃ x3c_2 : Nat, g3.w.cell? (Addr.add ad (Int.toNat v_1 * 4)) = some (.int .i64 x0_2) ∧ g3.w.cell? (Addr.add (Addr.add ad (Int.toNat v_1 * 4)) 1) = some (.int .i64 x1_2) ∧ g3.w.cell? (Addr.add (Addr.add ad (Int.toNat v_1 * 4)) 2) = some (.string x2_2) ∧ g3.w.cell? (Addr.add (Addr.add ad (Int.toNat v_1 * 4)) 3) = some (.slice x3a_2 x3l_2 x3c_2) ∧ ∀ g4 : G, Ex g3 g4 →
  derefP c1 fun ad_1 => ¬ g4.X (Addr.block ad_1) ∧ ∃ xf : FuncId, ∃ xc : Array Value, g4.w.cell? ad_1 = some (.func (.func xf) #[] xc) ∧ (∀ g5 : G, Ex g4 g5 →
  Enters Tryd.prog xf ∧ (CallsP Tryd.prog xf ((⟨[(.agg ⟨[(.int .i64 x0_2), (.int .i64 x1_2), (.string x2_2), (.slice x3a_2 x3l_2 x3c_2)]⟩)]⟩ : Array Value) ++ xc) g5 fun v g6 =>
  ∃ x0_3 : Int, ∃ x1_3 : Int, ∃ x2_3 : ByteArray, ∃ x3a_3 : Option Addr, ∃ x3l_3 : Nat, ∃ x3c_3 : Nat, ∃ x4a_1 : Option Addr, ∃ x4l_1 : Nat, ∃ x4c_1 : Nat, v = (.agg ⟨[(.int .i64 x0_3), (.int .i64 x1_3), (.string x2_3), (.slice x3a_3 x3l_3 x3c_3), (.slice x4a_1 x4l_1 x4c_1)]⟩) ∧ ∀ g7 : G, Ex g6 g7 →
  ∀ g8 : G, NewL g7 g8 30 [(.int .i64 x0_3), (.int .i64 x1_3), (.string x2_3), (.slice x3a_3 x3l_3 x3c_3), (.slice x4a_1 x4l_1 x4c_1)] →
  ∃ xa : Option Addr, ∃ xl : Nat, ∃ xc_1 : Nat, ∃ wo1 : World, Sem.run Tryd.prog (Builtin.append_ #[28, 28] 28 #[(.slice v4a_1 v4l_1 v4c_1), (.slice (some ⟨g7.w.heap.size, 0, none⟩) 1 1)]) g8.w = .ok (.slice xa xl xc_1) wo1 ∧ ∃ g9 : G, g9.w = wo1 ∧ Stp g.w.heap.size nobody g8 g9 ∧ InI64 (v_1 + (1 : Int)) ∧ ∀ g10 : G, Ex g9 g10 →
  (∃ m_1 : Nat, m_1 < m ∧ Inv m_1 (v_1 + (1 : Int)) v0_1 v1_1 v2_1 v3a_1 v3l_1 v3c_1 xa xl xc_1 g10))) ∧ (∀ g11 : G, Ex g4 g11 →
  Enters Tryd.prog xf ∧ (CallsP Tryd.prog xf ((⟨[(.agg ⟨[(.int .i64 x0_2), (.int .i64 x1_2), (.string x2_2), (.slice x3a_2 x3l_2 x3c_2)]⟩)]⟩ : Array Value) ++ xc) g11 fun v g12 =>
  ∃ x0_4 : Int, ∃ x1_4 : Int, ∃ x2_4 : ByteArray, ∃ x3a_4 : Option Addr, ∃ x3l_4 : Nat, ∃ x3c_4 : Nat, ∃ x4a_2 : Option Addr, ∃ x4l_2 : Nat, ∃ x4c_2 : Nat, v = (.agg ⟨[(.int .i64 x0_4), (.int .i64 x1_4), (.string x2_4), (.slice x3a_4 x3l_4 x3c_4), (.slice x4a_2 x4l_2 x4c_2)]⟩) ∧ Rep 1 (∀ g13 : G, Ex g12 g13 →
  ∀ g14 : G, NewL g13 g14 30 [(.int .i64 x0_4), (.int .i64 x1_4), (.string x2_4), (.slice x3a_4 x3l_4 x3c_4), (.slice x4a_2 x4l_2 x4c_2)] →
  ∃ xa_1 : Option Addr, ∃ xl_1 : Nat, ∃ xc_2 : Nat, ∃ wo2 : World, Sem.run Tryd.prog (Builtin.append_ #[28, 28] 28 #[(.slice v4a_1 v4l_1 v4c_1), (.slice (some ⟨g13.w.heap.size, 0, none⟩) 1 1)]) g14.w = .ok (.slice xa_1 xl_1 xc_2) wo2 ∧ ∃ g15 : G, g15.w = wo2 ∧ Stp g.w.heap.size nobody g14 g15 ∧ InI64 (v_1 + (1 : Int)) ∧ ∀ g16 : G, Ex g15 g16 →
  (∃ m_1 : Nat, m_1 < m ∧ Inv m_1 (v_1 + (1 : Int)) v0_1 v1_1 v2_1 v3a_1 v3l_1 v3c_1 xa_1 xl_1 xc_2 g16)))))
  (∀ g21 : G, Ex g3 g21 →
  R (.agg ⟨[(.int .i64 v0_1), (.int .i64 v1_1), (.string v2_1), (.slice v3a_1 v3l_1 v3c_1), (.slice v4a_1 v4l_1 v4c_1)]⟩) g21)) → J x0_1 x1_1 x2_1 x3a_1 x3l_1 x3c_1 x4a x4l x4c v0 v1 v2 v3a v3l v3c v4a v4l v4c g2) →
  ifB (eqI x0 (2 : Int))
  (∀ g22 : G, Ex g1 g22 →
  J (0 : Int) (0 : Int) (bs []) none 0 0 none 0 0 (1 : Int) x1 x2 none 0 0 none 0 0 g22)
  (ifB (eqI x0 (3 : Int))
  (∀ g23 : G, Ex g1 g23 →
  J (0 : Int) (0 : Int) (bs []) none 0 0 none 0 0 (2 : Int) x1 x2 none 0 0 none 0 0 g23)
  (ifB (eqI x0 (6 : Int))
  (∀ g24 : G, Ex g1 g24 →
  J (0 : Int) (0 : Int) (bs []) none 0 0 none 0 0 (3 : Int) x1 x2 none 0 0 none 0 0 g24)
  (ifB (eqI x0 (8 : Int))
  (∀ g25 : G, Ex g1 g25 →
  J (0 : Int) (0 : Int) (bs []) none 0 0 none 0 0 (4 : Int) x1 x2 none 0 0 none 0 0 g25)
  (∀ g26 : G, Ex g1 g26 →
  derefP c0 fun ad_2 => stOk g26.w ad_2 1 ∧ ¬ g26.X (Addr.block ad_2) ∧ mutAt g26 ad_2 1 ∧ ((Addr.block ad_2) < g.w.heap.size → nobody (Addr.block ad_2)) ∧ ∀ g27 : G, StG false g26 ad_2 [(.bool true)] g27 →
  ∀ g28 : G, Ex g27 g28 →
  R (.agg ⟨[(.int .i64 (0 : Int)), (.int .i64 x1), (.string x2), (.slice none 0 0), (.slice none 0 0)]⟩) g28))))
theorem F21_eq (x0 : Int) (x1 : Int) (x2 : ByteArray) (x3a : Option Addr) (x3l : Nat) (x3c : Nat) (c0 : Option Addr) (c1 : Option Addr) (g : G) (R : Value → G → Prop) : fnG cfg21 45 [.cell 4 30] c21 an21 [(.agg ⟨[(.int .i64 x0), (.int .i64 x1), (.string x2), (.slice x3a x3l x3c)]⟩), (.pointer c0), (.pointer c1)] g nobody R = F21 x0 x1 x2 x3a x3l x3c c0 c1 g R := by kernel_rfl
theorem call21 (x0 : Int) (x1 : Int) (x2 : ByteArray) (x3a : Option Addr) (x3l : Nat) (x3c : Nat) (c0 : Option Addr) (c1 : Option Addr) (g : G) (R : Value → G → Prop) (hF : F21 x0 x1 x2 x3a x3l x3c c0 c1 g R) : CallsG Tryd.prog 21 #[(.agg ⟨[(.int .i64 x0), (.int .i64 x1), (.string x2), (.slice x3a x3l x3c)]⟩), (.pointer c0), (.pointer c1)] g nobody R :=
  fn_soundG (c := cfg21) TTok FNSok mixed Tryd.func21 (show Tryd.f21.body = some c21 by kernel_rfl) (show Tryd.f21.ntmps = 45 by kernel_rfl) (show Tryd.f21.results.toList = [.cell 4 30] by kernel_rfl) rfl ((F21_eq x0 x1 x2 x3a x3l x3c c0 c1 g R ).mpr hF)

/- 22 pilaster/pilasterref44.SameValue -/
noncomputable def c22 : Code := match Tryd.f22.body with
  | some c => c
  | none => .skip
noncomputable def cfg22 : Cfg := ⟨Tryd.prog, TT, FNS, [2, 3], [(2, 2), (3, 3), (7, 2), (9, 3), (13, 2), (15, 3), (20, 2), (22, 3), (27, 2), (30, 3), (36, 2), (39, 3), (45, 2), (51, 2), (56, 3), (63, 2), (69, 2), (74, 3)], [], TCH, false, false, none, PNF, false⟩
def an22 : AnnG := (.seq .leaf (.join ⟨[], [], []⟩ (.seq .leaf (.cond (.seq .leaf .leaf) .leaf)) (.seq (.seq .leaf (.blk (.loop ⟨[(5, .int .i64)], [], []⟩ (.seq (.seq .leaf (.cond .leaf .leaf)) (.seq (.blk (.seq (.tree 10 (.quiet 0 (.quiet 1 (.quiet 2 (.quiet 3 (.quiet 4 (.quiet 5 (.quiet 6 (.quiet 7 (.quiet 8 (.quiet 9 .fin))))))))))) (.cond (.seq .leaf .leaf) .leaf))) .leaf))))) (.seq (.seq .leaf (.blk (.loop ⟨[(6, .int .i64)], [], []⟩ (.seq (.seq .leaf (.cond .leaf .leaf)) (.seq (.blk (.seq (.tree 10 (.quiet 0 (.quiet 1 (.quiet 2 (.quiet 3 (.quiet 4 (.quiet 5 (.quiet 6 (.quiet 7 (.quiet 8 (.quiet 9 .fin))))))))))) (.cond (.seq .leaf .leaf) .leaf))) .leaf))))) (.seq .leaf .leaf)))))
def F22 (a0 : Int) (a1 : Int) (a2 : ByteArray) (a3a : Option Addr) (a3l : Nat) (a3c : Nat) (a4a : Option Addr) (a4l : Nat) (a4c : Nat) (b0 : Int) (b1 : Int) (b2 : ByteArray) (b3a : Option Addr) (b3l : Nat) (b3c : Nat) (b4a : Option Addr) (b4l : Nat) (b4c : Nat) (g : G) (R : Value → G → Prop) : Prop :=
  ∀ J : G → Prop,
  (∀ g1 : G, (∃ Inv : Nat → Int → G → Prop, ((∃ m0 : Nat, Inv m0 (0 : Int) g1)) ∧
  ∀ m : Nat, ∀ i : Int, ∀ g2 : G, Le g1 g2 → Inv m i g2 →
  ifB (ltI i ((a3l : Nat) : Int))
  (∀ g3 : G, Ex g2 g3 →
  (0 ≤ i ∧ i < ((a3l : Nat) : Int)) ∧ derefP a3a fun ad => ∃ x : ByteArray, g3.w.cell? (Addr.add ad (Int.toNat i * 1)) = some (.string x) ∧ (0 ≤ i ∧ i < ((b3l : Nat) : Int)) ∧ derefP b3a fun ad_1 => ∃ x_1 : ByteArray, g3.w.cell? (Addr.add ad_1 (Int.toNat i * 1)) = some (.string x_1) ∧ ifB (!strEq x x_1)
  (∀ g4 : G, Ex g3 g4 →
  R (.bool false) g4)
  (InI64 (i + (1 : Int)) ∧ (∃ m_1 : Nat, m_1 < m ∧ Inv m_1 (i + (1 : Int)) g3)))
  (∃ Inv_1 : Nat → Int → G → Prop, ((∃ m0 : Nat, Inv_1 m0 (0 : Int) g2)) ∧
  ∀ m_2 : Nat, ∀ i_1 : Int, ∀ g5 : G, Le g2 g5 → Inv_1 m_2 i_1 g5 →
  ifB (ltI i_1 ((a4l : Nat) : Int))
  (∀ g6 : G, Ex g5 g6 →
  (0 ≤ i_1 ∧ i_1 < ((a4l : Nat) : Int)) ∧ derefP a4a fun ad_2 => ∃ x0 : Int, ∃ x1 : Int, ∃ x2 : ByteArray, ∃ x3a : Option Addr, ∃ x3l : Nat, ∃ x3c : Nat, ∃ x4a : Option Addr, ∃ x4l : Nat, ∃ x4c : Nat, g6.w.cell? (Addr.add ad_2 (Int.toNat i_1 * 5)) = some (.int .i64 x0) ∧ g6.w.cell? (Addr.add (Addr.add ad_2 (Int.toNat i_1 * 5)) 1) = some (.int .i64 x1) ∧ g6.w.cell? (Addr.add (Addr.add ad_2 (Int.toNat i_1 * 5)) 2) = some (.string x2) ∧ g6.w.cell? (Addr.add (Addr.add ad_2 (Int.toNat i_1 * 5)) 3) = some (.slice x3a x3l x3c) ∧ g6.w.cell? (Addr.add (Addr.add ad_2 (Int.toNat i_1 * 5)) 4) = some (.slice x4a x4l x4c) ∧ (0 ≤ i_1 ∧ i_1 < ((b4l : Nat) : Int)) ∧ derefP b4a fun ad_3 => ∃ x0_1 : Int, ∃ x1_1 : Int, ∃ x2_1 : ByteArray, ∃ x3a_1 : Option Addr, ∃ x3l_1 : Nat, ∃ x3c_1 : Nat, ∃ x4a_1 : Option Addr, ∃ x4l_1 : Nat, ∃ x4c_1 : Nat, g6.w.cell? (Addr.add ad_3 (Int.toNat i_1 * 5)) = some (.int .i64 x0_1) ∧ g6.w.cell? (Addr.add (Addr.add ad_3 (Int.toNat i_1 * 5)) 1) = some (.int .i64 x1_1) ∧ g6.w.cell? (Addr.add (Addr.add ad_3 (Int.toNat i_1 * 5)) 2) = some (.string x2_1) ∧ g6.w.cell? (Addr.add (Addr.add ad_3 (Int.toNat i_1 * 5)) 3) = some (.slice x3a_1 x3l_1 x3c_1) ∧ g6.w.cell? (Addr.add (Addr.add ad_3 (Int.toNat i_1 * 5)) 4) = some (.slice x4a_1 x4l_1 x4c_1) ∧ (CallsP Tryd.prog 22 #[(.agg ⟨[(.int .i64 x0), (.int .i64 x1), (.string x2), (.slice x3a x3l x3c), (.slice x4a x4l x4c)]⟩), (.agg ⟨[(.int .i64 x0_1), (.int .i64 x1_1), (.string x2_1), (.slice x3a_1 x3l_1 x3c_1), (.slice x4a_1 x4l_1 x4c_1)]⟩)] g6 fun v g7 =>
  ∃ x_2 : Bool, v = (.bool x_2) ∧ ifB (!x_2)
  (∀ g8 : G, Ex g7 g8 →
  R (.bool false) g8)
  (InI64 (i_1 + (1 : Int)) ∧ (∃ m_3 : Nat, m_3 < m_2 ∧ Inv_1 m_3 (i_1 + (1 : Int)) g7))))
  (∀ g9 : G, Ex g5 g9 →
  R (.bool true) g9))) → J g1) →
  ifB (!eqI a0 b0)
  (∀ g10 : G, Ex g g10 →
  R (.bool false) g10)
  (ifB (!eqI a1 b1)
  (∀ g11 : G, Ex g g11 →
  R (.bool false) g11)
  (ifB (!strEq a2 b2)
  (∀ g12 : G, Ex g g12 →
  R (.bool false) g12)
  (ifB (!eqI ((a4l : Nat) : Int) ((b4l : Nat) : Int))
  (∀ g13 : G, Ex g g13 →
  R (.bool false) g13)
  (ifB (!eqI ((a3l : Nat) : Int) ((b3l : Nat) : Int))
  (∀ g14 : G, Ex g g14 →
  R (.bool false) g14)
  (∀ g15 : G, Ex g g15 →
  J g15)))))
theorem F22_eq (a0 : Int) (a1 : Int) (a2 : ByteArray) (a3a : Option Addr) (a3l : Nat) (a3c : Nat) (a4a : Option Addr) (a4l : Nat) (a4c : Nat) (b0 : Int) (b1 : Int) (b2 : ByteArray) (b3a : Option Addr) (b3l : Nat) (b3c : Nat) (b4a : Option Addr) (b4l : Nat) (b4c : Nat) (g : G) (R : Value → G → Prop) : fnG cfg22 81 [.tmp 4] c22 an22 [(.agg ⟨[(.int .i64 a0), (.int .i64 a1), (.string a2), (.slice a3a a3l a3c), (.slice a4a a4l a4c)]⟩), (.agg ⟨[(.int .i64 b0), (.int .i64 b1), (.string b2), (.slice b3a b3l b3c), (.slice b4a b4l b4c)]⟩)] g nobody R = F22 a0 a1 a2 a3a a3l a3c a4a a4l a4c b0 b1 b2 b3a b3l b3c b4a b4l b4c g R := by kernel_rfl
theorem call22 (a0 : Int) (a1 : Int) (a2 : ByteArray) (a3a : Option Addr) (a3l : Nat) (a3c : Nat) (a4a : Option Addr) (a4l : Nat) (a4c : Nat) (b0 : Int) (b1 : Int) (b2 : ByteArray) (b3a : Option Addr) (b3l : Nat) (b3c : Nat) (b4a : Option Addr) (b4l : Nat) (b4c : Nat) (g : G) (R : Value → G → Prop) (hF : F22 a0 a1 a2 a3a a3l a3c a4a a4l a4c b0 b1 b2 b3a b3l b3c b4a b4l b4c g R) : CallsG Tryd.prog 22 #[(.agg ⟨[(.int .i64 a0), (.int .i64 a1), (.string a2), (.slice a3a a3l a3c), (.slice a4a a4l a4c)]⟩), (.agg ⟨[(.int .i64 b0), (.int .i64 b1), (.string b2), (.slice b3a b3l b3c), (.slice b4a b4l b4c)]⟩)] g nobody R :=
  fn_soundG (c := cfg22) TTok FNSok mixed Tryd.func22 (show Tryd.f22.body = some c22 by kernel_rfl) (show Tryd.f22.ntmps = 81 by kernel_rfl) (show Tryd.f22.results.toList = [.tmp 4] by kernel_rfl) rfl ((F22_eq a0 a1 a2 a3a a3l a3c a4a a4l a4c b0 b1 b2 b3a b3l b3c b4a b4l b4c g R ).mpr hF)

/- 23 pilaster/lambda.Size -/
noncomputable def c23 : Code := match Tryd.f23.body with
  | some c => c
  | none => .skip
noncomputable def cfg23 : Cfg := ⟨Tryd.prog, TT, FNS, [1], [(1, 1)], [], TCH, false, false, none, PNF, false⟩
def an23 : AnnG := (.seq .leaf (.seq .leaf (.seq (.seq .leaf (.cond (.seq .leaf .leaf) .leaf)) (.seq .leaf .leaf))))
def F23 (x0 : Int) (x1 : Int) (x2 : ByteArray) (x3a : Option Addr) (x3l : Nat) (x3c : Nat) (g : G) (R : Value → G → Prop) : Prop :=
  ∀ g1 : G, Ex g g1 →
  (CallsP Tryd.prog 40 #[(.agg ⟨[(.int .i64 x0), (.int .i64 x1), (.string x2), (.slice x3a x3l x3c)]⟩), (.int .i64 (20000 : Int)), (.int .i64 (1 : Int))] g1 fun v g2 =>
  ∃ x0_1 : Int, ∃ x1_1 : Bool, v = (.tuple ⟨[(.int .i64 x0_1), (.bool x1_1)]⟩) ∧ ifB (!x1_1)
  (∀ g3 : G, Ex g2 g3 →
  R (.int .i64 (0 : Int)) g3)
  (∀ g4 : G, Ex g2 g4 →
  R (.int .i64 x0_1) g4))
theorem F23_eq (x0 : Int) (x1 : Int) (x2 : ByteArray) (x3a : Option Addr) (x3l : Nat) (x3c : Nat) (g : G) (R : Value → G → Prop) : fnG cfg23 13 [.tmp 2] c23 an23 [(.agg ⟨[(.int .i64 x0), (.int .i64 x1), (.string x2), (.slice x3a x3l x3c)]⟩)] g nobody R = F23 x0 x1 x2 x3a x3l x3c g R := by kernel_rfl
theorem call23 (x0 : Int) (x1 : Int) (x2 : ByteArray) (x3a : Option Addr) (x3l : Nat) (x3c : Nat) (g : G) (R : Value → G → Prop) (hF : F23 x0 x1 x2 x3a x3l x3c g R) : CallsG Tryd.prog 23 #[(.agg ⟨[(.int .i64 x0), (.int .i64 x1), (.string x2), (.slice x3a x3l x3c)]⟩)] g nobody R :=
  fn_soundG (c := cfg23) TTok FNSok mixed Tryd.func23 (show Tryd.f23.body = some c23 by kernel_rfl) (show Tryd.f23.ntmps = 13 by kernel_rfl) (show Tryd.f23.results.toList = [.tmp 2] by kernel_rfl) rfl ((F23_eq x0 x1 x2 x3a x3l x3c g R ).mpr hF)

/- 24 pilaster/lambda.Free -/
noncomputable def c24 : Code := match Tryd.f24.body with
  | some c => c
  | none => .skip
noncomputable def cfg24 : Cfg := ⟨Tryd.prog, TT, FNS, [1], [(1, 1), (1000015, 72)], [], TCH, false, false, none, PNF, false⟩
def an24 : AnnG := (.seq .leaf (.seq (.seq .leaf (.cond (.seq .leaf .leaf) .leaf)) (.seq .leaf (.seq .leaf (.seq .leaf (.seq (.seq .leaf (.blk (.loop ⟨[(5, .sl)], [], []⟩ (.seq .leaf (.seq (.cond .leaf .leaf) (.blk (.seq .leaf .leaf))))))) (.seq .leaf (.seq .leaf .leaf))))))))
def F24 (x0 : Int) (x1 : Int) (x2 : ByteArray) (x3a : Option Addr) (x3l : Nat) (x3c : Nat) (g : G) (R : Value → G → Prop) : Prop :=
  ∀ g1 : G, Ex g g1 →
  (CallsP Tryd.prog 27 #[(.agg ⟨[(.int .i64 x0), (.int .i64 x1), (.string x2), (.slice x3a x3l x3c)]⟩)] g1 fun v g2 =>
  ∃ x : Bool, v = (.bool x) ∧ ifB (!x)
  (∀ g3 : G, Ex g2 g3 →
  R (.tuple ⟨[(.slice none 0 0), (.int .i64 (1 : Int))]⟩) g3)
  (∀ g4 : G, NewM g2 g4 →
  (CallsP Tryd.prog 41 #[(.map (some g2.w.heap.size)), (.agg ⟨[(.int .i64 x0), (.int .i64 x1), (.string x2), (.slice x3a x3l x3c)]⟩), (.int .i64 (0 : Int))] g4 fun v g5 =>
  v = (.tuple ⟨[]⟩) ∧ ∃ x_1 : Option Addr, ∃ wo1 : World, Sem.run Tryd.prog (Instr.range 72 (.map (some g2.w.heap.size))) g5.w = .ok (.pointer x_1) wo1 ∧ ∃ g6 : G, g6.w = wo1 ∧ Stp g.w.heap.size nobody g5 g6 ∧ ∃ Inv : Nat → Option Addr → Nat → Nat → G → Prop, ((∃ m0 : Nat, Inv m0 none 0 0 g6)) ∧
  ∀ m : Nat, ∀ outa : Option Addr, ∀ outl : Nat, ∀ outc : Nat, ∀ g7 : G, Le g6 g7 → Inv m outa outl outc g7 →
  (∃ wo2 : World, Sem.run Tryd.prog (Instr.next (.pointer x_1) false 0) g7.w = .ok (.tuple ⟨[(.bool false)]⟩) wo2 ∧ ∃ g8 : G, g8.w = wo2 ∧ Stp g.w.heap.size nobody g7 g8 ∧ (CallsP Tryd.prog 42 #[(.slice outa outl outc)] g8 fun v g9 =>
  v = (.tuple ⟨[]⟩) ∧ ∀ g10 : G, Ex g9 g10 →
  R (.tuple ⟨[(.slice outa outl outc), (.int .i64 (0 : Int))]⟩) g10)) ∨
  (∃ x0_1 : Bool, ∃ x1_1 : Int, ∃ x2_1 : Bool, ∃ wo3 : World, Sem.run Tryd.prog (Instr.next (.pointer x_1) false 0) g7.w = .ok (.tuple ⟨[(.bool x0_1), (.int .i64 x1_1), (.bool x2_1)]⟩) wo3 ∧ ∃ g11 : G, g11.w = wo3 ∧ Stp g.w.heap.size nobody g7 g11 ∧ ifB x0_1
  (∃ x0_2 : Int, ∃ x1_2 : Bool, ∃ wo4 : World, Sem.run Tryd.prog (Instr.entry (.pointer x_1)) g11.w = .ok (.tuple ⟨[(.int .i64 x0_2), (.bool x1_2)]⟩) wo4 ∧ ∃ g12 : G, g12.w = wo4 ∧ Stp g.w.heap.size nobody g11 g12 ∧ ∀ g13 : G, NewL g12 g13 3 [(.int .i64 x0_2)] →
  ∃ outa_1 : Option Addr, ∃ outl_1 : Nat, ∃ outc_1 : Nat, ∃ wo5 : World, Sem.run Tryd.prog (Builtin.append_ #[36, 36] 36 #[(.slice outa outl outc), (.slice (some ⟨g12.w.heap.size, 0, none⟩) 1 1)]) g13.w = .ok (.slice outa_1 outl_1 outc_1) wo5 ∧ ∃ g14 : G, g14.w = wo5 ∧ Stp g.w.heap.size nobody g13 g14 ∧ (∃ m_1 : Nat, m_1 < m ∧ Inv m_1 outa_1 outl_1 outc_1 g14))
  ((CallsP Tryd.prog 42 #[(.slice outa outl outc)] g11 fun v g15 =>
  v = (.tuple ⟨[]⟩) ∧ ∀ g16 : G, Ex g15 g16 →
  R (.tuple ⟨[(.slice outa outl outc), (.int .i64 (0 : Int))]⟩) g16))))))
theorem F24_eq (x0 : Int) (x1 : Int) (x2 : ByteArray) (x3a : Option Addr) (x3l : Nat) (x3c : Nat) (g : G) (R : Value → G → Prop) : fnG cfg24 27 [.tmp 2, .tmp 3] c24 an24 [(.agg ⟨[(.int .i64 x0), (.int .i64 x1), (.string x2), (.slice x3a x3l x3c)]⟩)] g nobody R = F24 x0 x1 x2 x3a x3l x3c g R := by kernel_rfl
theorem call24 (x0 : Int) (x1 : Int) (x2 : ByteArray) (x3a : Option Addr) (x3l : Nat) (x3c : Nat) (g : G) (R : Value → G → Prop) (hF : F24 x0 x1 x2 x3a x3l x3c g R) : CallsG Tryd.prog 24 #[(.agg ⟨[(.int .i64 x0), (.int .i64 x1), (.string x2), (.slice x3a x3l x3c)]⟩)] g nobody R :=
  fn_soundG (c := cfg24) TTok FNSok mixed Tryd.func24 (show Tryd.f24.body = some c24 by kernel_rfl) (show Tryd.f24.ntmps = 27 by kernel_rfl) (show Tryd.f24.results.toList = [.tmp 2, .tmp 3] by kernel_rfl) rfl ((F24_eq x0 x1 x2 x3a x3l x3c g R ).mpr hF)

/- 25 slices.IsSorted[[]int,int] -/
noncomputable def c25 : Code := match Tryd.f25.body with
  | some c => c
  | none => .skip
noncomputable def cfg25 : Cfg := ⟨Tryd.prog, TT, FNS, [], [], [], TCH, false, false, none, PNF, false⟩
def an25 : AnnG := (.seq .leaf (.seq (.seq .leaf (.blk (.loop ⟨[(3, .int .i64)], [], []⟩ (.seq (.seq .leaf (.cond .leaf .leaf)) (.seq (.blk (.seq (.tree 9 (.quiet 0 (.quiet 1 (.quiet 2 (.quiet 3 (.quiet 4 (.quiet 5 (.quiet 6 (.quiet 7 (.quiet 8 .fin)))))))))) (.cond (.seq .leaf .leaf) .leaf))) .leaf))))) (.seq .leaf .leaf)))
def F25 (xa : Option Addr) (xl : Nat) (xc : Nat) (g : G) (R : Value → G → Prop) : Prop :=
  InI64 (((xl : Nat) : Int) - (1 : Int)) ∧ ∃ Inv : Nat → Int → G → Prop, ((∃ m0 : Nat, Inv m0 (((xl : Nat) : Int) - (1 : Int)) g)) ∧
  ∀ m : Nat, ∀ i : Int, ∀ g1 : G, Le g g1 → Inv m i g1 →
  ifB (ltI (0 : Int) i)
  (∀ g2 : G, Ex g1 g2 →
  (0 ≤ i ∧ i < ((xl : Nat) : Int)) ∧ derefP xa fun ad => ∃ x : Int, g2.w.cell? (Addr.add ad (Int.toNat i * 1)) = some (.int .i64 x) ∧ InI64 (i - (1 : Int)) ∧ (0 ≤ (i - (1 : Int)) ∧ (i - (1 : Int)) < ((xl : Nat) : Int)) ∧ derefP xa fun ad_1 => ∃ x_1 : Int, g2.w.cell? (Addr.add ad_1 (Int.toNat (i - (1 : Int)) * 1)) = some (.int .i64 x_1) ∧ (CallsP Tryd.prog 43 #[(.int .i64 x), (.int .i64 x_1)] g2 fun v g3 =>
  ∃ x_2 : Bool, v = (.bool x_2) ∧ ifB x_2
  (∀ g4 : G, Ex g3 g4 →
  R (.bool false) g4)
  (InI64 (i - (1 : Int)) ∧ (∃ m_1 : Nat, m_1 < m ∧ Inv m_1 (i - (1 : Int)) g3))))
  (∀ g5 : G, Ex g1 g5 →
  R (.bool true) g5)
theorem F25_eq (xa : Option Addr) (xl : Nat) (xc : Nat) (g : G) (R : Value → G → Prop) : fnG cfg25 21 [.tmp 2] c25 an25 [(.slice xa xl xc)] g nobody R = F25 xa xl xc g R := by kernel_rfl
theorem call25 (xa : Option Addr) (xl : Nat) (xc : Nat) (g : G) (R : Value → G → Prop) (hF : F25 xa xl xc g R) : CallsG Tryd.prog 25 #[(.slice xa xl xc)] g nobody R :=
  fn_soundG (c := cfg25) TTok FNSok mixed Tryd.func25 (show Tryd.f25.body = some c25 by kernel_rfl) (show Tryd.f25.ntmps = 21 by kernel_rfl) (show Tryd.f25.results.toList = [.tmp 2] by kernel_rfl) rfl ((F25_eq xa xl xc g R ).mpr hF)

/- 26 slices.Equal[[]int,int] -/
/- 27 pilaster/lambda.Valid -/
noncomputable def c27 : Code := match Tryd.f27.body with
  | some c => c
  | none => .skip
noncomputable def cfg27 : Cfg := ⟨Tryd.prog, TT, FNS, [1], [(1, 1)], [], TCH, false, false, none, PNF, false⟩
def an27 : AnnG := (.seq .leaf (.seq .leaf (.seq .leaf .leaf)))
def F27 (x0 : Int) (x1 : Int) (x2 : ByteArray) (x3a : Option Addr) (x3l : Nat) (x3c : Nat) (g : G) (R : Value → G → Prop) : Prop :=
  ∀ g1 : G, Ex g g1 →
  (CallsP Tryd.prog 40 #[(.agg ⟨[(.int .i64 x0), (.int .i64 x1), (.string x2), (.slice x3a x3l x3c)]⟩), (.int .i64 (20000 : Int)), (.int .i64 (1 : Int))] g1 fun v g2 =>
  ∃ x0_1 : Int, ∃ x1_1 : Bool, v = (.tuple ⟨[(.int .i64 x0_1), (.bool x1_1)]⟩) ∧ ∀ g3 : G, Ex g2 g3 →
  R (.bool x1_1) g3)
theorem F27_eq (x0 : Int) (x1 : Int) (x2 : ByteArray) (x3a : Option Addr) (x3l : Nat) (x3c : Nat) (g : G) (R : Value → G → Prop) : fnG cfg27 11 [.tmp 2] c27 an27 [(.agg ⟨[(.int .i64 x0), (.int .i64 x1), (.string x2), (.slice x3a x3l x3c)]⟩)] g nobody R = F27 x0 x1 x2 x3a x3l x3c g R := by kernel_rfl
theorem call27 (x0 : Int) (x1 : Int) (x2 : ByteArray) (x3a : Option Addr) (x3l : Nat) (x3c : Nat) (g : G) (R : Value → G → Prop) (hF : F27 x0 x1 x2 x3a x3l x3c g R) : CallsG Tryd.prog 27 #[(.agg ⟨[(.int .i64 x0), (.int .i64 x1), (.string x2), (.slice x3a x3l x3c)]⟩)] g nobody R :=
  fn_soundG (c := cfg27) TTok FNSok mixed Tryd.func27 (show Tryd.f27.body = some c27 by kernel_rfl) (show Tryd.f27.ntmps = 11 by kernel_rfl) (show Tryd.f27.results.toList = [.tmp 2] by kernel_rfl) rfl ((F27_eq x0 x1 x2 x3a x3l x3c g R ).mpr hF)

/- 28 pilaster/lambda.Equal -/
/- 29 pilaster/pilasterref44.Same -/
/- 30 pilaster/lambda.Value -/
/- 31 pilaster/pilasterref44.Size -/
/- 32 pilaster/pilasterlaw44.big$1 -/
noncomputable def c32 : Code := match Tryd.f32.body with
  | some c => c
  | none => .skip
noncomputable def cfg32 : Cfg := ⟨Tryd.prog, TT, FNS, [4], [(4, 4), (12, 4), (18, 4), (23, 4), (30, 4), (36, 4), (47, 4)], [], TCH, false, false, none, PNF, false⟩
def an32 : AnnG := (.seq .leaf (.seq .leaf (.join ⟨[], [], []⟩ (.seq .leaf (.cond .leaf .leaf)) (.seq .leaf (.blk (.loop ⟨[(6, .int .i64)], [], []⟩ (.join ⟨[], [], []⟩ (.seq .leaf (.cond .leaf .leaf)) (.seq (.blk (.tree 8 (.quiet 0 (.quiet 1 (.quiet 2 (.quiet 3 (.quiet 4 (.quiet 5 (.quiet 6 (.quiet 7 .fin)))))))))) .leaf))))))))
def F32 (x0 : Int) (x1 : Int) (x2 : ByteArray) (x3a : Option Addr) (x3l : Nat) (x3c : Nat) (depth : Int) (c0 : Option Addr) (c1 : Option Addr) (g : G) (R : Value → G → Prop) : Prop :=
  ∀ g1 : G, Ex g g1 →
  derefP c0 fun ad => ∃ x : Int, g1.w.cell? ad = some (.int .i64 x) ∧ InI64 (x + (1 : Int)) ∧ derefP c0 fun ad_1 => stOk g1.w ad_1 1 ∧ ¬ g1.X (Addr.block ad_1) ∧ mutAt g1 ad_1 1 ∧ ((Addr.block ad_1) < g.w.heap.size → nobody (Addr.block ad_1)) ∧ ∀ g2 : G, StG false g1 ad_1 [(.int .i64 (x + (1 : Int)))] g2 →
  ∀ J : G → Prop,
  (∀ g3 : G, (∃ Inv : Nat → Int → G → Prop, ((∃ m0 : Nat, Inv m0 (0 : Int) g3)) ∧
  ∀ m : Nat, ∀ i : Int, ∀ g4 : G, Le g3 g4 → Inv m i g4 →
  ∀ J_1 : G → Prop,
  (∀ g5 : G, (∀ g6 : G, Ex g5 g6 →
  derefP c1 fun ad_2 => ∃ xf : FuncId, ∃ xc : Array Value, g6.w.cell? ad_2 = some (.func (.func xf) #[] xc) ∧ (0 ≤ i ∧ i < ((x3l : Nat) : Int)) ∧ derefP x3a fun ad_3 => ∃ x0_1 : Int, ∃ x1_1 : Int, ∃ x2_1 : ByteArray, ∃ x3a_1 : Option Addr, ∃ x3l_1 : Nat, ∃ x3c_1 : Nat, g6.w.cell? (Addr.add ad_3 (Int.toNat i * 4)) = some (.int .i64 x0_1) ∧ g6.w.cell? (Addr.add (Addr.add ad_3 (Int.toNat i * 4)) 1) = some (.int .i64 x1_1) ∧ g6.w.cell? (Addr.add (Addr.add ad_3 (Int.toNat i * 4)) 2) = some (.string x2_1) ∧ g6.w.cell? (Addr.add (Addr.add ad_3 (Int.toNat i * 4)) 3) = some (.slice x3a_1 x3l_1 x3c_1) ∧ InI64 (depth + (1 : Int)) ∧ Enters Tryd.prog xf ∧ (CallsP Tryd.prog xf ((⟨[(.agg ⟨[(.int .i64 x0_1), (.int .i64 x1_1), (.string x2_1), (.slice x3a_1 x3l_1 x3c_1)]⟩), (.int .i64 (depth + (1 : Int)))]⟩ : Array Value) ++ xc) g6 fun v g7 =>
  v = (.tuple ⟨[]⟩) ∧ InI64 (i + (1 : Int)) ∧ (∃ m_1 : Nat, m_1 < m ∧ Inv m_1 (i + (1 : Int)) g7))) → J_1 g5) →
  ifB (ltI i ((x3l : Nat) : Int))
  (derefP c0 fun ad_4 => ∃ x_1 : Int, g4.w.cell? ad_4 = some (.int .i64 x_1) ∧ ifB (leI x_1 (200 : Int))
  (J_1 g4)
  (∀ g8 : G, Ex g4 g8 →
  R (.tuple ⟨[]⟩) g8))
  (∀ g9 : G, Ex g4 g9 →
  R (.tuple ⟨[]⟩) g9)) → J g3) →
  ifB (ltI (60 : Int) depth)
  (derefP c0 fun ad_5 => stOk g2.w ad_5 1 ∧ ¬ g2.X (Addr.block ad_5) ∧ mutAt g2 ad_5 1 ∧ ((Addr.block ad_5) < g.w.heap.size → nobody (Addr.block ad_5)) ∧ ∀ g10 : G, StG false g2 ad_5 [(.int .i64 (1000 : Int))] g10 →
  J g10)
  (ifB (ltI (50 : Int) ((x3l : Nat) : Int))
  (derefP c0 fun ad_6 => stOk g2.w ad_6 1 ∧ ¬ g2.X (Addr.block ad_6) ∧ mutAt g2 ad_6 1 ∧ ((Addr.block ad_6) < g.w.heap.size → nobody (Addr.block ad_6)) ∧ ∀ g11 : G, StG false g2 ad_6 [(.int .i64 (1000 : Int))] g11 →
  J g11)
  (ifB (ltI (1000 : Int) ((x2.size : Nat) : Int))
  (ifB (leI ((x2.size : Nat) : Int) (16384 : Int))
  (derefP c0 fun ad_7 => stOk g2.w ad_7 1 ∧ ¬ g2.X (Addr.block ad_7) ∧ mutAt g2 ad_7 1 ∧ ((Addr.block ad_7) < g.w.heap.size → nobody (Addr.block ad_7)) ∧ ∀ g12 : G, StG false g2 ad_7 [(.int .i64 (1000 : Int))] g12 →
  J g12)
  (ifB (ltI (20000 : Int) ((x2.size : Nat) : Int))
  (derefP c0 fun ad_8 => stOk g2.w ad_8 1 ∧ ¬ g2.X (Addr.block ad_8) ∧ mutAt g2 ad_8 1 ∧ ((Addr.block ad_8) < g.w.heap.size → nobody (Addr.block ad_8)) ∧ ∀ g13 : G, StG false g2 ad_8 [(.int .i64 (1000 : Int))] g13 →
  J g13)
  (J g2)))
  (ifB (ltI (20000 : Int) ((x2.size : Nat) : Int))
  (derefP c0 fun ad_9 => stOk g2.w ad_9 1 ∧ ¬ g2.X (Addr.block ad_9) ∧ mutAt g2 ad_9 1 ∧ ((Addr.block ad_9) < g.w.heap.size → nobody (Addr.block ad_9)) ∧ ∀ g14 : G, StG false g2 ad_9 [(.int .i64 (1000 : Int))] g14 →
  J g14)
  (J g2))))
theorem F32_eq (x0 : Int) (x1 : Int) (x2 : ByteArray) (x3a : Option Addr) (x3l : Nat) (x3c : Nat) (depth : Int) (c0 : Option Addr) (c1 : Option Addr) (g : G) (R : Value → G → Prop) : fnG cfg32 55 [] c32 an32 [(.agg ⟨[(.int .i64 x0), (.int .i64 x1), (.string x2), (.slice x3a x3l x3c)]⟩), (.int .i64 depth), (.pointer c0), (.pointer c1)] g nobody R = F32 x0 x1 x2 x3a x3l x3c depth c0 c1 g R := by kernel_rfl
theorem call32 (x0 : Int) (x1 : Int) (x2 : ByteArray) (x3a : Option Addr) (x3l : Nat) (x3c : Nat) (depth : Int) (c0 : Option Addr) (c1 : Option Addr) (g : G) (R : Value → G → Prop) (hF : F32 x0 x1 x2 x3a x3l x3c depth c0 c1 g R) : CallsG Tryd.prog 32 #[(.agg ⟨[(.int .i64 x0), (.int .i64 x1), (.string x2), (.slice x3a x3l x3c)]⟩), (.int .i64 depth), (.pointer c0), (.pointer c1)] g nobody R :=
  fn_soundG (c := cfg32) TTok FNSok mixed Tryd.func32 (show Tryd.f32.body = some c32 by kernel_rfl) (show Tryd.f32.ntmps = 55 by kernel_rfl) (show Tryd.f32.results.toList = [] by kernel_rfl) rfl ((F32_eq x0 x1 x2 x3a x3l x3c depth c0 c1 g R ).mpr hF)

/- 33 pilaster/lambda.closed -/
noncomputable def c33 : Code := match Tryd.f33.body with
  | some c => c
  | none => .skip
noncomputable def cfg33 : Cfg := ⟨Tryd.prog, TT, FNS, [1], [(1, 1)], [], TCH, false, false, none, PNF, false⟩
def an33 : AnnG := (.seq .leaf (.seq .leaf (.seq .leaf .leaf)))
def F33 (x0 : Int) (x1 : Int) (x2 : ByteArray) (x3a : Option Addr) (x3l : Nat) (x3c : Nat) (g : G) (R : Value → G → Prop) : Prop :=
  ∀ g1 : G, Ex g g1 →
  (CallsP Tryd.prog 24 #[(.agg ⟨[(.int .i64 x0), (.int .i64 x1), (.string x2), (.slice x3a x3l x3c)]⟩)] g1 fun v g2 =>
  ∃ x0a : Option Addr, ∃ x0l : Nat, ∃ x0c : Nat, ∃ x1_1 : Int, v = (.tuple ⟨[(.slice x0a x0l x0c), (.int .i64 x1_1)]⟩) ∧ ifB (eqI x1_1 (0 : Int))
  (∀ g3 : G, Ex g2 g3 →
  R (.bool (eqI ((x0l : Nat) : Int) (0 : Int))) g3)
  (∀ g4 : G, Ex g2 g4 →
  R (.bool false) g4))
theorem F33_eq (x0 : Int) (x1 : Int) (x2 : ByteArray) (x3a : Option Addr) (x3l : Nat) (x3c : Nat) (g : G) (R : Value → G → Prop) : fnG cfg33 17 [.tmp 2] c33 an33 [(.agg ⟨[(.int .i64 x0), (.int .i64 x1), (.string x2), (.slice x3a x3l x3c)]⟩)] g nobody R = F33 x0 x1 x2 x3a x3l x3c g R := by kernel_rfl
theorem call33 (x0 : Int) (x1 : Int) (x2 : ByteArray) (x3a : Option Addr) (x3l : Nat) (x3c : Nat) (g : G) (R : Value → G → Prop) (hF : F33 x0 x1 x2 x3a x3l x3c g R) : CallsG Tryd.prog 33 #[(.agg ⟨[(.int .i64 x0), (.int .i64 x1), (.string x2), (.slice x3a x3l x3c)]⟩)] g nobody R :=
  fn_soundG (c := cfg33) TTok FNSok mixed Tryd.func33 (show Tryd.f33.body = some c33 by kernel_rfl) (show Tryd.f33.ntmps = 17 by kernel_rfl) (show Tryd.f33.results.toList = [.tmp 2] by kernel_rfl) rfl ((F33_eq x0 x1 x2 x3a x3l x3c g R ).mpr hF)

/- 35 pilaster/pilasterref44.count -/
noncomputable def c35 : Code := match Tryd.f35.body with
  | some c => c
  | none => .skip
noncomputable def cfg35 : Cfg := ⟨Tryd.prog, TT, FNS, [3], [(3, 3), (22, 3), (32, 3)], [], TCH, false, false, none, PNF, false⟩
def an35 : AnnG := (.seq .leaf (.join ⟨[], [], []⟩ (.seq .leaf (.cond (.seq .leaf .leaf) .leaf)) (.seq .leaf (.seq (.seq .leaf (.blk (.loop ⟨[(1, .int .i64), (7, .int .i64)], [], []⟩ (.join ⟨[], [], []⟩ (.seq .leaf (.cond .leaf .leaf)) (.seq (.blk .leaf) .leaf))))) (.seq .leaf .leaf)))))
def F35 (x0 : Int) (x1 : Int) (x2 : ByteArray) (x3a : Option Addr) (x3l : Nat) (x3c : Nat) (left : Int) (depth : Int) (g : G) (R : Value → G → Prop) : Prop :=
  ∀ J : G → Prop,
  (∀ g1 : G, (InI64 (left - (1 : Int)) ∧ ∃ Inv : Nat → Int → Int → G → Prop, ((∃ m0 : Nat, Inv m0 (left - (1 : Int)) (0 : Int) g1)) ∧
  ∀ m : Nat, ∀ left_1 : Int, ∀ i : Int, ∀ g2 : G, Le g1 g2 → Inv m left_1 i g2 →
  ∀ J_1 : G → Prop,
  (∀ g3 : G, ((0 ≤ i ∧ i < ((x3l : Nat) : Int)) ∧ derefP x3a fun ad => ∃ x0_1 : Int, ∃ x1_1 : Int, ∃ x2_1 : ByteArray, ∃ x3a_1 : Option Addr, ∃ x3l_1 : Nat, ∃ x3c_1 : Nat, g3.w.cell? (Addr.add ad (Int.toNat i * 4)) = some (.int .i64 x0_1) ∧ g3.w.cell? (Addr.add (Addr.add ad (Int.toNat i * 4)) 1) = some (.int .i64 x1_1) ∧ g3.w.cell? (Addr.add (Addr.add ad (Int.toNat i * 4)) 2) = some (.string x2_1) ∧ g3.w.cell? (Addr.add (Addr.add ad (Int.toNat i * 4)) 3) = some (.slice x3a_1 x3l_1 x3c_1) ∧ InI64 (depth - (1 : Int)) ∧ (CallsP Tryd.prog 35 #[(.agg ⟨[(.int .i64 x0_1), (.int .i64 x1_1), (.string x2_1), (.slice x3a_1 x3l_1 x3c_1)]⟩), (.int .i64 left_1), (.int .i64 (depth - (1 : Int)))] g3 fun v g4 =>
  ∃ left_2 : Int, v = (.int .i64 left_2) ∧ InI64 (i + (1 : Int)) ∧ (∃ m_1 : Nat, m_1 < m ∧ Inv m_1 left_2 (i + (1 : Int)) g4))) → J_1 g3) →
  ifB (ltI i ((x3l : Nat) : Int))
  (ifB (leI (0 : Int) left_1)
  (J_1 g2)
  (∀ g5 : G, Ex g2 g5 →
  R (.int .i64 left_1) g5))
  (∀ g6 : G, Ex g2 g6 →
  R (.int .i64 left_1) g6)) → J g1) →
  ifB (ltI left (1 : Int))
  (∀ g7 : G, Ex g g7 →
  R (.int .i64 (-1 : Int)) g7)
  (ifB (ltI depth (1 : Int))
  (∀ g8 : G, Ex g g8 →
  R (.int .i64 (-1 : Int)) g8)
  (∀ g9 : G, Ex g g9 →
  (CallsP Tryd.prog 49 #[(.agg ⟨[(.int .i64 x0), (.int .i64 x1), (.string x2), (.slice x3a x3l x3c)]⟩)] g9 fun v g10 =>
  ∃ x : Bool, v = (.bool x) ∧ ifB (!x)
  (∀ g11 : G, Ex g10 g11 →
  R (.int .i64 (-1 : Int)) g11)
  (J g10))))
theorem F35_eq (x0 : Int) (x1 : Int) (x2 : ByteArray) (x3a : Option Addr) (x3l : Nat) (x3c : Nat) (left : Int) (depth : Int) (g : G) (R : Value → G → Prop) : fnG cfg35 42 [.tmp 6] c35 an35 [(.agg ⟨[(.int .i64 x0), (.int .i64 x1), (.string x2), (.slice x3a x3l x3c)]⟩), (.int .i64 left), (.int .i64 depth)] g nobody R = F35 x0 x1 x2 x3a x3l x3c left depth g R := by kernel_rfl
theorem call35 (x0 : Int) (x1 : Int) (x2 : ByteArray) (x3a : Option Addr) (x3l : Nat) (x3c : Nat) (left : Int) (depth : Int) (g : G) (R : Value → G → Prop) (hF : F35 x0 x1 x2 x3a x3l x3c left depth g R) : CallsG Tryd.prog 35 #[(.agg ⟨[(.int .i64 x0), (.int .i64 x1), (.string x2), (.slice x3a x3l x3c)]⟩), (.int .i64 left), (.int .i64 depth)] g nobody R :=
  fn_soundG (c := cfg35) TTok FNSok mixed Tryd.func35 (show Tryd.f35.body = some c35 by kernel_rfl) (show Tryd.f35.ntmps = 42 by kernel_rfl) (show Tryd.f35.results.toList = [.tmp 6] by kernel_rfl) rfl ((F35_eq x0 x1 x2 x3a x3l x3c left depth g R ).mpr hF)

/- 36 pilaster/pilasterref44.free -/
noncomputable def c36 : Code := match Tryd.f36.body with
  | some c => c
  | none => .skip
noncomputable def cfg36 : Cfg := ⟨Tryd.prog, TT, FNS, [3], [(3, 3), (8, 3), (12, 3), (18, 3), (24, 3), (30, 3)], [], TCH, false, false, none, PNF, false⟩
def an36 : AnnG := (.seq .leaf (.seq (.join ⟨[(16, .bool)], [], []⟩ .leaf (.cond (.seq .leaf .leaf) .leaf)) (.seq (.seq .leaf (.blk (.loop ⟨[(2, .sl), (7, .int .i64)], [], []⟩ (.seq (.seq .leaf (.cond .leaf .leaf)) (.seq (.blk (.tree 11 (.quiet 0 (.quiet 1 (.quiet 2 (.quiet 3 (.quiet 4 (.quiet 5 (.quiet 6 (.quiet 7 (.quiet 10 (.eff 8 (.quiet 9 .fin) .fin)))))))))))) .leaf))))) (.seq .leaf .leaf))))
def F36 (x0 : Int) (x1 : Int) (x2 : ByteArray) (x3a : Option Addr) (x3l : Nat) (x3c : Nat) (under : Int) (la : Option Addr) (ll : Nat) (lc : Nat) (g : G) (R : Value → G → Prop) : Prop :=
  ∀ J : Bool → G → Prop,
  (∀ v_1 : Bool, ∀ g1 : G, (ifB v_1
  (InI64 (x1 - under) ∧ (CallsP Tryd.prog 50 #[(.slice la ll lc), (.int .i64 (x1 - under))] g1 fun v g2 =>
  ∃ xa : Option Addr, ∃ xl : Nat, ∃ xc : Nat, v = (.slice xa xl xc) ∧ ∀ g3 : G, Ex g2 g3 →
  R (.slice xa xl xc) g3))
  (∃ Inv : Nat → Option Addr → Nat → Nat → Int → G → Prop, ((∃ m0 : Nat, Inv m0 la ll lc (0 : Int) g1)) ∧
  ∀ m : Nat, ∀ la_1 : Option Addr, ∀ ll_1 : Nat, ∀ lc_1 : Nat, ∀ i : Int, ∀ g4 : G, Le g1 g4 → Inv m la_1 ll_1 lc_1 i g4 →
  ifB (ltI i ((x3l : Nat) : Int))
  (∀ g5 : G, Ex g4 g5 →
  (0 ≤ i ∧ i < ((x3l : Nat) : Int)) ∧ derefP x3a fun ad => ∃ x0_1 : Int, ∃ x1_1 : Int, ∃ x2_1 : ByteArray, ∃ x3a_1 : Option Addr, ∃ x3l_1 : Nat, ∃ x3c_1 : Nat, g5.w.cell? (Addr.add ad (Int.toNat i * 4)) = some (.int .i64 x0_1) ∧ g5.w.cell? (Addr.add (Addr.add ad (Int.toNat i * 4)) 1) = some (.int .i64 x1_1) ∧ g5.w.cell? (Addr.add (Addr.add ad (Int.toNat i * 4)) 2) = some (.string x2_1) ∧ g5.w.cell? (Addr.add (Addr.add ad (Int.toNat i * 4)) 3) = some (.slice x3a_1 x3l_1 x3c_1) ∧ (CallsP Tryd.prog 51 #[(.agg ⟨[(.int .i64 x0), (.int .i64 x1), (.string x2), (.slice x3a x3l x3c)]⟩), (.int .i64 i)] g5 fun v g6 =>
  ∃ x : Int, v = (.int .i64 x) ∧ InI64 (under + x) ∧ (CallsP Tryd.prog 36 #[(.agg ⟨[(.int .i64 x0_1), (.int .i64 x1_1), (.string x2_1), (.slice x3a_1 x3l_1 x3c_1)]⟩), (.int .i64 (under + x)), (.slice la_1 ll_1 lc_1)] g6 fun v g7 =>
  ∃ la_2 : Option Addr, ∃ ll_2 : Nat, ∃ lc_2 : Nat, v = (.slice la_2 ll_2 lc_2) ∧ InI64 (i + (1 : Int)) ∧ (∃ m_1 : Nat, m_1 < m ∧ Inv m_1 la_2 ll_2 lc_2 (i + (1 : Int)) g7))))
  (∀ g8 : G, Ex g4 g8 →
  R (.slice la_1 ll_1 lc_1) g8))) → J v_1 g1) →
  ifB (eqI x0 (1 : Int))
  (∀ g9 : G, Ex g g9 →
  J (leI under x1) g9)
  (∀ g10 : G, Ex g g10 →
  J false g10)
theorem F36_eq (x0 : Int) (x1 : Int) (x2 : ByteArray) (x3a : Option Addr) (x3l : Nat) (x3c : Nat) (under : Int) (la : Option Addr) (ll : Nat) (lc : Nat) (g : G) (R : Value → G → Prop) : fnG cfg36 43 [.tmp 6] c36 an36 [(.agg ⟨[(.int .i64 x0), (.int .i64 x1), (.string x2), (.slice x3a x3l x3c)]⟩), (.int .i64 under), (.slice la ll lc)] g nobody R = F36 x0 x1 x2 x3a x3l x3c under la ll lc g R := by kernel_rfl
theorem call36 (x0 : Int) (x1 : Int) (x2 : ByteArray) (x3a : Option Addr) (x3l : Nat) (x3c : Nat) (under : Int) (la : Option Addr) (ll : Nat) (lc : Nat) (g : G) (R : Value → G → Prop) (hF : F36 x0 x1 x2 x3a x3l x3c under la ll lc g R) : CallsG Tryd.prog 36 #[(.agg ⟨[(.int .i64 x0), (.int .i64 x1), (.string x2), (.slice x3a x3l x3c)]⟩), (.int .i64 under), (.slice la ll lc)] g nobody R :=
  fn_soundG (c := cfg36) TTok FNSok mixed Tryd.func36 (show Tryd.f36.body = some c36 by kernel_rfl) (show Tryd.f36.ntmps = 43 by kernel_rfl) (show Tryd.f36.results.toList = [.tmp 6] by kernel_rfl) rfl ((F36_eq x0 x1 x2 x3a x3l x3c under la ll lc g R ).mpr hF)

/- 37 pilaster/pilasterref44.run -/
/- 38 pilaster/pilasterref44.observe -/
/- 39 pilaster/pilasterref44.form -/
noncomputable def c39 : Code := match Tryd.f39.body with
  | some c => c
  | none => .skip
noncomputable def cfg39 : Cfg := ⟨Tryd.prog, TT, FNS, [1], [(1, 1), (4, 1), (15, 1), (21, 1)], [], TCH, false, false, none, PNF, false⟩
def an39 : AnnG := (.seq .leaf (.seq (.seq .leaf (.blk (.join ⟨[(6, .bool)], [], []⟩ (.seq .leaf (.cond .leaf (.seq .leaf (.cond .leaf (.seq .leaf (.cond .leaf .leaf)))))) (.cond (.seq .leaf .leaf) (.join ⟨[(11, .bool)], [], []⟩ (.seq .leaf (.cond .leaf .leaf)) (.cond (.seq (.seq .leaf (.blk (.loop ⟨[(3, .int .i64)], [], []⟩ (.seq (.seq .leaf (.cond .leaf .leaf)) (.seq (.blk (.seq .leaf (.cond (.seq .leaf .leaf) .leaf))) .leaf))))) (.seq .leaf .leaf)) .leaf)))))) (.seq .leaf .leaf)))
def F39 (x0 : Int) (x1 : Int) (x2 : ByteArray) (x3a : Option Addr) (x3l : Nat) (x3c : Nat) (g : G) (R : Value → G → Prop) : Prop :=
  ∀ J : Bool → G → Prop,
  (∀ v_1 : Bool, ∀ g1 : G, (ifB v_1
  (∀ g2 : G, Ex g1 g2 →
  R (.bool true) g2)
  (∀ J_1 : Bool → G → Prop,
  (∀ v_2 : Bool, ∀ g3 : G, (ifB v_2
  (∃ Inv : Nat → Int → G → Prop, ((∃ m0 : Nat, Inv m0 (0 : Int) g3)) ∧
  ∀ m : Nat, ∀ i : Int, ∀ g4 : G, Le g3 g4 → Inv m i g4 →
  ifB (ltI i ((x3l : Nat) : Int))
  ((0 ≤ i ∧ i < ((x3l : Nat) : Int)) ∧ derefP x3a fun ad => ∃ x0_1 : Int, ∃ x1_1 : Int, ∃ x2_1 : ByteArray, ∃ x3a_1 : Option Addr, ∃ x3l_1 : Nat, ∃ x3c_1 : Nat, g4.w.cell? (Addr.add ad (Int.toNat i * 4)) = some (.int .i64 x0_1) ∧ g4.w.cell? (Addr.add (Addr.add ad (Int.toNat i * 4)) 1) = some (.int .i64 x1_1) ∧ g4.w.cell? (Addr.add (Addr.add ad (Int.toNat i * 4)) 2) = some (.string x2_1) ∧ g4.w.cell? (Addr.add (Addr.add ad (Int.toNat i * 4)) 3) = some (.slice x3a_1 x3l_1 x3c_1) ∧ (CallsP Tryd.prog 39 #[(.agg ⟨[(.int .i64 x0_1), (.int .i64 x1_1), (.string x2_1), (.slice x3a_1 x3l_1 x3c_1)]⟩)] g4 fun v g5 =>
  ∃ x : Bool, v = (.bool x) ∧ ifB (!x)
  (∀ g6 : G, Ex g5 g6 →
  R (.bool false) g6)
  (InI64 (i + (1 : Int)) ∧ (∃ m_1 : Nat, m_1 < m ∧ Inv m_1 (i + (1 : Int)) g5))))
  (∀ g7 : G, Ex g4 g7 →
  R (.bool true) g7))
  (∀ g8 : G, Ex g3 g8 →
  R (.bool false) g8)) → J_1 v_2 g3) →
  ifB (eqI x0 (6 : Int))
  (J_1 true g1)
  (J_1 (eqI x0 (8 : Int)) g1))) → J v_1 g1) →
  ifB (eqI x0 (2 : Int))
  (∀ g9 : G, Ex g g9 →
  J true g9)
  (ifB (eqI x0 (3 : Int))
  (∀ g10 : G, Ex g g10 →
  J true g10)
  (ifB (eqI x0 (4 : Int))
  (∀ g11 : G, Ex g g11 →
  J true g11)
  (∀ g12 : G, Ex g g12 →
  J (eqI x0 (10 : Int)) g12)))
theorem F39_eq (x0 : Int) (x1 : Int) (x2 : ByteArray) (x3a : Option Addr) (x3l : Nat) (x3c : Nat) (g : G) (R : Value → G → Prop) : fnG cfg39 28 [.tmp 2] c39 an39 [(.agg ⟨[(.int .i64 x0), (.int .i64 x1), (.string x2), (.slice x3a x3l x3c)]⟩)] g nobody R = F39 x0 x1 x2 x3a x3l x3c g R := by kernel_rfl
theorem call39 (x0 : Int) (x1 : Int) (x2 : ByteArray) (x3a : Option Addr) (x3l : Nat) (x3c : Nat) (g : G) (R : Value → G → Prop) (hF : F39 x0 x1 x2 x3a x3l x3c g R) : CallsG Tryd.prog 39 #[(.agg ⟨[(.int .i64 x0), (.int .i64 x1), (.string x2), (.slice x3a x3l x3c)]⟩)] g nobody R :=
  fn_soundG (c := cfg39) TTok FNSok mixed Tryd.func39 (show Tryd.f39.body = some c39 by kernel_rfl) (show Tryd.f39.ntmps = 28 by kernel_rfl) (show Tryd.f39.results.toList = [.tmp 2] by kernel_rfl) rfl ((F39_eq x0 x1 x2 x3a x3l x3c g R ).mpr hF)

/- 40 pilaster/lambda.measure -/
noncomputable def c40 : Code := match Tryd.f40.body with
  | some c => c
  | none => .skip
noncomputable def cfg40 : Cfg := ⟨Tryd.prog, TT, FNS, [3, 10], [(3, 3), (10, 10), (24, 3)], [], TCH, false, false, none, PNF, false⟩
def an40 : AnnG := (.seq .leaf (.join ⟨[], [], []⟩ (.seq .leaf (.cond (.seq .leaf .leaf) .leaf)) (.seq .leaf (.seq (.seq .leaf (.blk (.loop ⟨[(8, .int .i64), (27, .int .i64)], [], []⟩ (.seq .leaf (.seq (.cond .leaf .leaf) (.seq (.blk (.seq .leaf (.seq .leaf (.seq (.seq .leaf (.cond (.seq .leaf .leaf) .leaf)) .leaf)))) .leaf)))))) (.seq .leaf .leaf)))))
def F40 (x0 : Int) (x1 : Int) (x2 : ByteArray) (x3a : Option Addr) (x3l : Nat) (x3c : Nat) (left : Int) (depth : Int) (g : G) (R : Value → G → Prop) : Prop :=
  ∀ J : G → Prop,
  (∀ g1 : G, (∃ Inv : Nat → Int → Int → G → Prop, ((∃ m0 : Nat, Inv m0 (1 : Int) (0 : Int) g1)) ∧
  ∀ m : Nat, ∀ n : Int, ∀ v_1 : Int, ∀ g2 : G, Le g1 g2 → Inv m n v_1 g2 →
  ifB (ltI v_1 ((x3l : Nat) : Int))
  ((0 ≤ v_1 ∧ v_1 < ((x3l : Nat) : Int)) ∧ derefP x3a fun ad => ∃ x0_1 : Int, ∃ x1_1 : Int, ∃ x2_1 : ByteArray, ∃ x3a_1 : Option Addr, ∃ x3l_1 : Nat, ∃ x3c_1 : Nat, g2.w.cell? (Addr.add ad (Int.toNat v_1 * 4)) = some (.int .i64 x0_1) ∧ g2.w.cell? (Addr.add (Addr.add ad (Int.toNat v_1 * 4)) 1) = some (.int .i64 x1_1) ∧ g2.w.cell? (Addr.add (Addr.add ad (Int.toNat v_1 * 4)) 2) = some (.string x2_1) ∧ g2.w.cell? (Addr.add (Addr.add ad (Int.toNat v_1 * 4)) 3) = some (.slice x3a_1 x3l_1 x3c_1) ∧ InI64 (left - n) ∧ InI64 (depth + (1 : Int)) ∧ ∀ g3 : G, Ex g2 g3 →
  (CallsP Tryd.prog 40 #[(.agg ⟨[(.int .i64 x0_1), (.int .i64 x1_1), (.string x2_1), (.slice x3a_1 x3l_1 x3c_1)]⟩), (.int .i64 (left - n)), (.int .i64 (depth + (1 : Int)))] g3 fun v g4 =>
  ∃ x0_2 : Int, ∃ x1_2 : Bool, v = (.tuple ⟨[(.int .i64 x0_2), (.bool x1_2)]⟩) ∧ ifB (!x1_2)
  (∀ g5 : G, Ex g4 g5 →
  R (.tuple ⟨[(.int .i64 (0 : Int)), (.bool false)]⟩) g5)
  (InI64 (n + x0_2) ∧ InI64 (v_1 + (1 : Int)) ∧ (∃ m_1 : Nat, m_1 < m ∧ Inv m_1 (n + x0_2) (v_1 + (1 : Int)) g4))))
  (∀ g6 : G, Ex g2 g6 →
  R (.tuple ⟨[(.int .i64 n), (.bool true)]⟩) g6)) → J g1) →
  ifB (leI left (0 : Int))
  (∀ g7 : G, Ex g g7 →
  R (.tuple ⟨[(.int .i64 (0 : Int)), (.bool false)]⟩) g7)
  (ifB (ltI (400 : Int) depth)
  (∀ g8 : G, Ex g g8 →
  R (.tuple ⟨[(.int .i64 (0 : Int)), (.bool false)]⟩) g8)
  (∀ g9 : G, Ex g g9 →
  (CallsP Tryd.prog 56 #[(.agg ⟨[(.int .i64 x0), (.int .i64 x1), (.string x2), (.slice x3a x3l x3c)]⟩)] g9 fun v g10 =>
  ∃ x : Bool, v = (.bool x) ∧ ifB (!x)
  (∀ g11 : G, Ex g10 g11 →
  R (.tuple ⟨[(.int .i64 (0 : Int)), (.bool false)]⟩) g11)
  (J g10))))
theorem F40_eq (x0 : Int) (x1 : Int) (x2 : ByteArray) (x3a : Option Addr) (x3l : Nat) (x3c : Nat) (left : Int) (depth : Int) (g : G) (R : Value → G → Prop) : fnG cfg40 48 [.tmp 6, .tmp 7] c40 an40 [(.agg ⟨[(.int .i64 x0), (.int .i64 x1), (.string x2), (.slice x3a x3l x3c)]⟩), (.int .i64 left), (.int .i64 depth)] g nobody R = F40 x0 x1 x2 x3a x3l x3c left depth g R := by kernel_rfl
theorem call40 (x0 : Int) (x1 : Int) (x2 : ByteArray) (x3a : Option Addr) (x3l : Nat) (x3c : Nat) (left : Int) (depth : Int) (g : G) (R : Value → G → Prop) (hF : F40 x0 x1 x2 x3a x3l x3c left depth g R) : CallsG Tryd.prog 40 #[(.agg ⟨[(.int .i64 x0), (.int .i64 x1), (.string x2), (.slice x3a x3l x3c)]⟩), (.int .i64 left), (.int .i64 depth)] g nobody R :=
  fn_soundG (c := cfg40) TTok FNSok mixed Tryd.func40 (show Tryd.f40.body = some c40 by kernel_rfl) (show Tryd.f40.ntmps = 48 by kernel_rfl) (show Tryd.f40.results.toList = [.tmp 6, .tmp 7] by kernel_rfl) rfl ((F40_eq x0 x1 x2 x3a x3l x3c left depth g R ).mpr hF)

/- 41 pilaster/lambda.collect -/
noncomputable def c41 : Code := match Tryd.f41.body with
  | some c => c
  | none => .skip
noncomputable def cfg41 : Cfg := ⟨Tryd.prog, TT, FNS, [4, 7], [(4, 4), (7, 7), (9, 4), (13, 4), (19, 4), (23, 4)], [], TCH, false, false, none, PNF, false⟩
def an41 : AnnG := (.seq .leaf (.join ⟨[], [], []⟩ (.seq .leaf (.cond .leaf .leaf)) (.seq .leaf (.blk (.loop ⟨[(26, .int .i64)], [], []⟩ (.seq .leaf (.seq (.cond .leaf .leaf) (.seq (.blk (.seq .leaf (.seq .leaf (.seq (.seq .leaf (.cond .leaf .leaf)) .leaf)))) .leaf))))))))
def F41 (m : Option Nat) (x0 : Int) (x1 : Int) (x2 : ByteArray) (x3a : Option Addr) (x3l : Nat) (x3c : Nat) (depth : Int) (g : G) (R : Value → G → Prop) : Prop :=
  ∀ J : G → Prop,
  (∀ g1 : G, (∃ Inv : Nat → Int → G → Prop, ((∃ m0 : Nat, Inv m0 (0 : Int) g1)) ∧
  ∀ m_1 : Nat, ∀ v_1 : Int, ∀ g2 : G, Le g1 g2 → Inv m_1 v_1 g2 →
  ifB (ltI v_1 ((x3l : Nat) : Int))
  ((0 ≤ v_1 ∧ v_1 < ((x3l : Nat) : Int)) ∧ derefP x3a fun ad => ∃ x0_1 : Int, ∃ x1_1 : Int, ∃ x2_1 : ByteArray, ∃ x3a_1 : Option Addr, ∃ x3l_1 : Nat, ∃ x3c_1 : Nat, g2.w.cell? (Addr.add ad (Int.toNat v_1 * 4)) = some (.int .i64 x0_1) ∧ g2.w.cell? (Addr.add (Addr.add ad (Int.toNat v_1 * 4)) 1) = some (.int .i64 x1_1) ∧ g2.w.cell? (Addr.add (Addr.add ad (Int.toNat v_1 * 4)) 2) = some (.string x2_1) ∧ g2.w.cell? (Addr.add (Addr.add ad (Int.toNat v_1 * 4)) 3) = some (.slice x3a_1 x3l_1 x3c_1) ∧ ∀ g3 : G, Ex g2 g3 →
  (CallsP Tryd.prog 57 #[(.agg ⟨[(.int .i64 x0), (.int .i64 x1), (.string x2), (.slice x3a x3l x3c)]⟩), (.int .i64 v_1)] g3 fun v g4 =>
  ∃ x : Bool, v = (.bool x) ∧ ifB x
  (InI64 (depth + (1 : Int)) ∧ (CallsP Tryd.prog 41 #[(.map m), (.agg ⟨[(.int .i64 x0_1), (.int .i64 x1_1), (.string x2_1), (.slice x3a_1 x3l_1 x3c_1)]⟩), (.int .i64 (depth + (1 : Int)))] g4 fun v g5 =>
  v = (.tuple ⟨[]⟩) ∧ InI64 (v_1 + (1 : Int)) ∧ (∃ m_2 : Nat, m_2 < m_1 ∧ Inv m_2 (v_1 + (1 : Int)) g5)))
  ((CallsP Tryd.prog 41 #[(.map m), (.agg ⟨[(.int .i64 x0_1), (.int .i64 x1_1), (.string x2_1), (.slice x3a_1 x3l_1 x3c_1)]⟩), (.int .i64 depth)] g4 fun v g6 =>
  v = (.tuple ⟨[]⟩) ∧ InI64 (v_1 + (1 : Int)) ∧ (∃ m_2 : Nat, m_2 < m_1 ∧ Inv m_2 (v_1 + (1 : Int)) g6)))))
  (∀ g7 : G, Ex g2 g7 →
  R (.tuple ⟨[]⟩) g7)) → J g1) →
  ifB (eqI x0 (1 : Int))
  (ifB (leI depth x1)
  (InI64 (x1 - depth) ∧ ∀ g8 : G, Ex g g8 →
  ∃ wo1 : World, Sem.run Tryd.prog (Instr.mapUpdate 72 (.map m) (.int .i64 (x1 - depth)) (.bool true)) g8.w = .ok () wo1 ∧ ∃ g9 : G, g9.w = wo1 ∧ Stp g.w.heap.size nobody g8 g9 ∧ J g9)
  (∀ g10 : G, Ex g g10 →
  J g10))
  (∀ g11 : G, Ex g g11 →
  J g11)
theorem F41_eq (m : Option Nat) (x0 : Int) (x1 : Int) (x2 : ByteArray) (x3a : Option Addr) (x3l : Nat) (x3c : Nat) (depth : Int) (g : G) (R : Value → G → Prop) : fnG cfg41 42 [] c41 an41 [(.map m), (.agg ⟨[(.int .i64 x0), (.int .i64 x1), (.string x2), (.slice x3a x3l x3c)]⟩), (.int .i64 depth)] g nobody R = F41 m x0 x1 x2 x3a x3l x3c depth g R := by kernel_rfl
theorem call41 (m : Option Nat) (x0 : Int) (x1 : Int) (x2 : ByteArray) (x3a : Option Addr) (x3l : Nat) (x3c : Nat) (depth : Int) (g : G) (R : Value → G → Prop) (hF : F41 m x0 x1 x2 x3a x3l x3c depth g R) : CallsG Tryd.prog 41 #[(.map m), (.agg ⟨[(.int .i64 x0), (.int .i64 x1), (.string x2), (.slice x3a x3l x3c)]⟩), (.int .i64 depth)] g nobody R :=
  fn_soundG (c := cfg41) TTok FNSok mixed Tryd.func41 (show Tryd.f41.body = some c41 by kernel_rfl) (show Tryd.f41.ntmps = 42 by kernel_rfl) (show Tryd.f41.results.toList = [] by kernel_rfl) rfl ((F41_eq m x0 x1 x2 x3a x3l x3c depth g R ).mpr hF)

/- 44 pilaster/lambda.equal -/
/- 45 pilaster/lambda.form -/
end Go.Proofs.YtfmjipgcbecamaaDoor
