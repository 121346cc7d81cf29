/- Printed by a program (wip/tools/gen2.py): for each function its condition as a plain formula, and that the formula gives the call. -/
import Derived.Test.YthlcdgpemjdgnaaGreatDoorProg
import Derived.Test.YthlcdgpemjdgnaaGreatDoorVda
namespace Go.Proofs.YthlcdgpemjdgnaaGreatDoor
open Go Go.Vc Go.RowKit
set_option maxRecDepth 100000
set_option linter.unusedVariables false
def TT : List TI := [
  ⟨0, .tuple #[], 1, 0, some (.tuple ⟨[]⟩), (.tup [])⟩,
  ⟨3, .int .i64, 1, 8, some (.int .i64 (0 : Int)), (.e (.one (.int .i64)))⟩,
  ⟨4, .bool, 1, 1, some (.bool false), (.e (.one (.bool)))⟩,
  ⟨9, .string, 1, 16, some (.string (bs [])), (.e (.one (.str)))⟩,
  ⟨22, .slice 55, 1, 24, some (.slice none 0 0), (.e (.one (.sl)))⟩,
  ⟨25, .slice 9, 1, 24, some (.slice none 0 0), (.e (.one (.sl)))⟩,
  ⟨26, .slice 28, 1, 24, some (.slice none 0 0), (.e (.one (.sl)))⟩,
  ⟨28, .struct #[{ name := "Op", type := 3, offset := 0, embedded := false, tag := "", pkgPath := "", byteOffset := 0 }, { name := "N", type := 3, offset := 1, embedded := false, tag := "", pkgPath := "", byteOffset := 8 }, { name := "S", type := 9, offset := 2, embedded := false, tag := "", pkgPath := "", byteOffset := 16 }, { name := "Names", type := 25, offset := 3, embedded := false, tag := "", pkgPath := "", byteOffset := 32 }, { name := "L", type := 26, offset := 4, embedded := false, tag := "", pkgPath := "", byteOffset := 56 }], 5, 80, some (.agg ⟨[(.int .i64 (0 : Int)), (.int .i64 (0 : Int)), (.string (bs [])), (.slice none 0 0), (.slice none 0 0)]⟩), (.e (.agg [(.int .i64), (.int .i64), (.str), (.sl), (.sl)]))⟩,
  ⟨30, .struct #[{ name := "Op", type := 3, offset := 0, embedded := false, tag := "", pkgPath := "", byteOffset := 0 }, { name := "N", type := 3, offset := 1, embedded := false, tag := "", pkgPath := "", byteOffset := 8 }, { name := "Steps", type := 3, offset := 2, embedded := false, tag := "", pkgPath := "", byteOffset := 16 }, { name := "V", type := 28, offset := 3, embedded := false, tag := "", pkgPath := "", byteOffset := 24 }, { name := "Out", type := 25, offset := 8, embedded := false, tag := "", pkgPath := "", byteOffset := 104 }], 9, 128, some (.agg ⟨[(.int .i64 (0 : Int)), (.int .i64 (0 : Int)), (.int .i64 (0 : Int)), (.int .i64 (0 : Int)), (.int .i64 (0 : Int)), (.string (bs [])), (.slice none 0 0), (.slice none 0 0), (.slice none 0 0)]⟩), (.e (.agg [(.int .i64), (.int .i64), (.int .i64), (.int .i64), (.int .i64), (.str), (.sl), (.sl), (.sl)]))⟩,
  ⟨31, .int .i64, 1, 8, some (.int .i64 (0 : Int)), (.e (.one (.int .i64)))⟩,
  ⟨32, .tuple #[30, 31], 1, 0, some (.tuple ⟨[(.agg ⟨[(.int .i64 (0 : Int)), (.int .i64 (0 : Int)), (.int .i64 (0 : Int)), (.int .i64 (0 : Int)), (.int .i64 (0 : Int)), (.string (bs [])), (.slice none 0 0), (.slice none 0 0), (.slice none 0 0)]⟩), (.int .i64 (0 : Int))]⟩), (.tup [(.agg [(.int .i64), (.int .i64), (.int .i64), (.int .i64), (.int .i64), (.str), (.sl), (.sl), (.sl)]), (.one (.int .i64))])⟩,
  ⟨39, .int .u16, 1, 2, some (.int .u16 (0 : Int)), (.e (.one (.int .u16)))⟩,
  ⟨42, .slice 44, 1, 24, some (.slice none 0 0), (.e (.one (.sl)))⟩,
  ⟨44, .struct #[{ name := "Op", type := 3, offset := 0, embedded := false, tag := "", pkgPath := "", byteOffset := 0 }, { name := "N", type := 3, offset := 1, embedded := false, tag := "", pkgPath := "", byteOffset := 8 }, { name := "S", type := 9, offset := 2, embedded := false, tag := "", pkgPath := "", byteOffset := 16 }, { name := "L", type := 42, offset := 3, embedded := false, tag := "", pkgPath := "", byteOffset := 32 }], 4, 56, some (.agg ⟨[(.int .i64 (0 : Int)), (.int .i64 (0 : Int)), (.string (bs [])), (.slice none 0 0)]⟩), (.e (.agg [(.int .i64), (.int .i64), (.str), (.sl)]))⟩,
  ⟨47, .slice 3, 1, 24, some (.slice none 0 0), (.e (.one (.sl)))⟩,
  ⟨49, .tuple #[22, 3, 31], 1, 0, some (.tuple ⟨[(.slice none 0 0), (.int .i64 (0 : Int)), (.int .i64 (0 : Int))]⟩), (.tup [(.one (.sl)), (.one (.int .i64)), (.one (.int .i64))])⟩,
  ⟨55, .struct #[{ name := "Captures", type := 3, offset := 0, embedded := false, tag := "", pkgPath := "", byteOffset := 0 }, { name := "Body", type := 44, offset := 1, embedded := false, tag := "", pkgPath := "", byteOffset := 8 }], 5, 64, some (.agg ⟨[(.int .i64 (0 : Int)), (.int .i64 (0 : Int)), (.int .i64 (0 : Int)), (.string (bs [])), (.slice none 0 0)]⟩), (.e (.agg [(.int .i64), (.int .i64), (.int .i64), (.str), (.sl)]))⟩,
  ⟨73, .func #[55] #[4] false, 1, 8, some .nilFunc, (.e (.one (.fn)))⟩,
  ⟨75, .slice 77, 1, 24, some (.slice none 0 0), (.e (.one (.sl)))⟩,
  ⟨77, .struct #[{ name := "op", type := 3, offset := 0, embedded := false, tag := "", pkgPath := "pilaster/pilasterref45", byteOffset := 0 }, { name := "n", type := 3, offset := 1, embedded := false, tag := "", pkgPath := "pilaster/pilasterref45", byteOffset := 8 }, { name := "s", type := 9, offset := 2, embedded := false, tag := "", pkgPath := "pilaster/pilasterref45", byteOffset := 16 }, { name := "l", type := 75, offset := 3, embedded := false, tag := "", pkgPath := "pilaster/pilasterref45", byteOffset := 32 }], 4, 56, some (.agg ⟨[(.int .i64 (0 : Int)), (.int .i64 (0 : Int)), (.string (bs [])), (.slice none 0 0)]⟩), (.e (.agg [(.int .i64), (.int .i64), (.str), (.sl)]))⟩,
  ⟨79, .struct #[{ name := "op", type := 3, offset := 0, embedded := false, tag := "", pkgPath := "pilaster/pilasterref45", byteOffset := 0 }, { name := "n", type := 3, offset := 1, embedded := false, tag := "", pkgPath := "pilaster/pilasterref45", byteOffset := 8 }, { name := "steps", type := 3, offset := 2, embedded := false, tag := "", pkgPath := "pilaster/pilasterref45", byteOffset := 16 }, { name := "fuel", type := 3, offset := 3, embedded := false, tag := "", pkgPath := "pilaster/pilasterref45", byteOffset := 24 }, { name := "out", type := 25, offset := 4, embedded := false, tag := "", pkgPath := "pilaster/pilasterref45", byteOffset := 32 }], 5, 56, some (.agg ⟨[(.int .i64 (0 : Int)), (.int .i64 (0 : Int)), (.int .i64 (0 : Int)), (.int .i64 (0 : Int)), (.slice none 0 0)]⟩), (.e (.agg [(.int .i64), (.int .i64), (.int .i64), (.int .i64), (.sl)]))⟩,
  ⟨80, .tuple #[77, 79], 1, 0, some (.tuple ⟨[(.agg ⟨[(.int .i64 (0 : Int)), (.int .i64 (0 : Int)), (.string (bs [])), (.slice none 0 0)]⟩), (.agg ⟨[(.int .i64 (0 : Int)), (.int .i64 (0 : Int)), (.int .i64 (0 : Int)), (.int .i64 (0 : Int)), (.slice none 0 0)]⟩)]⟩), (.tup [(.agg [(.int .i64), (.int .i64), (.str), (.sl)]), (.agg [(.int .i64), (.int .i64), (.int .i64), (.int .i64), (.sl)])])⟩,
  ⟨82, .tuple #[28, 3], 1, 0, some (.tuple ⟨[(.agg ⟨[(.int .i64 (0 : Int)), (.int .i64 (0 : Int)), (.string (bs [])), (.slice none 0 0), (.slice none 0 0)]⟩), (.int .i64 (0 : Int))]⟩), (.tup [(.agg [(.int .i64), (.int .i64), (.str), (.sl), (.sl)]), (.one (.int .i64))])⟩,
  ⟨85, .tuple #[47, 31], 1, 0, some (.tuple ⟨[(.slice none 0 0), (.int .i64 (0 : Int))]⟩), (.tup [(.one (.sl)), (.one (.int .i64))])⟩,
  ⟨87, .pointer 89, 1, 8, some (.pointer none), (.e (.one (.ptr)))⟩,
  ⟨89, .struct #[{ name := "l", type := 22, offset := 0, embedded := false, tag := "", pkgPath := "pilaster/closure", byteOffset := 0 }, { name := "full", type := 4, offset := 1, embedded := false, tag := "", pkgPath := "pilaster/closure", byteOffset := 24 }], 2, 32, some (.agg ⟨[(.slice none 0 0), (.bool false)]⟩), (.e (.agg [(.sl), (.bool)]))⟩,
  ⟨92, .struct #[{ name := "places", type := 42, offset := 0, embedded := false, tag := "", pkgPath := "pilaster/closure", byteOffset := 0 }, { name := "locals", type := 3, offset := 1, embedded := false, tag := "", pkgPath := "pilaster/closure", byteOffset := 24 }], 2, 32, some (.agg ⟨[(.slice none 0 0), (.int .i64 (0 : Int))]⟩), (.e (.agg [(.sl), (.int .i64)]))⟩,
  ⟨95, .func #[3, 3] #[4] false, 1, 8, some .nilFunc, (.e (.one (.fn)))⟩,
  ⟨111, .tuple #[75, 79], 1, 0, some (.tuple ⟨[(.slice none 0 0), (.agg ⟨[(.int .i64 (0 : Int)), (.int .i64 (0 : Int)), (.int .i64 (0 : Int)), (.int .i64 (0 : Int)), (.slice none 0 0)]⟩)]⟩), (.tup [(.one (.sl)), (.agg [(.int .i64), (.int .i64), (.int .i64), (.int .i64), (.sl)])])⟩,
  ⟨116, .map 3 4, 1, 8, some (.map none), (.e (.one (.map)))⟩,
  ⟨122, .tuple #[3, 3], 1, 0, some (.tuple ⟨[(.int .i64 (0 : Int)), (.int .i64 (0 : Int))]⟩), (.tup [(.one (.int .i64)), (.one (.int .i64))])⟩,
  ⟨124, .pointer 126, 1, 8, some (.pointer none), (.e (.one (.ptr)))⟩,
  ⟨126, .struct #[{ name := "captures", type := 3, offset := 0, embedded := false, tag := "", pkgPath := "pilaster/closure", byteOffset := 0 }, { name := "closures", type := 95, offset := 1, embedded := false, tag := "", pkgPath := "pilaster/closure", byteOffset := 8 }], 2, 16, some (.agg ⟨[(.int .i64 (0 : Int)), .nilFunc]⟩), (.e (.agg [(.int .i64), (.fn)]))⟩,
  ⟨145, .tuple #[3, 4], 1, 0, some (.tuple ⟨[(.int .i64 (0 : Int)), (.bool false)]⟩), (.tup [(.one (.int .i64)), (.one (.bool))])⟩]
theorem TTok : TOk Tryz.prog TT := tok_of (by kernel_rfl)
def FNS : List Nat := [6, 7, 8, 9, 10, 11, 12, 13, 14, 15, 16, 17, 18, 19, 20, 21, 22, 23, 28, 29, 30, 31, 32, 33, 34, 35, 36, 37, 38, 40, 41, 43, 47, 48, 49, 52, 53, 54, 55, 56, 57, 58, 59, 60, 61, 62, 63, 64, 65, 66, 67, 68, 69, 70, 78, 79, 80, 81, 82, 83, 84, 85, 86, 87, 90, 91, 92, 103, 115, 120, 121]
theorem FNSok : FOk Tryz.prog FNS := fok_of (by kernel_rfl)
theorem mixed : Tryz.prog.follows .mixedOrders = true := by kernel_rfl
def TCH : List Nat := [37, 62, 63, 65]
def PNF : List Nat := []

/- 3 pilaster/pilasterlaw45.ClosureRuns -/
noncomputable def c3 : Code := match Tryz.f3.body with
  | some c => c
  | none => .skip
noncomputable def cfg3 : Cfg := ⟨Tryz.prog, TT, FNS, [7], [(7, 7)], [], TCH, false, false, none, PNF, false⟩
def an3 : AnnG := (.seq .leaf (.join ⟨[], [], []⟩ (.seq .leaf (.cond (.seq .leaf .leaf) .leaf)) (.seq .leaf (.seq (.blk (.seq .leaf (.cond (.seq .leaf .leaf) (.join ⟨[(43, .bool)], [], []⟩ .leaf (.cond (.seq .leaf .leaf) .leaf))))) (.seq (.tree 5 (.quiet 0 (.quiet 1 (.quiet 2 (.quiet 3 (.eff 4 .fin .fin)))))) .leaf)))))
def F3 (la : Option Addr) (ll : Nat) (lc : Nat) (main : Int) (fuel : Int) (g : G) (R : Value → G → Prop) : Prop :=
  ∀ J : G → Prop,
  (∀ g1 : G, ((CallsP Tryz.prog 8 #[(.slice la ll lc), (.int .i64 main), (.int .i64 fuel)] g1 fun v g2 =>
  ∃ x00 : Int, ∃ x01 : Int, ∃ x02 : Int, ∃ x03 : Int, ∃ x04 : Int, ∃ x05 : ByteArray, ∃ x06a : Option Addr, ∃ x06l : Nat, ∃ x06c : Nat, ∃ x07a : Option Addr, ∃ x07l : Nat, ∃ x07c : Nat, ∃ x08a : Option Addr, ∃ x08l : Nat, ∃ x08c : Nat, ∃ x1 : Int, v = (.tuple ⟨[(.agg ⟨[(.int .i64 x00), (.int .i64 x01), (.int .i64 x02), (.int .i64 x03), (.int .i64 x04), (.string x05), (.slice x06a x06l x06c), (.slice x07a x07l x07c), (.slice x08a x08l x08c)]⟩), (.int .i64 x1)]⟩) ∧ ∀ g3 : G, Ex g2 g3 →
  (CallsP Tryz.prog 9 #[(.slice la ll lc), (.int .i64 main)] g3 fun v g4 =>
  ∃ x : Bool, v = (.bool x) ∧ ifB (!x)
  ((CallsP Tryz.prog 10 #[(.agg ⟨[(.int .i64 x00), (.int .i64 x01), (.int .i64 x02), (.int .i64 x03), (.int .i64 x04), (.string x05), (.slice x06a x06l x06c), (.slice x07a x07l x07c), (.slice x08a x08l x08c)]⟩)] g4 fun v g5 =>
  ∃ x_1 : Bool, v = (.bool x_1) ∧ ifB x_1
  (∀ g6 : G, Ex g5 g6 →
  R (.bool (eqI x1 (1 : Int))) g6)
  (∀ g7 : G, Ex g5 g7 →
  R (.bool false) g7)))
  (∀ J_1 : Bool → G → Prop,
  (∀ v_1 : Bool, ∀ g8 : G, (ifB v_1
  ((CallsP Tryz.prog 10 #[(.agg ⟨[(.int .i64 x00), (.int .i64 x01), (.int .i64 x02), (.int .i64 x03), (.int .i64 x04), (.string x05), (.slice x06a x06l x06c), (.slice x07a x07l x07c), (.slice x08a x08l x08c)]⟩)] g8 fun v g9 =>
  ∃ x_2 : Bool, v = (.bool x_2) ∧ ifB x_2
  (∀ g10 : G, Ex g9 g10 →
  R (.bool (eqI x1 (2 : Int))) g10)
  (∀ g11 : G, Ex g9 g11 →
  R (.bool false) g11)))
  (∀ g12 : G, Ex g8 g12 →
  (CallsP Tryz.prog 12 #[(.slice la ll lc), (.int .i64 main), (.int .i64 fuel)] g12 fun v g13 =>
  ∃ x0 : Int, ∃ x1_1 : Int, ∃ x2 : Int, ∃ x3 : Int, ∃ x4 : Int, ∃ x5 : ByteArray, ∃ x6a : Option Addr, ∃ x6l : Nat, ∃ x6c : Nat, ∃ x7a : Option Addr, ∃ x7l : Nat, ∃ x7c : Nat, ∃ x8a : Option Addr, ∃ x8l : Nat, ∃ x8c : Nat, v = (.agg ⟨[(.int .i64 x0), (.int .i64 x1_1), (.int .i64 x2), (.int .i64 x3), (.int .i64 x4), (.string x5), (.slice x6a x6l x6c), (.slice x7a x7l x7c), (.slice x8a x8l x8c)]⟩) ∧ (CallsP Tryz.prog 11 #[(.agg ⟨[(.int .i64 x00), (.int .i64 x01), (.int .i64 x02), (.int .i64 x03), (.int .i64 x04), (.string x05), (.slice x06a x06l x06c), (.slice x07a x07l x07c), (.slice x08a x08l x08c)]⟩), (.agg ⟨[(.int .i64 x0), (.int .i64 x1_1), (.int .i64 x2), (.int .i64 x3), (.int .i64 x4), (.string x5), (.slice x6a x6l x6c), (.slice x7a x7l x7c), (.slice x8a x8l x8c)]⟩)] g13 fun v g14 =>
  ∃ x_3 : Bool, v = (.bool x_3) ∧ ifB x_3
  (∀ g15 : G, Ex g14 g15 →
  R (.bool (eqI x1 (0 : Int))) g15)
  (∀ g16 : G, Ex g14 g16 →
  R (.bool false) g16))))) → J_1 v_1 g8) →
  ifB (ltI fuel (0 : Int))
  (J_1 true g4)
  (J_1 (ltI (1048576 : Int) fuel) g4))))) → J g1) →
  (CallsP Tryz.prog 6 #[] g fun v g17 =>
  ∃ x_4 : Bool, v = (.bool x_4) ∧ ifB (!x_4)
  ((CallsP Tryz.prog 6 #[] g17 fun v g18 =>
  ∃ x_5 : Bool, v = (.bool x_5) ∧ ∀ g19 : G, Ex g18 g19 →
  R (.bool x_5) g19))
  ((CallsP Tryz.prog 7 #[(.slice la ll lc)] g17 fun v g20 =>
  ∃ x_6 : Bool, v = (.bool x_6) ∧ ifB (!x_6)
  ((CallsP Tryz.prog 6 #[] g20 fun v g21 =>
  ∃ x_7 : Bool, v = (.bool x_7) ∧ ∀ g22 : G, Ex g21 g22 →
  R (.bool x_7) g22))
  (ifB (ltI (20000 : Int) fuel)
  (ifB (leI fuel (1048576 : Int))
  ((CallsP Tryz.prog 6 #[] g20 fun v g23 =>
  ∃ x_8 : Bool, v = (.bool x_8) ∧ ∀ g24 : G, Ex g23 g24 →
  R (.bool x_8) g24))
  (J g20))
  (J g20)))))
theorem F3_eq (la : Option Addr) (ll : Nat) (lc : Nat) (main : Int) (fuel : Int) (g : G) (R : Value → G → Prop) : fnG cfg3 66 [.tmp 6] c3 an3 [(.slice la ll lc), (.int .i64 main), (.int .i64 fuel)] g nobody R = F3 la ll lc main fuel g R := by kernel_rfl
theorem call3 (la : Option Addr) (ll : Nat) (lc : Nat) (main : Int) (fuel : Int) (g : G) (R : Value → G → Prop) (hF : F3 la ll lc main fuel g R) : CallsG Tryz.prog 3 #[(.slice la ll lc), (.int .i64 main), (.int .i64 fuel)] g nobody R :=
  fn_soundG (c := cfg3) TTok FNSok mixed Tryz.func3 (show Tryz.f3.body = some c3 by kernel_rfl) (show Tryz.f3.ntmps = 66 by kernel_rfl) (show Tryz.f3.results.toList = [.tmp 6] by kernel_rfl) rfl ((F3_eq la ll lc main fuel g R ).mpr hF)

/- 4 pilaster/pilasterlaw45.ClosureFuel -/
noncomputable def c4 : Code := match Tryz.f4.body with
  | some c => c
  | none => .skip
noncomputable def cfg4 : Cfg := ⟨Tryz.prog, TT, FNS, [7, 9, 11], [(7, 7), (9, 9), (11, 11), (36, 7), (41, 7), (45, 7), (48, 7), (54, 7), (66, 7), (84, 11), (89, 11), (91, 7), (97, 11), (99, 7)], [], TCH, false, false, none, PNF, false⟩
def an4 : AnnG := (.seq .leaf (.join ⟨[], [], []⟩ (.seq .leaf (.cond (.seq .leaf .leaf) .leaf)) (.seq .leaf (.join ⟨[], [], []⟩ (.seq .leaf (.cond (.seq .leaf .leaf) .leaf)) (.seq (.seq .leaf (.cond (.seq .leaf .leaf) .leaf)) (.seq .leaf (.seq .leaf (.seq .leaf .leaf))))))))
def F4 (la : Option Addr) (ll : Nat) (lc : Nat) (main : Int) (more : Int) (g : G) (R : Value → G → Prop) : Prop :=
  ∀ J : G → Prop,
  (∀ g1 : G, ((CallsP Tryz.prog 8 #[(.slice la ll lc), (.int .i64 main), (.int .i64 (4000 : Int))] g1 fun v g2 =>
  ∃ x00 : Int, ∃ x01 : Int, ∃ x02 : Int, ∃ x03 : Int, ∃ x04 : Int, ∃ x05 : ByteArray, ∃ x06a : Option Addr, ∃ x06l : Nat, ∃ x06c : Nat, ∃ x07a : Option Addr, ∃ x07l : Nat, ∃ x07c : Nat, ∃ x08a : Option Addr, ∃ x08l : Nat, ∃ x08c : Nat, ∃ x1 : Int, v = (.tuple ⟨[(.agg ⟨[(.int .i64 x00), (.int .i64 x01), (.int .i64 x02), (.int .i64 x03), (.int .i64 x04), (.string x05), (.slice x06a x06l x06c), (.slice x07a x07l x07c), (.slice x08a x08l x08c)]⟩), (.int .i64 x1)]⟩) ∧ ∀ J_1 : G → Prop,
  (∀ g3 : G, (ifB (eqI x00 (3 : Int))
  (∀ g4 : G, Ex g3 g4 →
  R (.bool (eqI x02 (4000 : Int))) g4)
  (InI64 more ∧ (4000 : Int) ≠ 0 ∧ InI64 (x02 + (Int.tmod more (4000 : Int))) ∧ (CallsP Tryz.prog 8 #[(.slice la ll lc), (.int .i64 main), (.int .i64 (x02 + (Int.tmod more (4000 : Int))))] g3 fun v g5 =>
  ∃ x00_1 : Int, ∃ x01_1 : Int, ∃ x02_1 : Int, ∃ x03_1 : Int, ∃ x04_1 : Int, ∃ x05_1 : ByteArray, ∃ x06a_1 : Option Addr, ∃ x06l_1 : Nat, ∃ x06c_1 : Nat, ∃ x07a_1 : Option Addr, ∃ x07l_1 : Nat, ∃ x07c_1 : Nat, ∃ x08a_1 : Option Addr, ∃ x08l_1 : Nat, ∃ x08c_1 : Nat, ∃ x1_1 : Int, v = (.tuple ⟨[(.agg ⟨[(.int .i64 x00_1), (.int .i64 x01_1), (.int .i64 x02_1), (.int .i64 x03_1), (.int .i64 x04_1), (.string x05_1), (.slice x06a_1 x06l_1 x06c_1), (.slice x07a_1 x07l_1 x07c_1), (.slice x08a_1 x08l_1 x08c_1)]⟩), (.int .i64 x1_1)]⟩) ∧ InI64 (x02 - (1 : Int)) ∧ ∀ g6 : G, Ex g5 g6 →
  (CallsP Tryz.prog 8 #[(.slice la ll lc), (.int .i64 main), (.int .i64 (x02 - (1 : Int)))] g6 fun v g7 =>
  ∃ x00_2 : Int, ∃ x01_2 : Int, ∃ x02_2 : Int, ∃ x03_2 : Int, ∃ x04_2 : Int, ∃ x05_2 : ByteArray, ∃ x06a_2 : Option Addr, ∃ x06l_2 : Nat, ∃ x06c_2 : Nat, ∃ x07a_2 : Option Addr, ∃ x07l_2 : Nat, ∃ x07c_2 : Nat, ∃ x08a_2 : Option Addr, ∃ x08l_2 : Nat, ∃ x08c_2 : Nat, ∃ x1_2 : Int, v = (.tuple ⟨[(.agg ⟨[(.int .i64 x00_2), (.int .i64 x01_2), (.int .i64 x02_2), (.int .i64 x03_2), (.int .i64 x04_2), (.string x05_2), (.slice x06a_2 x06l_2 x06c_2), (.slice x07a_2 x07l_2 x07c_2), (.slice x08a_2 x08l_2 x08c_2)]⟩), (.int .i64 x1_2)]⟩) ∧ ifB (eqI x1_1 (0 : Int))
  (∀ g8 : G, Ex g7 g8 →
  (CallsP Tryz.prog 11 #[(.agg ⟨[(.int .i64 x00), (.int .i64 x01), (.int .i64 x02), (.int .i64 x03), (.int .i64 x04), (.string x05), (.slice x06a x06l x06c), (.slice x07a x07l x07c), (.slice x08a x08l x08c)]⟩), (.agg ⟨[(.int .i64 x00_1), (.int .i64 x01_1), (.int .i64 x02_1), (.int .i64 x03_1), (.int .i64 x04_1), (.string x05_1), (.slice x06a_1 x06l_1 x06c_1), (.slice x07a_1 x07l_1 x07c_1), (.slice x08a_1 x08l_1 x08c_1)]⟩)] g8 fun v g9 =>
  ∃ x : Bool, v = (.bool x) ∧ ifB x
  (ifB (eqI x1_2 (0 : Int))
  (ifB (eqI x00_2 (3 : Int))
  (InI64 (x02 - (1 : Int)) ∧ ifB (eqI x02_2 (x02 - (1 : Int)))
  ((CallsP Tryz.prog 13 #[(.slice x08a_2 x08l_2 x08c_2), (.slice x08a x08l x08c)] g9 fun v g10 =>
  ∃ x_1 : Bool, v = (.bool x_1) ∧ ∀ g11 : G, Ex g10 g11 →
  R (.bool x_1) g11))
  (∀ g12 : G, Ex g9 g12 →
  R (.bool false) g12))
  (∀ g13 : G, Ex g9 g13 →
  R (.bool false) g13))
  (∀ g14 : G, Ex g9 g14 →
  R (.bool false) g14))
  (∀ g15 : G, Ex g9 g15 →
  R (.bool false) g15)))
  (∀ g16 : G, Ex g7 g16 →
  R (.bool false) g16))))) → J_1 g3) →
  ifB (!eqI x1 (0 : Int))
  (∀ g17 : G, Ex g2 g17 →
  R (.bool false) g17)
  (ifB (ltI x02 (1 : Int))
  (∀ g18 : G, Ex g2 g18 →
  R (.bool false) g18)
  (ifB (ltI (4000 : Int) x02)
  (∀ g19 : G, Ex g2 g19 →
  R (.bool false) g19)
  (∀ g20 : G, Ex g2 g20 →
  J_1 g20))))) → J g1) →
  (CallsP Tryz.prog 6 #[] g fun v g21 =>
  ∃ x_2 : Bool, v = (.bool x_2) ∧ ifB (!x_2)
  ((CallsP Tryz.prog 6 #[] g21 fun v g22 =>
  ∃ x_3 : Bool, v = (.bool x_3) ∧ ∀ g23 : G, Ex g22 g23 →
  R (.bool x_3) g23))
  ((CallsP Tryz.prog 7 #[(.slice la ll lc)] g21 fun v g24 =>
  ∃ x_4 : Bool, v = (.bool x_4) ∧ ifB (!x_4)
  ((CallsP Tryz.prog 6 #[] g24 fun v g25 =>
  ∃ x_5 : Bool, v = (.bool x_5) ∧ ∀ g26 : G, Ex g25 g26 →
  R (.bool x_5) g26))
  ((CallsP Tryz.prog 9 #[(.slice la ll lc), (.int .i64 main)] g24 fun v g27 =>
  ∃ x_6 : Bool, v = (.bool x_6) ∧ ifB (!x_6)
  ((CallsP Tryz.prog 6 #[] g27 fun v g28 =>
  ∃ x_7 : Bool, v = (.bool x_7) ∧ ∀ g29 : G, Ex g28 g29 →
  R (.bool x_7) g29))
  (J g27))))))
theorem F4_eq (la : Option Addr) (ll : Nat) (lc : Nat) (main : Int) (more : Int) (g : G) (R : Value → G → Prop) : fnG cfg4 103 [.tmp 6] c4 an4 [(.slice la ll lc), (.int .i64 main), (.int .u16 more)] g nobody R = F4 la ll lc main more g R := by kernel_rfl
theorem call4 (la : Option Addr) (ll : Nat) (lc : Nat) (main : Int) (more : Int) (g : G) (R : Value → G → Prop) (hF : F4 la ll lc main more g R) : CallsG Tryz.prog 4 #[(.slice la ll lc), (.int .i64 main), (.int .u16 more)] g nobody R :=
  fn_soundG (c := cfg4) TTok FNSok mixed Tryz.func4 (show Tryz.f4.body = some c4 by kernel_rfl) (show Tryz.f4.ntmps = 103 by kernel_rfl) (show Tryz.f4.results.toList = [.tmp 6] by kernel_rfl) rfl ((F4_eq la ll lc main more g R ).mpr hF)

/- 5 pilaster/pilasterlaw45.ClosureAgrees -/
noncomputable def c5 : Code := match Tryz.f5.body with
  | some c => c
  | none => .skip
/- 6 pilaster/pilasterlaw45.awake -/
noncomputable def c6 : Code := match Tryz.f6.body with
  | some c => c
  | none => .skip
noncomputable def cfg6 : Cfg := ⟨Tryz.prog, TT, FNS, [], [], [], TCH, false, false, none, PNF, false⟩
def an6 : AnnG := (.seq .leaf (.seq .leaf (.seq .leaf .leaf)))
def F6 (g : G) (R : Value → G → Prop) : Prop :=
  (CallsP Tryz.prog 21 #[(.int .i64 (1 : Int)), (.int .i64 (1 : Int)), (.slice none 0 0)] g fun v g1 =>
  ∃ x0 : Int, ∃ x1 : Int, ∃ x2 : ByteArray, ∃ x3a : Option Addr, ∃ x3l : Nat, ∃ x3c : Nat, v = (.agg ⟨[(.int .i64 x0), (.int .i64 x1), (.string x2), (.slice x3a x3l x3c)]⟩) ∧ ∀ g2 : G, NewL g1 g2 44 [(.int .i64 x0), (.int .i64 x1), (.string x2), (.slice x3a x3l x3c)] →
  (CallsP Tryz.prog 21 #[(.int .i64 (4 : Int)), (.int .i64 (0 : Int)), (.slice (some ⟨g1.w.heap.size, 0, none⟩) 1 1)] g2 fun v g3 =>
  ∃ x0_1 : Int, ∃ x1_1 : Int, ∃ x2_1 : ByteArray, ∃ x3a_1 : Option Addr, ∃ x3l_1 : Nat, ∃ x3c_1 : Nat, v = (.agg ⟨[(.int .i64 x0_1), (.int .i64 x1_1), (.string x2_1), (.slice x3a_1 x3l_1 x3c_1)]⟩) ∧ ∀ g4 : G, NewL g3 g4 44 [(.int .i64 x0_1), (.int .i64 x1_1), (.string x2_1), (.slice x3a_1 x3l_1 x3c_1)] →
  (CallsP Tryz.prog 21 #[(.int .i64 (4 : Int)), (.int .i64 (0 : Int)), (.slice (some ⟨g3.w.heap.size, 0, none⟩) 1 1)] g4 fun v g5 =>
  ∃ x0_2 : Int, ∃ x1_2 : Int, ∃ x2_2 : ByteArray, ∃ x3a_2 : Option Addr, ∃ x3l_2 : Nat, ∃ x3c_2 : Nat, v = (.agg ⟨[(.int .i64 x0_2), (.int .i64 x1_2), (.string x2_2), (.slice x3a_2 x3l_2 x3c_2)]⟩) ∧ (CallsP Tryz.prog 17 #[(.agg ⟨[(.int .i64 x0_2), (.int .i64 x1_2), (.string x2_2), (.slice x3a_2 x3l_2 x3c_2)]⟩)] g5 fun v g6 =>
  ∃ x0a : Option Addr, ∃ x0l : Nat, ∃ x0c : Nat, ∃ x1_3 : Int, ∃ x2_3 : Int, v = (.tuple ⟨[(.slice x0a x0l x0c), (.int .i64 x1_3), (.int .i64 x2_3)]⟩) ∧ ifB (eqI x2_3 (0 : Int))
  (ifB (eqI x1_3 (0 : Int))
  ((CallsP Tryz.prog 21 #[(.int .i64 (24 : Int)), (.int .i64 (1 : Int)), (.slice none 0 0)] g6 fun v g7 =>
  ∃ x0_3 : Int, ∃ x1_4 : Int, ∃ x2_4 : ByteArray, ∃ x3a_3 : Option Addr, ∃ x3l_3 : Nat, ∃ x3c_3 : Nat, v = (.agg ⟨[(.int .i64 x0_3), (.int .i64 x1_4), (.string x2_4), (.slice x3a_3 x3l_3 x3c_3)]⟩) ∧ (CallsP Tryz.prog 21 #[(.int .i64 (21 : Int)), (.int .i64 (0 : Int)), (.slice none 0 0)] g7 fun v g8 =>
  ∃ x0_4 : Int, ∃ x1_5 : Int, ∃ x2_5 : ByteArray, ∃ x3a_4 : Option Addr, ∃ x3l_4 : Nat, ∃ x3c_4 : Nat, v = (.agg ⟨[(.int .i64 x0_4), (.int .i64 x1_5), (.string x2_5), (.slice x3a_4 x3l_4 x3c_4)]⟩) ∧ ∀ g9 : G, NewL g8 g9 44 [(.int .i64 x0_4), (.int .i64 x1_5), (.string x2_5), (.slice x3a_4 x3l_4 x3c_4)] →
  (CallsP Tryz.prog 21 #[(.int .i64 (24 : Int)), (.int .i64 (2 : Int)), (.slice (some ⟨g8.w.heap.size, 0, none⟩) 1 1)] g9 fun v g10 =>
  ∃ x0_5 : Int, ∃ x1_6 : Int, ∃ x2_6 : ByteArray, ∃ x3a_5 : Option Addr, ∃ x3l_5 : Nat, ∃ x3c_5 : Nat, v = (.agg ⟨[(.int .i64 x0_5), (.int .i64 x1_6), (.string x2_6), (.slice x3a_5 x3l_5 x3c_5)]⟩) ∧ (CallsP Tryz.prog 21 #[(.int .i64 (23 : Int)), (.int .i64 (0 : Int)), (.slice none 0 0)] g10 fun v g11 =>
  ∃ x0_6 : Int, ∃ x1_7 : Int, ∃ x2_7 : ByteArray, ∃ x3a_6 : Option Addr, ∃ x3l_6 : Nat, ∃ x3c_6 : Nat, v = (.agg ⟨[(.int .i64 x0_6), (.int .i64 x1_7), (.string x2_7), (.slice x3a_6 x3l_6 x3c_6)]⟩) ∧ ∀ g12 : G, NewL g11 g12 55 [(.int .i64 (0 : Int)), (.int .i64 x0_3), (.int .i64 x1_4), (.string x2_4), (.slice x3a_3 x3l_3 x3c_3), (.int .i64 (0 : Int)), (.int .i64 x0_5), (.int .i64 x1_6), (.string x2_6), (.slice x3a_5 x3l_5 x3c_5), (.int .i64 (1 : Int)), (.int .i64 x0_6), (.int .i64 x1_7), (.string x2_7), (.slice x3a_6 x3l_6 x3c_6)] →
  (CallsP Tryz.prog 22 #[(.slice x0a x0l x0c), (.slice (some ⟨g11.w.heap.size, 0, none⟩) 3 3)] g12 fun v g13 =>
  ∃ x : Bool, v = (.bool x) ∧ ∀ g14 : G, Ex g13 g14 →
  R (.bool x) g14))))))
  (∀ g15 : G, Ex g6 g15 →
  R (.bool false) g15))
  (∀ g16 : G, Ex g6 g16 →
  R (.bool false) g16)))))
theorem F6_eq (g : G) (R : Value → G → Prop) : fnG cfg6 33 [.tmp 0] c6 an6 [] g nobody R = F6 g R := by kernel_rfl
theorem call6 (g : G) (R : Value → G → Prop) (hF : F6 g R) : CallsG Tryz.prog 6 #[] g nobody R :=
  fn_soundG (c := cfg6) TTok FNSok mixed Tryz.func6 (show Tryz.f6.body = some c6 by kernel_rfl) (show Tryz.f6.ntmps = 33 by kernel_rfl) (show Tryz.f6.results.toList = [.tmp 0] by kernel_rfl) rfl ((F6_eq g R ).mpr hF)

/- 7 pilaster/pilasterlaw45.few -/
noncomputable def c7 : Code := match Tryz.f7.body with
  | some c => c
  | none => .skip
noncomputable def cfg7 : Cfg := ⟨Tryz.prog, TT, FNS, [5], [(5, 5), (13, 5), (20, 5)], [], TCH, false, false, none, PNF, false⟩
def an7 : AnnG := (.seq .leaf (.seq .leaf (.seq (.seq .leaf (.blk (.loop ⟨[(3, .int .i64), (8, .int .i64)], [], []⟩ (.seq .leaf (.seq (.cond .leaf .leaf) (.seq (.blk (.seq .leaf (.seq .leaf (.seq .leaf (.cond (.seq .leaf .leaf) .leaf))))) .leaf)))))) (.seq .leaf .leaf))))
def F7 (la : Option Addr) (ll : Nat) (lc : Nat) (g : G) (R : Value → G → Prop) : Prop :=
  ∃ Inv : Nat → Int → Int → G → Prop, ((∃ m0 : Nat, Inv m0 (0 : Int) (0 : Int) g)) ∧
  ∀ m : Nat, ∀ n : Int, ∀ v_1 : Int, ∀ g1 : G, Le g g1 → Inv m n v_1 g1 →
  ifB (ltI v_1 ((ll : Nat) : Int))
  ((0 ≤ v_1 ∧ v_1 < ((ll : Nat) : Int)) ∧ derefP la fun ad => ∃ x0 : Int, ∃ x1 : Int, ∃ x2 : Int, ∃ x3 : ByteArray, ∃ x4a : Option Addr, ∃ x4l : Nat, ∃ x4c : Nat, g1.w.cell? (Addr.add ad (Int.toNat v_1 * 5)) = some (.int .i64 x0) ∧ g1.w.cell? (Addr.add (Addr.add ad (Int.toNat v_1 * 5)) 1) = some (.int .i64 x1) ∧ g1.w.cell? (Addr.add (Addr.add ad (Int.toNat v_1 * 5)) 2) = some (.int .i64 x2) ∧ g1.w.cell? (Addr.add (Addr.add ad (Int.toNat v_1 * 5)) 3) = some (.string x3) ∧ g1.w.cell? (Addr.add (Addr.add ad (Int.toNat v_1 * 5)) 4) = some (.slice x4a x4l x4c) ∧ ∀ g2 : G, Ex g1 g2 →
  (CallsP Tryz.prog 14 #[(.agg ⟨[(.int .i64 x1), (.int .i64 x2), (.string x3), (.slice x4a x4l x4c)]⟩), (.int .i64 (400 : Int)), (.int .i64 (1 : Int))] g2 fun v g3 =>
  ∃ x : Int, v = (.int .i64 x) ∧ InI64 (n + x) ∧ ifB (leI (400 : Int) (n + x))
  (∀ g4 : G, Ex g3 g4 →
  R (.bool false) g4)
  ((CallsP Tryz.prog 23 #[(.agg ⟨[(.int .i64 x1), (.int .i64 x2), (.string x3), (.slice x4a x4l x4c)]⟩)] g3 fun v g5 =>
  ∃ x_1 : Bool, v = (.bool x_1) ∧ ifB (!x_1)
  (∀ g6 : G, Ex g5 g6 →
  R (.bool false) g6)
  (InI64 (v_1 + (1 : Int)) ∧ (∃ m_1 : Nat, m_1 < m ∧ Inv m_1 (n + x) (v_1 + (1 : Int)) g5))))))
  (∀ g7 : G, Ex g1 g7 →
  R (.bool (leI ((ll : Nat) : Int) (30 : Int))) g7)
theorem F7_eq (la : Option Addr) (ll : Nat) (lc : Nat) (g : G) (R : Value → G → Prop) : fnG cfg7 29 [.tmp 2] c7 an7 [(.slice la ll lc)] g nobody R = F7 la ll lc g R := by kernel_rfl
theorem call7 (la : Option Addr) (ll : Nat) (lc : Nat) (g : G) (R : Value → G → Prop) (hF : F7 la ll lc g R) : CallsG Tryz.prog 7 #[(.slice la ll lc)] g nobody R :=
  fn_soundG (c := cfg7) TTok FNSok mixed Tryz.func7 (show Tryz.f7.body = some c7 by kernel_rfl) (show Tryz.f7.ntmps = 29 by kernel_rfl) (show Tryz.f7.results.toList = [.tmp 2] by kernel_rfl) rfl ((F7_eq la ll lc g R ).mpr hF)

/- 9 pilaster/pilasterref45.Valid -/
noncomputable def c9 : Code := match Tryz.f9.body with
  | some c => c
  | none => .skip
noncomputable def cfg9 : Cfg := ⟨Tryz.prog, TT, FNS, [], [], [], TCH, false, false, none, PNF, false⟩
def an9 : AnnG := (.seq .leaf (.join ⟨[], [], []⟩ (.seq .leaf (.cond (.seq .leaf .leaf) .leaf)) (.seq (.seq .leaf (.blk (.loop ⟨[(5, .int .i64)], [], []⟩ (.seq (.seq .leaf (.cond .leaf .leaf)) (.seq (.blk (.seq .leaf (.cond (.seq .leaf .leaf) .leaf))) .leaf))))) (.seq .leaf .leaf))))
def F9 (la : Option Addr) (ll : Nat) (lc : Nat) (main : Int) (g : G) (R : Value → G → Prop) : Prop :=
  ∀ J : G → Prop,
  (∀ g1 : G, (∃ Inv : Nat → Int → G → Prop, ((∃ m0 : Nat, Inv m0 (0 : Int) g1)) ∧
  ∀ m : Nat, ∀ i : Int, ∀ g2 : G, Le g1 g2 → Inv m i g2 →
  ifB (ltI i ((ll : Nat) : Int))
  ((0 ≤ i ∧ i < ((ll : Nat) : Int)) ∧ derefP la fun ad => ∃ x0 : Int, ∃ x1 : Int, ∃ x2 : Int, ∃ x3 : ByteArray, ∃ x4a : Option Addr, ∃ x4l : Nat, ∃ x4c : Nat, g2.w.cell? (Addr.add ad (Int.toNat i * 5)) = some (.int .i64 x0) ∧ g2.w.cell? (Addr.add (Addr.add ad (Int.toNat i * 5)) 1) = some (.int .i64 x1) ∧ g2.w.cell? (Addr.add (Addr.add ad (Int.toNat i * 5)) 2) = some (.int .i64 x2) ∧ g2.w.cell? (Addr.add (Addr.add ad (Int.toNat i * 5)) 3) = some (.string x3) ∧ g2.w.cell? (Addr.add (Addr.add ad (Int.toNat i * 5)) 4) = some (.slice x4a x4l x4c) ∧ (CallsP Tryz.prog 29 #[(.agg ⟨[(.int .i64 x0), (.int .i64 x1), (.int .i64 x2), (.string x3), (.slice x4a x4l x4c)]⟩)] g2 fun v g3 =>
  ∃ x : Bool, v = (.bool x) ∧ ifB (!x)
  (∀ g4 : G, Ex g3 g4 →
  R (.bool false) g4)
  ((0 ≤ i ∧ i < ((ll : Nat) : Int)) ∧ derefP la fun ad_1 => ∃ x0_1 : Int, ∃ x1_1 : Int, ∃ x2_1 : ByteArray, ∃ x3a : Option Addr, ∃ x3l : Nat, ∃ x3c : Nat, g3.w.cell? (Addr.add (Addr.add ad_1 (Int.toNat i * 5)) 1) = some (.int .i64 x0_1) ∧ g3.w.cell? (Addr.add (Addr.add (Addr.add ad_1 (Int.toNat i * 5)) 1) 1) = some (.int .i64 x1_1) ∧ g3.w.cell? (Addr.add (Addr.add (Addr.add ad_1 (Int.toNat i * 5)) 1) 2) = some (.string x2_1) ∧ g3.w.cell? (Addr.add (Addr.add (Addr.add ad_1 (Int.toNat i * 5)) 1) 3) = some (.slice x3a x3l x3c) ∧ (CallsP Tryz.prog 30 #[(.agg ⟨[(.int .i64 x0_1), (.int .i64 x1_1), (.string x2_1), (.slice x3a x3l x3c)]⟩), (.slice la ll lc)] g3 fun v g5 =>
  ∃ x_1 : Bool, v = (.bool x_1) ∧ ifB (!x_1)
  (∀ g6 : G, Ex g5 g6 →
  R (.bool false) g6)
  (InI64 (i + (1 : Int)) ∧ (∃ m_1 : Nat, m_1 < m ∧ Inv m_1 (i + (1 : Int)) g5))))))
  (∀ g7 : G, Ex g2 g7 →
  R (.bool true) g7)) → J g1) →
  (CallsP Tryz.prog 28 #[(.int .i64 ((ll : Nat) : Int)), (.int .i64 (1 : Int)), (.int .i64 (4096 : Int))] g fun v g8 =>
  ∃ x_2 : Bool, v = (.bool x_2) ∧ ifB (!x_2)
  (∀ g9 : G, Ex g8 g9 →
  R (.bool false) g9)
  (InI64 (((ll : Nat) : Int) - (1 : Int)) ∧ (CallsP Tryz.prog 28 #[(.int .i64 main), (.int .i64 (0 : Int)), (.int .i64 (((ll : Nat) : Int) - (1 : Int)))] g8 fun v g10 =>
  ∃ x_3 : Bool, v = (.bool x_3) ∧ ifB (!x_3)
  (∀ g11 : G, Ex g10 g11 →
  R (.bool false) g11)
  ((0 ≤ main ∧ main < ((ll : Nat) : Int)) ∧ derefP la fun ad_2 => ∃ x_4 : Int, g10.w.cell? (Addr.add ad_2 (Int.toNat main * 5)) = some (.int .i64 x_4) ∧ ifB (!eqI x_4 (0 : Int))
  (∀ g12 : G, Ex g10 g12 →
  R (.bool false) g12)
  (J g10)))))
theorem F9_eq (la : Option Addr) (ll : Nat) (lc : Nat) (main : Int) (g : G) (R : Value → G → Prop) : fnG cfg9 48 [.tmp 4] c9 an9 [(.slice la ll lc), (.int .i64 main)] g nobody R = F9 la ll lc main g R := by kernel_rfl
theorem call9 (la : Option Addr) (ll : Nat) (lc : Nat) (main : Int) (g : G) (R : Value → G → Prop) (hF : F9 la ll lc main g R) : CallsG Tryz.prog 9 #[(.slice la ll lc), (.int .i64 main)] g nobody R :=
  fn_soundG (c := cfg9) TTok FNSok mixed Tryz.func9 (show Tryz.f9.body = some c9 by kernel_rfl) (show Tryz.f9.ntmps = 48 by kernel_rfl) (show Tryz.f9.results.toList = [.tmp 4] by kernel_rfl) rfl ((F9_eq la ll lc main g R ).mpr hF)

/- 10 pilaster/pilasterlaw45.none -/
noncomputable def c10 : Code := match Tryz.f10.body with
  | some c => c
  | none => .skip
noncomputable def cfg10 : Cfg := ⟨Tryz.prog, TT, FNS, [1], [(1, 1)], [], TCH, false, false, none, PNF, false⟩
def an10 : AnnG := (.seq .leaf (.seq .leaf .leaf))
def F10 (o0 : Int) (o1 : Int) (o2 : Int) (o3 : Int) (o4 : Int) (o5 : ByteArray) (o6a : Option Addr) (o6l : Nat) (o6c : Nat) (o7a : Option Addr) (o7l : Nat) (o7c : Nat) (o8a : Option Addr) (o8l : Nat) (o8c : Nat) (g : G) (R : Value → G → Prop) : Prop :=
  ∀ g1 : G, Ex g g1 →
  (CallsP Tryz.prog 11 #[(.agg ⟨[(.int .i64 o0), (.int .i64 o1), (.int .i64 o2), (.int .i64 o3), (.int .i64 o4), (.string o5), (.slice o6a o6l o6c), (.slice o7a o7l o7c), (.slice o8a o8l o8c)]⟩), (.agg ⟨[(.int .i64 (0 : Int)), (.int .i64 (0 : Int)), (.int .i64 (0 : Int)), (.int .i64 (0 : Int)), (.int .i64 (0 : Int)), (.string (bs [])), (.slice none 0 0), (.slice none 0 0), (.slice none 0 0)]⟩)] g1 fun v g2 =>
  ∃ x : Bool, v = (.bool x) ∧ ∀ g3 : G, Ex g2 g3 →
  R (.bool x) g3)
theorem F10_eq (o0 : Int) (o1 : Int) (o2 : Int) (o3 : Int) (o4 : Int) (o5 : ByteArray) (o6a : Option Addr) (o6l : Nat) (o6c : Nat) (o7a : Option Addr) (o7l : Nat) (o7c : Nat) (o8a : Option Addr) (o8l : Nat) (o8c : Nat) (g : G) (R : Value → G → Prop) : fnG cfg10 6 [.tmp 2] c10 an10 [(.agg ⟨[(.int .i64 o0), (.int .i64 o1), (.int .i64 o2), (.int .i64 o3), (.int .i64 o4), (.string o5), (.slice o6a o6l o6c), (.slice o7a o7l o7c), (.slice o8a o8l o8c)]⟩)] g nobody R = F10 o0 o1 o2 o3 o4 o5 o6a o6l o6c o7a o7l o7c o8a o8l o8c g R := by kernel_rfl
theorem call10 (o0 : Int) (o1 : Int) (o2 : Int) (o3 : Int) (o4 : Int) (o5 : ByteArray) (o6a : Option Addr) (o6l : Nat) (o6c : Nat) (o7a : Option Addr) (o7l : Nat) (o7c : Nat) (o8a : Option Addr) (o8l : Nat) (o8c : Nat) (g : G) (R : Value → G → Prop) (hF : F10 o0 o1 o2 o3 o4 o5 o6a o6l o6c o7a o7l o7c o8a o8l o8c g R) : CallsG Tryz.prog 10 #[(.agg ⟨[(.int .i64 o0), (.int .i64 o1), (.int .i64 o2), (.int .i64 o3), (.int .i64 o4), (.string o5), (.slice o6a o6l o6c), (.slice o7a o7l o7c), (.slice o8a o8l o8c)]⟩)] g nobody R :=
  fn_soundG (c := cfg10) TTok FNSok mixed Tryz.func10 (show Tryz.f10.body = some c10 by kernel_rfl) (show Tryz.f10.ntmps = 6 by kernel_rfl) (show Tryz.f10.results.toList = [.tmp 2] by kernel_rfl) rfl ((F10_eq o0 o1 o2 o3 o4 o5 o6a o6l o6c o7a o7l o7c o8a o8l o8c g R ).mpr hF)

/- 11 pilaster/pilasterref44.SameOutcome -/
noncomputable def c11 : Code := match Tryz.f11.body with
  | some c => c
  | none => .skip
noncomputable def cfg11 : Cfg := ⟨Tryz.prog, TT, FNS, [2, 3], [(2, 2), (3, 3), (9, 2), (11, 3)], [], TCH, false, false, none, PNF, false⟩
def an11 : AnnG := (.seq .leaf (.seq .leaf .leaf))
def F11 (a0 : Int) (a1 : Int) (a2 : Int) (a3 : Int) (a4 : Int) (a5 : ByteArray) (a6a : Option Addr) (a6l : Nat) (a6c : Nat) (a7a : Option Addr) (a7l : Nat) (a7c : Nat) (a8a : Option Addr) (a8l : Nat) (a8c : Nat) (b0 : Int) (b1 : Int) (b2 : Int) (b3 : Int) (b4 : Int) (b5 : ByteArray) (b6a : Option Addr) (b6l : Nat) (b6c : Nat) (b7a : Option Addr) (b7l : Nat) (b7c : Nat) (b8a : Option Addr) (b8l : Nat) (b8c : Nat) (g : G) (R : Value → G → Prop) : Prop :=
  ∀ g1 : G, Ex g g1 →
  (CallsP Tryz.prog 20 #[(.agg ⟨[(.int .i64 a0), (.int .i64 a1), (.int .i64 a2), (.int .i64 a3), (.int .i64 a4), (.string a5), (.slice a6a a6l a6c), (.slice a7a a7l a7c), (.slice a8a a8l a8c)]⟩), (.agg ⟨[(.int .i64 b0), (.int .i64 b1), (.int .i64 b2), (.int .i64 b3), (.int .i64 b4), (.string b5), (.slice b6a b6l b6c), (.slice b7a b7l b7c), (.slice b8a b8l b8c)]⟩)] g1 fun v g2 =>
  ∃ x : Bool, v = (.bool x) ∧ ifB x
  (∀ g3 : G, Ex g2 g3 →
  R (.bool (eqI a2 b2)) g3)
  (∀ g4 : G, Ex g2 g4 →
  R (.bool false) g4))
theorem F11_eq (a0 : Int) (a1 : Int) (a2 : Int) (a3 : Int) (a4 : Int) (a5 : ByteArray) (a6a : Option Addr) (a6l : Nat) (a6c : Nat) (a7a : Option Addr) (a7l : Nat) (a7c : Nat) (a8a : Option Addr) (a8l : Nat) (a8c : Nat) (b0 : Int) (b1 : Int) (b2 : Int) (b3 : Int) (b4 : Int) (b5 : ByteArray) (b6a : Option Addr) (b6l : Nat) (b6c : Nat) (b7a : Option Addr) (b7l : Nat) (b7c : Nat) (b8a : Option Addr) (b8l : Nat) (b8c : Nat) (g : G) (R : Value → G → Prop) : fnG cfg11 15 [.tmp 4] c11 an11 [(.agg ⟨[(.int .i64 a0), (.int .i64 a1), (.int .i64 a2), (.int .i64 a3), (.int .i64 a4), (.string a5), (.slice a6a a6l a6c), (.slice a7a a7l a7c), (.slice a8a a8l a8c)]⟩), (.agg ⟨[(.int .i64 b0), (.int .i64 b1), (.int .i64 b2), (.int .i64 b3), (.int .i64 b4), (.string b5), (.slice b6a b6l b6c), (.slice b7a b7l b7c), (.slice b8a b8l b8c)]⟩)] g nobody R = F11 a0 a1 a2 a3 a4 a5 a6a a6l a6c a7a a7l a7c a8a a8l a8c b0 b1 b2 b3 b4 b5 b6a b6l b6c b7a b7l b7c b8a b8l b8c g R := by kernel_rfl
theorem call11 (a0 : Int) (a1 : Int) (a2 : Int) (a3 : Int) (a4 : Int) (a5 : ByteArray) (a6a : Option Addr) (a6l : Nat) (a6c : Nat) (a7a : Option Addr) (a7l : Nat) (a7c : Nat) (a8a : Option Addr) (a8l : Nat) (a8c : Nat) (b0 : Int) (b1 : Int) (b2 : Int) (b3 : Int) (b4 : Int) (b5 : ByteArray) (b6a : Option Addr) (b6l : Nat) (b6c : Nat) (b7a : Option Addr) (b7l : Nat) (b7c : Nat) (b8a : Option Addr) (b8l : Nat) (b8c : Nat) (g : G) (R : Value → G → Prop) (hF : F11 a0 a1 a2 a3 a4 a5 a6a a6l a6c a7a a7l a7c a8a a8l a8c b0 b1 b2 b3 b4 b5 b6a b6l b6c b7a b7l b7c b8a b8l b8c g R) : CallsG Tryz.prog 11 #[(.agg ⟨[(.int .i64 a0), (.int .i64 a1), (.int .i64 a2), (.int .i64 a3), (.int .i64 a4), (.string a5), (.slice a6a a6l a6c), (.slice a7a a7l a7c), (.slice a8a a8l a8c)]⟩), (.agg ⟨[(.int .i64 b0), (.int .i64 b1), (.int .i64 b2), (.int .i64 b3), (.int .i64 b4), (.string b5), (.slice b6a b6l b6c), (.slice b7a b7l b7c), (.slice b8a b8l b8c)]⟩)] g nobody R :=
  fn_soundG (c := cfg11) TTok FNSok mixed Tryz.func11 (show Tryz.f11.body = some c11 by kernel_rfl) (show Tryz.f11.ntmps = 15 by kernel_rfl) (show Tryz.f11.results.toList = [.tmp 4] by kernel_rfl) rfl ((F11_eq a0 a1 a2 a3 a4 a5 a6a a6l a6c a7a a7l a7c a8a a8l a8c b0 b1 b2 b3 b4 b5 b6a b6l b6c b7a b7l b7c b8a b8l b8c g R ).mpr hF)

/- 12 pilaster/pilasterref45.Run -/
noncomputable def c12 : Code := match Tryz.f12.body with
  | some c => c
  | none => .skip
noncomputable def cfg12 : Cfg := ⟨Tryz.prog, TT, FNS, [6, 7, 8, 9, 10], [(6, 6), (7, 7), (8, 8), (9, 9), (10, 10), (28, 8), (30, 8), (32, 8), (34, 8), (37, 8), (48, 9), (49, 9), (51, 9), (53, 9)], [], TCH, false, false, none, PNF, false⟩
def an12 : AnnG := (.seq .leaf (.seq .leaf (.seq .leaf (.seq (.seq .leaf (.cond (.seq .leaf .leaf) .leaf)) (.seq .leaf (.seq (.seq .leaf (.cond (.seq .leaf (.seq .leaf (.seq .leaf .leaf))) .leaf)) (.seq .leaf (.seq .leaf (.seq .leaf .leaf)))))))))
def F12 (la : Option Addr) (ll : Nat) (lc : Nat) (main : Int) (fuel : Int) (g : G) (R : Value → G → Prop) : Prop :=
  (0 ≤ main ∧ main < ((ll : Nat) : Int)) ∧ derefP la fun ad => ∀ g1 : G, Ex g g1 →
  ∃ x0 : Int, ∃ x1 : Int, ∃ x2 : ByteArray, ∃ x3a : Option Addr, ∃ x3l : Nat, ∃ x3c : Nat, g1.w.cell? (Addr.add (Addr.add ad (Int.toNat main * 5)) 1) = some (.int .i64 x0) ∧ g1.w.cell? (Addr.add (Addr.add (Addr.add ad (Int.toNat main * 5)) 1) 1) = some (.int .i64 x1) ∧ g1.w.cell? (Addr.add (Addr.add (Addr.add ad (Int.toNat main * 5)) 1) 2) = some (.string x2) ∧ g1.w.cell? (Addr.add (Addr.add (Addr.add ad (Int.toNat main * 5)) 1) 3) = some (.slice x3a x3l x3c) ∧ ∀ g2 : G, NewL g1 g2 77 [(.int .i64 (3 : Int)), (.int .i64 (0 : Int)), (.string (bs [])), (.slice none 0 0)] →
  (CallsP Tryz.prog 31 #[(.agg ⟨[(.int .i64 x0), (.int .i64 x1), (.string x2), (.slice x3a x3l x3c)]⟩), (.agg ⟨[(.int .i64 (7 : Int)), (.int .i64 main), (.string (bs [])), (.slice none 0 0)]⟩), (.slice (some ⟨g1.w.heap.size, 0, none⟩) 1 1), (.slice la ll lc), (.agg ⟨[(.int .i64 (0 : Int)), (.int .i64 (0 : Int)), (.int .i64 (0 : Int)), (.int .i64 fuel), (.slice none 0 0)]⟩)] g2 fun v g3 =>
  ∃ x00 : Int, ∃ x01 : Int, ∃ x02 : ByteArray, ∃ x03a : Option Addr, ∃ x03l : Nat, ∃ x03c : Nat, ∃ x10 : Int, ∃ x11 : Int, ∃ x12 : Int, ∃ x13 : Int, ∃ x14a : Option Addr, ∃ x14l : Nat, ∃ x14c : Nat, v = (.tuple ⟨[(.agg ⟨[(.int .i64 x00), (.int .i64 x01), (.string x02), (.slice x03a x03l x03c)]⟩), (.agg ⟨[(.int .i64 x10), (.int .i64 x11), (.int .i64 x12), (.int .i64 x13), (.slice x14a x14l x14c)]⟩)]⟩) ∧ ∀ g4 : G, Ex g3 g4 →
  ifB (!eqI x10 (0 : Int))
  (∀ g5 : G, Ex g4 g5 →
  R (.agg ⟨[(.int .i64 x10), (.int .i64 x11), (.int .i64 x12), (.int .i64 (0 : Int)), (.int .i64 (0 : Int)), (.string (bs [])), (.slice none 0 0), (.slice none 0 0), (.slice x14a x14l x14c)]⟩) g5)
  (∀ g6 : G, Ex g4 g6 →
  (CallsP Tryz.prog 32 #[(.agg ⟨[(.int .i64 x00), (.int .i64 x01), (.string x02), (.slice x03a x03l x03c)]⟩), (.int .i64 (20000 : Int)), (.int .i64 (1 : Int))] g6 fun v g7 =>
  ∃ x00_1 : Int, ∃ x01_1 : Int, ∃ x02_1 : ByteArray, ∃ x03a_1 : Option Addr, ∃ x03l_1 : Nat, ∃ x03c_1 : Nat, ∃ x04a : Option Addr, ∃ x04l : Nat, ∃ x04c : Nat, ∃ x1_1 : Int, v = (.tuple ⟨[(.agg ⟨[(.int .i64 x00_1), (.int .i64 x01_1), (.string x02_1), (.slice x03a_1 x03l_1 x03c_1), (.slice x04a x04l x04c)]⟩), (.int .i64 x1_1)]⟩) ∧ ifB (ltI x1_1 (0 : Int))
  (∀ g8 : G, Ex g7 g8 →
  R (.agg ⟨[(.int .i64 (2 : Int)), (.int .i64 (2 : Int)), (.int .i64 x12), (.int .i64 (0 : Int)), (.int .i64 (0 : Int)), (.string (bs [])), (.slice none 0 0), (.slice none 0 0), (.slice x14a x14l x14c)]⟩) g8)
  (∀ g9 : G, Ex g7 g9 →
  R (.agg ⟨[(.int .i64 (1 : Int)), (.int .i64 x11), (.int .i64 x12), (.int .i64 x00_1), (.int .i64 x01_1), (.string x02_1), (.slice x03a_1 x03l_1 x03c_1), (.slice x04a x04l x04c), (.slice x14a x14l x14c)]⟩) g9))))
theorem F12_eq (la : Option Addr) (ll : Nat) (lc : Nat) (main : Int) (fuel : Int) (g : G) (R : Value → G → Prop) : fnG cfg12 55 [.cell 6 30] c12 an12 [(.slice la ll lc), (.int .i64 main), (.int .i64 fuel)] g nobody R = F12 la ll lc main fuel g R := by kernel_rfl
theorem call12 (la : Option Addr) (ll : Nat) (lc : Nat) (main : Int) (fuel : Int) (g : G) (R : Value → G → Prop) (hF : F12 la ll lc main fuel g R) : CallsG Tryz.prog 12 #[(.slice la ll lc), (.int .i64 main), (.int .i64 fuel)] g nobody R :=
  fn_soundG (c := cfg12) TTok FNSok mixed Tryz.func12 (show Tryz.f12.body = some c12 by kernel_rfl) (show Tryz.f12.ntmps = 55 by kernel_rfl) (show Tryz.f12.results.toList = [.cell 6 30] by kernel_rfl) rfl ((F12_eq la ll lc main fuel g R ).mpr hF)

/- 13 pilaster/pilasterlaw45.prefix -/
noncomputable def c13 : Code := match Tryz.f13.body with
  | some c => c
  | none => .skip
noncomputable def cfg13 : Cfg := ⟨Tryz.prog, TT, FNS, [], [], [], TCH, false, false, none, PNF, false⟩
def an13 : AnnG := (.seq .leaf (.seq .leaf .leaf))
def F13 (aa : Option Addr) (al : Nat) (ac : Nat) (ba : Option Addr) (bl : Nat) (bc : Nat) (g : G) (R : Value → G → Prop) : Prop :=
  ifB (leI ((al : Nat) : Int) ((bl : Nat) : Int))
  ((0 ≤ ((al : Nat) : Int) ∧ ((al : Nat) : Int) ≤ ((bc : Nat) : Int)) ∧ (CallsP Tryz.prog 33 #[(.slice aa al ac), (.slice (slAddr ba bc 0 1) ((Int.toNat ((al : Nat) : Int)) - 0) (bc - 0))] g fun v g1 =>
  ∃ x : Bool, v = (.bool x) ∧ ∀ g2 : G, Ex g1 g2 →
  R (.bool x) g2))
  (∀ g3 : G, Ex g g3 →
  R (.bool false) g3)
theorem F13_eq (aa : Option Addr) (al : Nat) (ac : Nat) (ba : Option Addr) (bl : Nat) (bc : Nat) (g : G) (R : Value → G → Prop) : fnG cfg13 18 [.tmp 4] c13 an13 [(.slice aa al ac), (.slice ba bl bc)] g nobody R = F13 aa al ac ba bl bc g R := by kernel_rfl
theorem call13 (aa : Option Addr) (al : Nat) (ac : Nat) (ba : Option Addr) (bl : Nat) (bc : Nat) (g : G) (R : Value → G → Prop) (hF : F13 aa al ac ba bl bc g R) : CallsG Tryz.prog 13 #[(.slice aa al ac), (.slice ba bl bc)] g nobody R :=
  fn_soundG (c := cfg13) TTok FNSok mixed Tryz.func13 (show Tryz.f13.body = some c13 by kernel_rfl) (show Tryz.f13.ntmps = 18 by kernel_rfl) (show Tryz.f13.results.toList = [.tmp 4] by kernel_rfl) rfl ((F13_eq aa al ac ba bl bc g R ).mpr hF)

/- 14 pilaster/pilasterlaw45.nodes -/
noncomputable def c14 : Code := match Tryz.f14.body with
  | some c => c
  | none => .skip
noncomputable def cfg14 : Cfg := ⟨Tryz.prog, TT, FNS, [3, 9], [(3, 3), (9, 9), (13, 3), (18, 3), (25, 3), (31, 3)], [], TCH, false, false, none, PNF, false⟩
def an14 : AnnG := (.seq .leaf (.join ⟨[], [], []⟩ (.seq .leaf (.cond (.seq .leaf .leaf) .leaf)) (.seq .leaf (.seq (.seq .leaf (.blk (.loop ⟨[(7, .int .i64), (34, .int .i64)], [], []⟩ (.seq .leaf (.seq (.cond .leaf .leaf) (.seq (.blk (.seq .leaf (.seq (.seq .leaf (.cond (.seq .leaf .leaf) .leaf)) .leaf))) .leaf)))))) (.seq .leaf .leaf)))))
def F14 (x0 : Int) (x1 : Int) (x2 : ByteArray) (x3a : Option Addr) (x3l : Nat) (x3c : Nat) (most : Int) (depth : Int) (g : G) (R : Value → G → Prop) : Prop :=
  ∀ J : G → Prop,
  (∀ g1 : G, (∃ Inv : Nat → Int → Int → G → Prop, ((∃ m0 : Nat, Inv m0 (1 : Int) (0 : Int) g1)) ∧
  ∀ m : Nat, ∀ n : Int, ∀ v_1 : Int, ∀ g2 : G, Le g1 g2 → Inv m n v_1 g2 →
  ifB (ltI v_1 ((x3l : Nat) : Int))
  ((0 ≤ v_1 ∧ v_1 < ((x3l : Nat) : Int)) ∧ derefP x3a fun ad => ∃ x0_1 : Int, ∃ x1_1 : Int, ∃ x2_1 : ByteArray, ∃ x3a_1 : Option Addr, ∃ x3l_1 : Nat, ∃ x3c_1 : Nat, g2.w.cell? (Addr.add ad (Int.toNat v_1 * 4)) = some (.int .i64 x0_1) ∧ g2.w.cell? (Addr.add (Addr.add ad (Int.toNat v_1 * 4)) 1) = some (.int .i64 x1_1) ∧ g2.w.cell? (Addr.add (Addr.add ad (Int.toNat v_1 * 4)) 2) = some (.string x2_1) ∧ g2.w.cell? (Addr.add (Addr.add ad (Int.toNat v_1 * 4)) 3) = some (.slice x3a_1 x3l_1 x3c_1) ∧ ifB (leI most n)
  (∀ g3 : G, Ex g2 g3 →
  R (.int .i64 most) g3)
  (InI64 (most - n) ∧ InI64 (depth + (1 : Int)) ∧ ∀ g4 : G, Ex g2 g4 →
  (CallsP Tryz.prog 14 #[(.agg ⟨[(.int .i64 x0_1), (.int .i64 x1_1), (.string x2_1), (.slice x3a_1 x3l_1 x3c_1)]⟩), (.int .i64 (most - n)), (.int .i64 (depth + (1 : Int)))] g4 fun v g5 =>
  ∃ x : Int, v = (.int .i64 x) ∧ InI64 (n + x) ∧ InI64 (v_1 + (1 : Int)) ∧ (∃ m_1 : Nat, m_1 < m ∧ Inv m_1 (n + x) (v_1 + (1 : Int)) g5))))
  (∀ g6 : G, Ex g2 g6 →
  R (.int .i64 (minI n most)) g6)) → J g1) →
  ifB (ltI (250 : Int) depth)
  (∀ g7 : G, Ex g g7 →
  R (.int .i64 most) g7)
  (ifB (ltI (300 : Int) ((x2.size : Nat) : Int))
  (ifB (leI ((x2.size : Nat) : Int) (16384 : Int))
  (∀ g8 : G, Ex g g8 →
  R (.int .i64 most) g8)
  (ifB (ltI (16484 : Int) ((x2.size : Nat) : Int))
  (∀ g9 : G, Ex g g9 →
  R (.int .i64 most) g9)
  (∀ g10 : G, Ex g g10 →
  J g10)))
  (ifB (ltI (16484 : Int) ((x2.size : Nat) : Int))
  (∀ g11 : G, Ex g g11 →
  R (.int .i64 most) g11)
  (∀ g12 : G, Ex g g12 →
  J g12)))
theorem F14_eq (x0 : Int) (x1 : Int) (x2 : ByteArray) (x3a : Option Addr) (x3l : Nat) (x3c : Nat) (most : Int) (depth : Int) (g : G) (R : Value → G → Prop) : fnG cfg14 55 [.tmp 6] c14 an14 [(.agg ⟨[(.int .i64 x0), (.int .i64 x1), (.string x2), (.slice x3a x3l x3c)]⟩), (.int .i64 most), (.int .i64 depth)] g nobody R = F14 x0 x1 x2 x3a x3l x3c most depth g R := by kernel_rfl
theorem call14 (x0 : Int) (x1 : Int) (x2 : ByteArray) (x3a : Option Addr) (x3l : Nat) (x3c : Nat) (most : Int) (depth : Int) (g : G) (R : Value → G → Prop) (hF : F14 x0 x1 x2 x3a x3l x3c most depth g R) : CallsG Tryz.prog 14 #[(.agg ⟨[(.int .i64 x0), (.int .i64 x1), (.string x2), (.slice x3a x3l x3c)]⟩), (.int .i64 most), (.int .i64 depth)] g nobody R :=
  fn_soundG (c := cfg14) TTok FNSok mixed Tryz.func14 (show Tryz.f14.body = some c14 by kernel_rfl) (show Tryz.f14.ntmps = 55 by kernel_rfl) (show Tryz.f14.results.toList = [.tmp 6] by kernel_rfl) rfl ((F14_eq x0 x1 x2 x3a x3l x3c most depth g R ).mpr hF)

/- 15 pilaster/pilasterref44.Valid -/
/- 16 pilaster/pilasterref44.Free -/
/- 17 pilaster/closure.Convert -/
noncomputable def c17 : Code := match Tryz.f17.body with
  | some c => c
  | none => .skip
noncomputable def cfg17 : Cfg := ⟨Tryz.prog, TT, FNS, [1, 8], [(1, 1), (8, 8)], [22], TCH, false, false, none, PNF, false⟩
def an17 : AnnG := (.seq .leaf (.seq .leaf (.join ⟨[], [], []⟩ (.seq .leaf (.cond (.seq .leaf .leaf) .leaf)) (.seq .leaf (.seq .leaf (.join ⟨[], [], []⟩ (.seq .leaf (.cond (.seq .leaf .leaf) .leaf)) (.seq (.tree 5 (.quiet 0 (.quiet 1 (.quiet 2 (.quiet 3 (.quiet 4 .fin)))))) (.seq (.seq .leaf (.cond (.seq .leaf .leaf) .leaf)) (.seq .leaf .leaf)))))))))
def F17 (x0 : Int) (x1 : Int) (x2 : ByteArray) (x3a : Option Addr) (x3l : Nat) (x3c : Nat) (g : G) (R : Value → G → Prop) : Prop :=
  ∀ g1 : G, Ex g g1 →
  (CallsP Tryz.prog 36 #[(.agg ⟨[(.int .i64 x0), (.int .i64 x1), (.string x2), (.slice x3a x3l x3c)]⟩)] g1 fun v g2 =>
  ∃ x0a : Option Addr, ∃ x0l : Nat, ∃ x0c : Nat, ∃ x1_1 : Int, v = (.tuple ⟨[(.slice x0a x0l x0c), (.int .i64 x1_1)]⟩) ∧ ∀ J : G → Prop,
  (∀ g3 : G, (∀ g4 : G, NewD g3 g4 55 [(.int .i64 (0 : Int)), (.int .i64 (0 : Int)), (.int .i64 (0 : Int)), (.string (bs [])), (.slice none 0 0)] →
  ∀ g5 : G, NewD g4 g5 89 ([(.slice (some ⟨g3.w.heap.size, 0, none⟩) 1 1), (.bool false)] : List Value) →
  ∃ M1 : Nat → Prop, (∀ b, b < g.w.heap.size → M1 b → nobody b) ∧ (CallsG Tryz.prog 37 #[(.pointer (some ⟨g4.w.heap.size, 0, none⟩)), (.agg ⟨[(.int .i64 x0), (.int .i64 x1), (.string x2), (.slice x3a x3l x3c)]⟩), (.agg ⟨[(.slice none 0 0), (.int .i64 (1 : Int))]⟩)] g5 M1 fun v g6 =>
  ∃ x0_1 : Int, ∃ x1_2 : Int, ∃ x2_1 : ByteArray, ∃ x3a_1 : Option Addr, ∃ x3l_1 : Nat, ∃ x3c_1 : Nat, v = (.agg ⟨[(.int .i64 x0_1), (.int .i64 x1_2), (.string x2_1), (.slice x3a_1 x3l_1 x3c_1)]⟩) ∧ ∀ J_1 : G → Prop,
  (∀ g7 : G, (∀ g8 : G, Ex g7 g8 →
  ∃ xa : Option Addr, ∃ xl : Nat, ∃ xc : Nat, g8.w.cell? ⟨g4.w.heap.size, 0, none⟩ = some (.slice xa xl xc) ∧ (0 ≤ (0 : Int) ∧ (0 : Int) < ((xl : Nat) : Int)) ∧ derefP xa fun ad => stOk g8.w (Addr.add (Addr.add ad (Int.toNat (0 : Int) * 5)) 1) 4 ∧ ¬ g8.X (Addr.block (Addr.add (Addr.add ad (Int.toNat (0 : Int) * 5)) 1)) ∧ mutAt g8 (Addr.add (Addr.add ad (Int.toNat (0 : Int) * 5)) 1) 4 ∧ ((Addr.block (Addr.add (Addr.add ad (Int.toNat (0 : Int) * 5)) 1)) < g.w.heap.size → nobody (Addr.block (Addr.add (Addr.add ad (Int.toNat (0 : Int) * 5)) 1))) ∧ ∀ g9 : G, StG false g8 (Addr.add (Addr.add ad (Int.toNat (0 : Int) * 5)) 1) [(.int .i64 x0_1), (.int .i64 x1_2), (.string x2_1), (.slice x3a_1 x3l_1 x3c_1)] g9 →
  ∃ xa_1 : Option Addr, ∃ xl_1 : Nat, ∃ xc_1 : Nat, g9.w.cell? ⟨g4.w.heap.size, 0, none⟩ = some (.slice xa_1 xl_1 xc_1) ∧ (CallsP Tryz.prog 38 #[(.slice xa_1 xl_1 xc_1), (.func (.func 39) #[] #[])] g9 fun v g10 =>
  ∃ x : Bool, v = (.bool x) ∧ ifB x
  (∀ g11 : G, Ex g10 g11 →
  R (.tuple ⟨[(.slice none 0 0), (.int .i64 (0 : Int)), (.int .i64 (5 : Int))]⟩) g11)
  (∃ xa_2 : Option Addr, ∃ xl_2 : Nat, ∃ xc_2 : Nat, g10.w.cell? ⟨g4.w.heap.size, 0, none⟩ = some (.slice xa_2 xl_2 xc_2) ∧ ∀ g12 : G, Ex g10 g12 →
  R (.tuple ⟨[(.slice xa_2 xl_2 xc_2), (.int .i64 (0 : Int)), (.int .i64 (0 : Int))]⟩) g12))) → J_1 g7) →
  ∀ g13 : G, Ex g6 g13 →
  ∃ x_1 : Bool, g13.w.cell? (Addr.add ⟨g4.w.heap.size, 0, none⟩ 1) = some (.bool x_1) ∧ ifB x_1
  (∀ g14 : G, Ex g13 g14 →
  R (.tuple ⟨[(.slice none 0 0), (.int .i64 (0 : Int)), (.int .i64 (5 : Int))]⟩) g14)
  (∃ xa_3 : Option Addr, ∃ xl_3 : Nat, ∃ xc_3 : Nat, g13.w.cell? ⟨g4.w.heap.size, 0, none⟩ = some (.slice xa_3 xl_3 xc_3) ∧ ifB (ltI (4096 : Int) ((xl_3 : Nat) : Int))
  (∀ g15 : G, Ex g13 g15 →
  R (.tuple ⟨[(.slice none 0 0), (.int .i64 (0 : Int)), (.int .i64 (5 : Int))]⟩) g15)
  (J_1 g13)))) → J g3) →
  ifB (!eqI x1_1 (0 : Int))
  (∀ g16 : G, Ex g2 g16 →
  R (.tuple ⟨[(.slice none 0 0), (.int .i64 (0 : Int)), (.int .i64 (1 : Int))]⟩) g16)
  (ifB (ltI (0 : Int) ((x0l : Nat) : Int))
  (∀ g17 : G, Ex g2 g17 →
  R (.tuple ⟨[(.slice none 0 0), (.int .i64 (0 : Int)), (.int .i64 (1 : Int))]⟩) g17)
  (J g2)))
theorem F17_eq (x0 : Int) (x1 : Int) (x2 : ByteArray) (x3a : Option Addr) (x3l : Nat) (x3c : Nat) (g : G) (R : Value → G → Prop) : fnG cfg17 57 [.tmp 2, .tmp 3, .tmp 4] c17 an17 [(.agg ⟨[(.int .i64 x0), (.int .i64 x1), (.string x2), (.slice x3a x3l x3c)]⟩)] g nobody R = F17 x0 x1 x2 x3a x3l x3c g R := by kernel_rfl
theorem call17 (x0 : Int) (x1 : Int) (x2 : ByteArray) (x3a : Option Addr) (x3l : Nat) (x3c : Nat) (g : G) (R : Value → G → Prop) (hF : F17 x0 x1 x2 x3a x3l x3c g R) : CallsG Tryz.prog 17 #[(.agg ⟨[(.int .i64 x0), (.int .i64 x1), (.string x2), (.slice x3a x3l x3c)]⟩)] g nobody R :=
  fn_soundG (c := cfg17) TTok FNSok mixed Tryz.func17 (show Tryz.f17.body = some c17 by kernel_rfl) (show Tryz.f17.ntmps = 57 by kernel_rfl) (show Tryz.f17.results.toList = [.tmp 2, .tmp 3, .tmp 4] by kernel_rfl) rfl ((F17_eq x0 x1 x2 x3a x3l x3c g R ).mpr hF)

/- 18 pilaster/closure.Valid -/
noncomputable def c18 : Code := match Tryz.f18.body with
  | some c => c
  | none => .skip
noncomputable def cfg18 : Cfg := ⟨Tryz.prog, TT, FNS, [], [], [2], TCH, false, false, none, PNF, false⟩
def an18 : AnnG := (.seq .leaf (.join ⟨[], [], []⟩ (.seq .leaf (.cond (.seq .leaf .leaf) .leaf)) (.seq .leaf .leaf)))
def F18 (la : Option Addr) (ll : Nat) (lc : Nat) (main : Int) (g : G) (R : Value → G → Prop) : Prop :=
  ∀ g1 : G, NewL g g1 22 ([(.slice la ll lc)] : List Value) →
  ∀ J : G → Prop,
  (∀ g2 : G, (∃ la_1 : Option Addr, ∃ ll_1 : Nat, ∃ lc_1 : Nat, g2.w.cell? ⟨g.w.heap.size, 0, none⟩ = some (.slice la_1 ll_1 lc_1) ∧ (CallsP Tryz.prog 38 #[(.slice la_1 ll_1 lc_1), (.func (.func 42) #[] ⟨[(.pointer (some ⟨g.w.heap.size, 0, none⟩))]⟩)] g2 fun v g3 =>
  ∃ x : Bool, v = (.bool x) ∧ ∀ g4 : G, Ex g3 g4 →
  R (.bool (!x)) g4)) → J g2) →
  ∃ la_2 : Option Addr, ∃ ll_2 : Nat, ∃ lc_2 : Nat, g1.w.cell? ⟨g.w.heap.size, 0, none⟩ = some (.slice la_2 ll_2 lc_2) ∧ (CallsP Tryz.prog 41 #[(.int .i64 ((ll_2 : Nat) : Int)), (.int .i64 (1 : Int)), (.int .i64 (4096 : Int))] g1 fun v g5 =>
  ∃ x_1 : Bool, v = (.bool x_1) ∧ ifB (!x_1)
  (∀ g6 : G, Ex g5 g6 →
  R (.bool false) g6)
  (∃ la_3 : Option Addr, ∃ ll_3 : Nat, ∃ lc_3 : Nat, g5.w.cell? ⟨g.w.heap.size, 0, none⟩ = some (.slice la_3 ll_3 lc_3) ∧ InI64 (((ll_3 : Nat) : Int) - (1 : Int)) ∧ (CallsP Tryz.prog 41 #[(.int .i64 main), (.int .i64 (0 : Int)), (.int .i64 (((ll_3 : Nat) : Int) - (1 : Int)))] g5 fun v g7 =>
  ∃ x_2 : Bool, v = (.bool x_2) ∧ ifB (!x_2)
  (∀ g8 : G, Ex g7 g8 →
  R (.bool false) g8)
  (∃ la_4 : Option Addr, ∃ ll_4 : Nat, ∃ lc_4 : Nat, g7.w.cell? ⟨g.w.heap.size, 0, none⟩ = some (.slice la_4 ll_4 lc_4) ∧ (0 ≤ main ∧ main < ((ll_4 : Nat) : Int)) ∧ derefP la_4 fun ad => ∃ x_3 : Int, g7.w.cell? (Addr.add ad (Int.toNat main * 5)) = some (.int .i64 x_3) ∧ ifB (!eqI x_3 (0 : Int))
  (∀ g9 : G, Ex g7 g9 →
  R (.bool false) g9)
  (J g7)))))
theorem F18_eq (la : Option Addr) (ll : Nat) (lc : Nat) (main : Int) (g : G) (R : Value → G → Prop) : fnG cfg18 29 [.tmp 4] c18 an18 [(.slice la ll lc), (.int .i64 main)] g nobody R = F18 la ll lc main g R := by kernel_rfl
theorem call18 (la : Option Addr) (ll : Nat) (lc : Nat) (main : Int) (g : G) (R : Value → G → Prop) (hF : F18 la ll lc main g R) : CallsG Tryz.prog 18 #[(.slice la ll lc), (.int .i64 main)] g nobody R :=
  fn_soundG (c := cfg18) TTok FNSok mixed Tryz.func18 (show Tryz.f18.body = some c18 by kernel_rfl) (show Tryz.f18.ntmps = 29 by kernel_rfl) (show Tryz.f18.results.toList = [.tmp 4] by kernel_rfl) rfl ((F18_eq la ll lc main g R ).mpr hF)

/- 20 pilaster/pilasterref44.SameEnd -/
noncomputable def c20 : Code := match Tryz.f20.body with
  | some c => c
  | none => .skip
noncomputable def cfg20 : Cfg := ⟨Tryz.prog, TT, FNS, [2, 3], [(2, 2), (3, 3), (5, 2), (7, 3), (11, 2), (13, 3), (18, 2), (20, 3), (25, 2), (27, 3)], [], TCH, false, false, none, PNF, false⟩
def an20 : AnnG := (.seq .leaf (.seq .leaf .leaf))
def F20 (a0 : Int) (a1 : Int) (a2 : Int) (a3 : Int) (a4 : Int) (a5 : ByteArray) (a6a : Option Addr) (a6l : Nat) (a6c : Nat) (a7a : Option Addr) (a7l : Nat) (a7c : Nat) (a8a : Option Addr) (a8l : Nat) (a8c : Nat) (b0 : Int) (b1 : Int) (b2 : Int) (b3 : Int) (b4 : Int) (b5 : ByteArray) (b6a : Option Addr) (b6l : Nat) (b6c : Nat) (b7a : Option Addr) (b7l : Nat) (b7c : Nat) (b8a : Option Addr) (b8l : Nat) (b8c : Nat) (g : G) (R : Value → G → Prop) : Prop :=
  ifB (eqI a0 b0)
  (ifB (eqI a1 b1)
  (∀ g1 : G, Ex g g1 →
  (CallsP Tryz.prog 47 #[(.agg ⟨[(.int .i64 a3), (.int .i64 a4), (.string a5), (.slice a6a a6l a6c), (.slice a7a a7l a7c)]⟩), (.agg ⟨[(.int .i64 b3), (.int .i64 b4), (.string b5), (.slice b6a b6l b6c), (.slice b7a b7l b7c)]⟩)] g1 fun v g2 =>
  ∃ x : Bool, v = (.bool x) ∧ ifB x
  ((CallsP Tryz.prog 48 #[(.slice a8a a8l a8c), (.slice b8a b8l b8c)] g2 fun v g3 =>
  ∃ x_1 : Bool, v = (.bool x_1) ∧ ∀ g4 : G, Ex g3 g4 →
  R (.bool x_1) g4))
  (∀ g5 : G, Ex g2 g5 →
  R (.bool false) g5)))
  (∀ g6 : G, Ex g g6 →
  R (.bool false) g6))
  (∀ g7 : G, Ex g g7 →
  R (.bool false) g7)
theorem F20_eq (a0 : Int) (a1 : Int) (a2 : Int) (a3 : Int) (a4 : Int) (a5 : ByteArray) (a6a : Option Addr) (a6l : Nat) (a6c : Nat) (a7a : Option Addr) (a7l : Nat) (a7c : Nat) (a8a : Option Addr) (a8l : Nat) (a8c : Nat) (b0 : Int) (b1 : Int) (b2 : Int) (b3 : Int) (b4 : Int) (b5 : ByteArray) (b6a : Option Addr) (b6l : Nat) (b6c : Nat) (b7a : Option Addr) (b7l : Nat) (b7c : Nat) (b8a : Option Addr) (b8l : Nat) (b8c : Nat) (g : G) (R : Value → G → Prop) : fnG cfg20 31 [.tmp 4] c20 an20 [(.agg ⟨[(.int .i64 a0), (.int .i64 a1), (.int .i64 a2), (.int .i64 a3), (.int .i64 a4), (.string a5), (.slice a6a a6l a6c), (.slice a7a a7l a7c), (.slice a8a a8l a8c)]⟩), (.agg ⟨[(.int .i64 b0), (.int .i64 b1), (.int .i64 b2), (.int .i64 b3), (.int .i64 b4), (.string b5), (.slice b6a b6l b6c), (.slice b7a b7l b7c), (.slice b8a b8l b8c)]⟩)] g nobody R = F20 a0 a1 a2 a3 a4 a5 a6a a6l a6c a7a a7l a7c a8a a8l a8c b0 b1 b2 b3 b4 b5 b6a b6l b6c b7a b7l b7c b8a b8l b8c g R := by kernel_rfl
theorem call20 (a0 : Int) (a1 : Int) (a2 : Int) (a3 : Int) (a4 : Int) (a5 : ByteArray) (a6a : Option Addr) (a6l : Nat) (a6c : Nat) (a7a : Option Addr) (a7l : Nat) (a7c : Nat) (a8a : Option Addr) (a8l : Nat) (a8c : Nat) (b0 : Int) (b1 : Int) (b2 : Int) (b3 : Int) (b4 : Int) (b5 : ByteArray) (b6a : Option Addr) (b6l : Nat) (b6c : Nat) (b7a : Option Addr) (b7l : Nat) (b7c : Nat) (b8a : Option Addr) (b8l : Nat) (b8c : Nat) (g : G) (R : Value → G → Prop) (hF : F20 a0 a1 a2 a3 a4 a5 a6a a6l a6c a7a a7l a7c a8a a8l a8c b0 b1 b2 b3 b4 b5 b6a b6l b6c b7a b7l b7c b8a b8l b8c g R) : CallsG Tryz.prog 20 #[(.agg ⟨[(.int .i64 a0), (.int .i64 a1), (.int .i64 a2), (.int .i64 a3), (.int .i64 a4), (.string a5), (.slice a6a a6l a6c), (.slice a7a a7l a7c), (.slice a8a a8l a8c)]⟩), (.agg ⟨[(.int .i64 b0), (.int .i64 b1), (.int .i64 b2), (.int .i64 b3), (.int .i64 b4), (.string b5), (.slice b6a b6l b6c), (.slice b7a b7l b7c), (.slice b8a b8l b8c)]⟩)] g nobody R :=
  fn_soundG (c := cfg20) TTok FNSok mixed Tryz.func20 (show Tryz.f20.body = some c20 by kernel_rfl) (show Tryz.f20.ntmps = 31 by kernel_rfl) (show Tryz.f20.results.toList = [.tmp 4] by kernel_rfl) rfl ((F20_eq a0 a1 a2 a3 a4 a5 a6a a6l a6c a7a a7l a7c a8a a8l a8c b0 b1 b2 b3 b4 b5 b6a b6l b6c b7a b7l b7c b8a b8l b8c g R ).mpr hF)

/- 21 pilaster/pilasterlaw45.node -/
noncomputable def c21 : Code := match Tryz.f21.body with
  | some c => c
  | none => .skip
noncomputable def cfg21 : Cfg := ⟨Tryz.prog, TT, FNS, [6], [(6, 6)], [], TCH, false, false, none, PNF, false⟩
def an21 : AnnG := (.seq .leaf (.seq .leaf .leaf))
def F21 (op : Int) (n : Int) (la : Option Addr) (ll : Nat) (lc : Nat) (g : G) (R : Value → G → Prop) : Prop :=
  ∀ g1 : G, Ex g g1 →
  ∀ g2 : G, Ex g1 g2 →
  R (.agg ⟨[(.int .i64 op), (.int .i64 n), (.string (bs [])), (.slice la ll lc)]⟩) g2
theorem F21_eq (op : Int) (n : Int) (la : Option Addr) (ll : Nat) (lc : Nat) (g : G) (R : Value → G → Prop) : fnG cfg21 11 [.cell 6 44] c21 an21 [(.int .i64 op), (.int .i64 n), (.slice la ll lc)] g nobody R = F21 op n la ll lc g R := by kernel_rfl
theorem call21 (op : Int) (n : Int) (la : Option Addr) (ll : Nat) (lc : Nat) (g : G) (R : Value → G → Prop) (hF : F21 op n la ll lc g R) : CallsG Tryz.prog 21 #[(.int .i64 op), (.int .i64 n), (.slice la ll lc)] g nobody R :=
  fn_soundG (c := cfg21) TTok FNSok mixed Tryz.func21 (show Tryz.f21.body = some c21 by kernel_rfl) (show Tryz.f21.ntmps = 11 by kernel_rfl) (show Tryz.f21.results.toList = [.cell 6 44] by kernel_rfl) rfl ((F21_eq op n la ll lc g R ).mpr hF)

/- 22 pilaster/pilasterref45.Same -/
noncomputable def c22 : Code := match Tryz.f22.body with
  | some c => c
  | none => .skip
noncomputable def cfg22 : Cfg := ⟨Tryz.prog, TT, FNS, [], [], [], TCH, false, false, none, PNF, false⟩
def an22 : AnnG := (.seq .leaf (.seq (.seq .leaf (.cond (.seq .leaf .leaf) .leaf)) (.seq (.seq .leaf (.blk (.loop ⟨[(5, .int .i64)], [], []⟩ (.seq (.seq .leaf (.cond .leaf .leaf)) (.seq (.blk (.seq (.tree 22 (.quiet 0 (.quiet 1 (.quiet 2 (.quiet 3 (.quiet 4 (.quiet 5 (.quiet 6 (.quiet 7 (.quiet 8 (.quiet 9 (.quiet 10 (.quiet 11 (.quiet 12 (.quiet 13 (.quiet 14 (.quiet 15 (.quiet 16 (.quiet 17 (.quiet 18 (.quiet 19 (.quiet 20 (.quiet 21 .fin))))))))))))))))))))))) (.cond (.seq .leaf .leaf) .leaf))) .leaf))))) (.seq .leaf .leaf))))
def F22 (aa : Option Addr) (al : Nat) (ac : Nat) (ba : Option Addr) (bl : Nat) (bc : Nat) (g : G) (R : Value → G → Prop) : Prop :=
  ifB (!eqI ((al : Nat) : Int) ((bl : Nat) : Int))
  (∀ g1 : G, Ex g g1 →
  R (.bool false) g1)
  (∃ Inv : Nat → Int → G → Prop, ((∃ m0 : Nat, Inv m0 (0 : Int) g)) ∧
  ∀ m : Nat, ∀ i : Int, ∀ g2 : G, Le g g2 → Inv m i g2 →
  ifB (ltI i ((al : Nat) : Int))
  (∀ g3 : G, Ex g2 g3 →
  (0 ≤ i ∧ i < ((al : Nat) : Int)) ∧ derefP aa fun ad => ∃ x : Int, g3.w.cell? (Addr.add ad (Int.toNat i * 5)) = some (.int .i64 x) ∧ (0 ≤ i ∧ i < ((bl : Nat) : Int)) ∧ derefP ba fun ad_1 => ∃ x_1 : Int, g3.w.cell? (Addr.add ad_1 (Int.toNat i * 5)) = some (.int .i64 x_1) ∧ ifB (!eqI x x_1)
  (∀ g4 : G, Ex g3 g4 →
  R (.bool false) g4)
  ((0 ≤ i ∧ i < ((al : Nat) : Int)) ∧ derefP aa fun ad_2 => ∃ x0 : Int, ∃ x1 : Int, ∃ x2 : ByteArray, ∃ x3a : Option Addr, ∃ x3l : Nat, ∃ x3c : Nat, g3.w.cell? (Addr.add (Addr.add ad_2 (Int.toNat i * 5)) 1) = some (.int .i64 x0) ∧ g3.w.cell? (Addr.add (Addr.add (Addr.add ad_2 (Int.toNat i * 5)) 1) 1) = some (.int .i64 x1) ∧ g3.w.cell? (Addr.add (Addr.add (Addr.add ad_2 (Int.toNat i * 5)) 1) 2) = some (.string x2) ∧ g3.w.cell? (Addr.add (Addr.add (Addr.add ad_2 (Int.toNat i * 5)) 1) 3) = some (.slice x3a x3l x3c) ∧ (0 ≤ i ∧ i < ((bl : Nat) : Int)) ∧ derefP ba fun ad_3 => ∃ x0_1 : Int, ∃ x1_1 : Int, ∃ x2_1 : ByteArray, ∃ x3a_1 : Option Addr, ∃ x3l_1 : Nat, ∃ x3c_1 : Nat, g3.w.cell? (Addr.add (Addr.add ad_3 (Int.toNat i * 5)) 1) = some (.int .i64 x0_1) ∧ g3.w.cell? (Addr.add (Addr.add (Addr.add ad_3 (Int.toNat i * 5)) 1) 1) = some (.int .i64 x1_1) ∧ g3.w.cell? (Addr.add (Addr.add (Addr.add ad_3 (Int.toNat i * 5)) 1) 2) = some (.string x2_1) ∧ g3.w.cell? (Addr.add (Addr.add (Addr.add ad_3 (Int.toNat i * 5)) 1) 3) = some (.slice x3a_1 x3l_1 x3c_1) ∧ (CallsP Tryz.prog 49 #[(.agg ⟨[(.int .i64 x0), (.int .i64 x1), (.string x2), (.slice x3a x3l x3c)]⟩), (.agg ⟨[(.int .i64 x0_1), (.int .i64 x1_1), (.string x2_1), (.slice x3a_1 x3l_1 x3c_1)]⟩)] g3 fun v g5 =>
  ∃ x_2 : Bool, v = (.bool x_2) ∧ ifB (!x_2)
  (∀ g6 : G, Ex g5 g6 →
  R (.bool false) g6)
  (InI64 (i + (1 : Int)) ∧ (∃ m_1 : Nat, m_1 < m ∧ Inv m_1 (i + (1 : Int)) g5)))))
  (∀ g7 : G, Ex g2 g7 →
  R (.bool true) g7))
theorem F22_eq (aa : Option Addr) (al : Nat) (ac : Nat) (ba : Option Addr) (bl : Nat) (bc : Nat) (g : G) (R : Value → G → Prop) : fnG cfg22 42 [.tmp 4] c22 an22 [(.slice aa al ac), (.slice ba bl bc)] g nobody R = F22 aa al ac ba bl bc g R := by kernel_rfl
theorem call22 (aa : Option Addr) (al : Nat) (ac : Nat) (ba : Option Addr) (bl : Nat) (bc : Nat) (g : G) (R : Value → G → Prop) (hF : F22 aa al ac ba bl bc g R) : CallsG Tryz.prog 22 #[(.slice aa al ac), (.slice ba bl bc)] g nobody R :=
  fn_soundG (c := cfg22) TTok FNSok mixed Tryz.func22 (show Tryz.f22.body = some c22 by kernel_rfl) (show Tryz.f22.ntmps = 42 by kernel_rfl) (show Tryz.f22.results.toList = [.tmp 4] by kernel_rfl) rfl ((F22_eq aa al ac ba bl bc g R ).mpr hF)

/- 23 pilaster/pilasterlaw45.light -/
noncomputable def c23 : Code := match Tryz.f23.body with
  | some c => c
  | none => .skip
noncomputable def cfg23 : Cfg := ⟨Tryz.prog, TT, FNS, [1], [(1, 1)], [], TCH, false, false, none, PNF, false⟩
def an23 : AnnG := (.seq .leaf (.seq .leaf (.seq .leaf .leaf)))
def F23 (x0 : Int) (x1 : Int) (x2 : ByteArray) (x3a : Option Addr) (x3l : Nat) (x3c : Nat) (g : G) (R : Value → G → Prop) : Prop :=
  ∀ g1 : G, Ex g g1 →
  (CallsP Tryz.prog 14 #[(.agg ⟨[(.int .i64 x0), (.int .i64 x1), (.string x2), (.slice x3a x3l x3c)]⟩), (.int .i64 (4400 : Int)), (.int .i64 (1 : Int))] g1 fun v g2 =>
  ∃ n : Int, v = (.int .i64 n) ∧ ifB (ltI n (200 : Int))
  (∀ g3 : G, Ex g2 g3 →
  R (.bool true) g3)
  (ifB (ltI (20000 : Int) n)
  (∀ g4 : G, Ex g2 g4 →
  R (.bool (ltI n (4400 : Int))) g4)
  (∀ g5 : G, Ex g2 g5 →
  R (.bool false) g5)))
theorem F23_eq (x0 : Int) (x1 : Int) (x2 : ByteArray) (x3a : Option Addr) (x3l : Nat) (x3c : Nat) (g : G) (R : Value → G → Prop) : fnG cfg23 16 [.tmp 2] c23 an23 [(.agg ⟨[(.int .i64 x0), (.int .i64 x1), (.string x2), (.slice x3a x3l x3c)]⟩)] g nobody R = F23 x0 x1 x2 x3a x3l x3c g R := by kernel_rfl
theorem call23 (x0 : Int) (x1 : Int) (x2 : ByteArray) (x3a : Option Addr) (x3l : Nat) (x3c : Nat) (g : G) (R : Value → G → Prop) (hF : F23 x0 x1 x2 x3a x3l x3c g R) : CallsG Tryz.prog 23 #[(.agg ⟨[(.int .i64 x0), (.int .i64 x1), (.string x2), (.slice x3a x3l x3c)]⟩)] g nobody R :=
  fn_soundG (c := cfg23) TTok FNSok mixed Tryz.func23 (show Tryz.f23.body = some c23 by kernel_rfl) (show Tryz.f23.ntmps = 16 by kernel_rfl) (show Tryz.f23.results.toList = [.tmp 2] by kernel_rfl) rfl ((F23_eq x0 x1 x2 x3a x3l x3c g R ).mpr hF)

/- 28 pilaster/pilasterref45.in -/
noncomputable def c28 : Code := match Tryz.f28.body with
  | some c => c
  | none => .skip
noncomputable def cfg28 : Cfg := ⟨Tryz.prog, TT, FNS, [], [], [], TCH, false, false, none, PNF, false⟩
def an28 : AnnG := (.seq .leaf (.seq .leaf .leaf))
def F28 (n : Int) (low : Int) (high : Int) (g : G) (R : Value → G → Prop) : Prop :=
  ifB (leI low n)
  (∀ g1 : G, Ex g g1 →
  R (.bool (leI n high)) g1)
  (∀ g2 : G, Ex g g2 →
  R (.bool false) g2)
theorem F28_eq (n : Int) (low : Int) (high : Int) (g : G) (R : Value → G → Prop) : fnG cfg28 15 [.tmp 6] c28 an28 [(.int .i64 n), (.int .i64 low), (.int .i64 high)] g nobody R = F28 n low high g R := by kernel_rfl
theorem call28 (n : Int) (low : Int) (high : Int) (g : G) (R : Value → G → Prop) (hF : F28 n low high g R) : CallsG Tryz.prog 28 #[(.int .i64 n), (.int .i64 low), (.int .i64 high)] g nobody R :=
  fn_soundG (c := cfg28) TTok FNSok mixed Tryz.func28 (show Tryz.f28.body = some c28 by kernel_rfl) (show Tryz.f28.ntmps = 15 by kernel_rfl) (show Tryz.f28.results.toList = [.tmp 6] by kernel_rfl) rfl ((F28_eq n low high g R ).mpr hF)

/- 29 pilaster/pilasterref45.Function -/
noncomputable def c29 : Code := match Tryz.f29.body with
  | some c => c
  | none => .skip
noncomputable def cfg29 : Cfg := ⟨Tryz.prog, TT, FNS, [1], [(1, 1), (3, 1), (7, 1), (13, 1), (15, 1)], [], TCH, false, false, none, PNF, false⟩
def an29 : AnnG := (.seq .leaf (.seq .leaf .leaf))
def F29 (f0 : Int) (f1 : Int) (f2 : Int) (f3 : ByteArray) (f4a : Option Addr) (f4l : Nat) (f4c : Nat) (g : G) (R : Value → G → Prop) : Prop :=
  ∀ g1 : G, Ex g g1 →
  (CallsP Tryz.prog 28 #[(.int .i64 f0), (.int .i64 (0 : Int)), (.int .i64 (1000 : Int))] g1 fun v g2 =>
  ∃ x : Bool, v = (.bool x) ∧ ifB x
  ((CallsP Tryz.prog 52 #[(.agg ⟨[(.int .i64 f1), (.int .i64 f2), (.string f3), (.slice f4a f4l f4c)]⟩), (.int .i64 (20001 : Int)), (.int .i64 (1 : Int))] g2 fun v g3 =>
  ∃ x_1 : Int, v = (.int .i64 x_1) ∧ ifB (leI x_1 (20000 : Int))
  ((CallsP Tryz.prog 53 #[(.agg ⟨[(.int .i64 f1), (.int .i64 f2), (.string f3), (.slice f4a f4l f4c)]⟩), (.int .i64 f0), (.int .i64 (1 : Int))] g3 fun v g4 =>
  ∃ x_2 : Bool, v = (.bool x_2) ∧ ∀ g5 : G, Ex g4 g5 →
  R (.bool x_2) g5))
  (∀ g6 : G, Ex g3 g6 →
  R (.bool false) g6)))
  (∀ g7 : G, Ex g2 g7 →
  R (.bool false) g7))
theorem F29_eq (f0 : Int) (f1 : Int) (f2 : Int) (f3 : ByteArray) (f4a : Option Addr) (f4l : Nat) (f4c : Nat) (g : G) (R : Value → G → Prop) : fnG cfg29 19 [.tmp 2] c29 an29 [(.agg ⟨[(.int .i64 f0), (.int .i64 f1), (.int .i64 f2), (.string f3), (.slice f4a f4l f4c)]⟩)] g nobody R = F29 f0 f1 f2 f3 f4a f4l f4c g R := by kernel_rfl
theorem call29 (f0 : Int) (f1 : Int) (f2 : Int) (f3 : ByteArray) (f4a : Option Addr) (f4l : Nat) (f4c : Nat) (g : G) (R : Value → G → Prop) (hF : F29 f0 f1 f2 f3 f4a f4l f4c g R) : CallsG Tryz.prog 29 #[(.agg ⟨[(.int .i64 f0), (.int .i64 f1), (.int .i64 f2), (.string f3), (.slice f4a f4l f4c)]⟩)] g nobody R :=
  fn_soundG (c := cfg29) TTok FNSok mixed Tryz.func29 (show Tryz.f29.body = some c29 by kernel_rfl) (show Tryz.f29.ntmps = 19 by kernel_rfl) (show Tryz.f29.results.toList = [.tmp 2] by kernel_rfl) rfl ((F29_eq f0 f1 f2 f3 f4a f4l f4c g R ).mpr hF)

/- 30 pilaster/pilasterref45.closures -/
noncomputable def c30 : Code := match Tryz.f30.body with
  | some c => c
  | none => .skip
noncomputable def cfg30 : Cfg := ⟨Tryz.prog, TT, FNS, [2], [(2, 2), (6, 2), (10, 2), (17, 2), (22, 2), (29, 2), (35, 2)], [], TCH, false, false, none, PNF, false⟩
def an30 : AnnG := (.seq .leaf (.join ⟨[], [], []⟩ (.seq (.tree 19 (.quiet 0 (.quiet 1 (.quiet 2 (.quiet 3 (.quiet 4 (.quiet 5 (.quiet 6 (.quiet 7 (.quiet 8 (.quiet 9 (.quiet 10 (.quiet 11 (.quiet 12 (.quiet 13 (.quiet 14 (.quiet 15 (.quiet 16 (.quiet 17 (.quiet 18 .fin)))))))))))))))))))) (.cond (.seq .leaf .leaf) .leaf)) (.seq (.seq .leaf (.blk (.loop ⟨[(5, .int .i64)], [], []⟩ (.seq (.seq .leaf (.cond .leaf .leaf)) (.seq (.blk (.seq .leaf (.cond (.seq .leaf .leaf) .leaf))) .leaf))))) (.seq .leaf .leaf))))
def F30 (x0 : Int) (x1 : Int) (x2 : ByteArray) (x3a : Option Addr) (x3l : Nat) (x3c : Nat) (la : Option Addr) (ll : Nat) (lc : Nat) (g : G) (R : Value → G → Prop) : Prop :=
  ∀ J : G → Prop,
  (∀ g1 : G, (∃ Inv : Nat → Int → G → Prop, ((∃ m0 : Nat, Inv m0 (0 : Int) g1)) ∧
  ∀ m : Nat, ∀ i : Int, ∀ g2 : G, Le g1 g2 → Inv m i g2 →
  ifB (ltI i ((x3l : Nat) : Int))
  ((0 ≤ i ∧ i < ((x3l : Nat) : Int)) ∧ derefP x3a fun ad => ∃ x0_1 : Int, ∃ x1_1 : Int, ∃ x2_1 : ByteArray, ∃ x3a_1 : Option Addr, ∃ x3l_1 : Nat, ∃ x3c_1 : Nat, g2.w.cell? (Addr.add ad (Int.toNat i * 4)) = some (.int .i64 x0_1) ∧ g2.w.cell? (Addr.add (Addr.add ad (Int.toNat i * 4)) 1) = some (.int .i64 x1_1) ∧ g2.w.cell? (Addr.add (Addr.add ad (Int.toNat i * 4)) 2) = some (.string x2_1) ∧ g2.w.cell? (Addr.add (Addr.add ad (Int.toNat i * 4)) 3) = some (.slice x3a_1 x3l_1 x3c_1) ∧ (CallsP Tryz.prog 30 #[(.agg ⟨[(.int .i64 x0_1), (.int .i64 x1_1), (.string x2_1), (.slice x3a_1 x3l_1 x3c_1)]⟩), (.slice la ll lc)] g2 fun v g3 =>
  ∃ x : Bool, v = (.bool x) ∧ ifB (!x)
  (∀ g4 : G, Ex g3 g4 →
  R (.bool false) g4)
  (InI64 (i + (1 : Int)) ∧ (∃ m_1 : Nat, m_1 < m ∧ Inv m_1 (i + (1 : Int)) g3))))
  (∀ g5 : G, Ex g2 g5 →
  R (.bool true) g5)) → J g1) →
  ∀ g6 : G, Ex g g6 →
  ifB (eqI x0 (24 : Int))
  (ifB (leI ((ll : Nat) : Int) x1)
  (∀ g7 : G, Ex g6 g7 →
  R (.bool false) g7)
  ((0 ≤ x1 ∧ x1 < ((ll : Nat) : Int)) ∧ derefP la fun ad_1 => ∃ x_1 : Int, g6.w.cell? (Addr.add ad_1 (Int.toNat x1 * 5)) = some (.int .i64 x_1) ∧ ifB (!eqI x_1 ((x3l : Nat) : Int))
  (∀ g8 : G, Ex g6 g8 →
  R (.bool false) g8)
  (J g6)))
  (J g6)
theorem F30_eq (x0 : Int) (x1 : Int) (x2 : ByteArray) (x3a : Option Addr) (x3l : Nat) (x3c : Nat) (la : Option Addr) (ll : Nat) (lc : Nat) (g : G) (R : Value → G → Prop) : fnG cfg30 43 [.tmp 4] c30 an30 [(.agg ⟨[(.int .i64 x0), (.int .i64 x1), (.string x2), (.slice x3a x3l x3c)]⟩), (.slice la ll lc)] g nobody R = F30 x0 x1 x2 x3a x3l x3c la ll lc g R := by kernel_rfl
theorem call30 (x0 : Int) (x1 : Int) (x2 : ByteArray) (x3a : Option Addr) (x3l : Nat) (x3c : Nat) (la : Option Addr) (ll : Nat) (lc : Nat) (g : G) (R : Value → G → Prop) (hF : F30 x0 x1 x2 x3a x3l x3c la ll lc g R) : CallsG Tryz.prog 30 #[(.agg ⟨[(.int .i64 x0), (.int .i64 x1), (.string x2), (.slice x3a x3l x3c)]⟩), (.slice la ll lc)] g nobody R :=
  fn_soundG (c := cfg30) TTok FNSok mixed Tryz.func30 (show Tryz.f30.body = some c30 by kernel_rfl) (show Tryz.f30.ntmps = 43 by kernel_rfl) (show Tryz.f30.results.toList = [.tmp 4] by kernel_rfl) rfl ((F30_eq x0 x1 x2 x3a x3l x3c la ll lc g R ).mpr hF)

/- 31 pilaster/pilasterref45.run -/
noncomputable def c31 : Code := match Tryz.f31.body with
  | some c => c
  | none => .skip
noncomputable def cfg31 : Cfg := ⟨Tryz.prog, TT, FNS, [5, 6, 9, 10, 11, 12, 13, 14, 15, 17], [(5, 5), (6, 6), (9, 9), (10, 10), (11, 11), (12, 12), (13, 13), (14, 14), (15, 15), (17, 17), (18, 9), (20, 9), (26, 9), (29, 9), (30, 5), (35, 5), (42, 6), (44, 5), (55, 5), (61, 5), (69, 5), (75, 5), (86, 13), (91, 5), (107, 5), (118, 15), (123, 14), (127, 14), (130, 5), (138, 5), (140, 14), (147, 14), (158, 5), (167, 17), (172, 5), (176, 5), (218, 5), (231, 5), (247, 5), (252, 5)], [], TCH, false, false, none, PNF, false⟩
def an31 : AnnG := (.seq .leaf (.seq (.seq .leaf (.cond (.seq .leaf .leaf) .leaf)) (.seq .leaf (.seq (.seq .leaf (.blk (.seq .leaf (.cond (.seq (.treeP false [10, 11] 7 (.quiet 0 (.quiet 1 (.quiet 2 (.quiet 3 (.quiet 4 (.quiet 5 (.eff 6 .fin .fin)))))))) .leaf) (.seq .leaf (.cond (.seq (.treeP false [10, 11] 8 (.quiet 0 (.quiet 1 (.quiet 2 (.quiet 3 (.quiet 4 (.quiet 5 (.quiet 6 (.eff 7 .fin .fin))))))))) .leaf) (.seq .leaf (.cond (.seq (.treeP false [10, 11] 3 (.quiet 0 (.quiet 1 (.eff 2 .fin .fin)))) .leaf) (.seq .leaf (.cond (.seq (.treeP false [10, 11] 5 (.quiet 0 (.quiet 1 (.quiet 3 (.eff 2 (.eff 4 .fin .fin) .fin))))) .leaf) (.seq .leaf (.cond (.seq (.treeP false [10, 11] 5 (.quiet 0 (.quiet 1 (.quiet 3 (.eff 2 (.eff 4 .fin .fin) .fin))))) .leaf) (.seq .leaf (.cond (.seq .leaf .leaf) (.seq .leaf (.cond (.join ⟨[], [(12, 12, 0), (13, 13, 0)], [(12, [(.int .i64), (.int .i64), (.str), (.sl)]), (13, [(.int .i64), (.int .i64), (.int .i64), (.int .i64), (.sl)])]⟩ (.treeP false [] 15 (.quiet 0 (.quiet 1 (.quiet 2 (.quiet 3 (.quiet 4 (.quiet 5 (.quiet 6 (.quiet 7 (.eff 8 (.quiet 9 (.quiet 10 (.quiet 11 (.eff 12 (.eff 13 (.eff 14 .fin .fin) .fin) (.eff 13 (.eff 12 (.eff 14 .fin .fin) .fin) .fin))))) (.eff 12 (.eff 8 (.quiet 9 (.quiet 10 (.quiet 11 (.eff 13 (.eff 14 .fin .fin) .fin)))) (.eff 13 (.eff 8 (.quiet 9 (.quiet 10 (.quiet 11 (.eff 14 .fin .fin)))) .fin) .fin)) (.eff 13 (.eff 8 (.quiet 9 (.quiet 10 (.quiet 11 (.eff 12 (.eff 14 .fin .fin) .fin)))) (.eff 12 (.eff 8 (.quiet 9 (.quiet 10 (.quiet 11 (.eff 14 .fin .fin)))) .fin) .fin)) .fin)))))))))))) (.seq (.seq .leaf (.cond (.seq (.treeP false [10, 11] 3 (.quiet 0 (.quiet 1 (.eff 2 .fin .fin)))) .leaf) .leaf)) (.seq (.treeP false [10, 11] 13 (.quiet 0 (.quiet 1 (.quiet 2 (.quiet 3 (.quiet 4 (.quiet 5 (.quiet 6 (.quiet 8 (.quiet 9 (.eff 7 (.eff 10 (.quiet 11 (.quiet 12 .fin)) .fin) .fin))))))))))) .leaf))) (.seq .leaf (.cond (.join ⟨[], [(14, 14, 0), (15, 15, 0)], [(14, [(.int .i64), (.int .i64), (.str), (.sl)]), (15, [(.int .i64), (.int .i64), (.int .i64), (.int .i64), (.sl)])]⟩ (.treeP false [] 15 (.quiet 0 (.quiet 1 (.quiet 2 (.quiet 3 (.quiet 4 (.quiet 5 (.quiet 6 (.quiet 7 (.eff 8 (.quiet 9 (.quiet 10 (.quiet 11 (.eff 12 (.eff 13 (.eff 14 .fin .fin) .fin) (.eff 13 (.eff 12 (.eff 14 .fin .fin) .fin) .fin))))) (.eff 12 (.eff 8 (.quiet 9 (.quiet 10 (.quiet 11 (.eff 13 (.eff 14 .fin .fin) .fin)))) (.eff 13 (.eff 8 (.quiet 9 (.quiet 10 (.quiet 11 (.eff 14 .fin .fin)))) .fin) .fin)) (.eff 13 (.eff 8 (.quiet 9 (.quiet 10 (.quiet 11 (.eff 12 (.eff 14 .fin .fin) .fin)))) (.eff 12 (.eff 8 (.quiet 9 (.quiet 10 (.quiet 11 (.eff 14 .fin .fin)))) .fin) .fin)) .fin)))))))))))) (.seq (.seq .leaf (.cond (.seq (.treeP false [10, 11] 3 (.quiet 0 (.quiet 1 (.eff 2 .fin .fin)))) .leaf) .leaf)) (.join ⟨[], [(10, 10, 0), (11, 11, 0)], [(10, [(.int .i64), (.int .i64), (.str), (.sl)]), (11, [(.int .i64), (.int .i64), (.int .i64), (.int .i64), (.sl)])]⟩ (.seq .leaf (.cond (.seq .leaf .leaf) .leaf)) (.seq (.treeP false [10, 11] 19 (.quiet 0 (.quiet 1 (.quiet 2 (.quiet 3 (.quiet 4 (.quiet 5 (.quiet 6 (.quiet 7 (.quiet 8 (.quiet 9 (.quiet 10 (.quiet 11 (.quiet 12 (.quiet 14 (.quiet 15 (.eff 13 (.eff 16 (.quiet 17 (.quiet 18 .fin)) .fin) .fin))))))))))))))))) .leaf)))) .leaf)))))))))))))))))) (.seq .leaf (.seq (.seq .leaf (.cond (.seq (.treeP false [10, 11] 3 (.quiet 1 (.eff 0 (.eff 2 .fin .fin) .fin))) .leaf) .leaf)) (.seq (.seq .leaf (.blk (.seq .leaf (.cond (.seq (.treeP false [10, 11] 6 (.quiet 0 (.quiet 1 (.quiet 2 (.quiet 4 (.eff 3 (.eff 5 .fin .fin) .fin)))))) .leaf) (.seq .leaf (.cond (.seq (.seq .leaf (.cond (.seq .leaf .leaf) .leaf)) (.seq (.treeP false [10, 11] 20 (.quiet 0 (.quiet 1 (.quiet 2 (.quiet 3 (.quiet 4 (.quiet 5 (.quiet 6 (.quiet 7 (.quiet 8 (.quiet 9 (.quiet 10 (.quiet 11 (.quiet 12 (.quiet 13 (.quiet 15 (.quiet 16 (.eff 14 (.eff 17 (.quiet 18 (.quiet 19 .fin)) .fin) .fin)))))))))))))))))) .leaf)) (.seq .leaf (.cond (.seq (.treeP false [10, 11] 4 (.quiet 0 (.quiet 2 (.eff 1 (.eff 3 .fin .fin) .fin)))) .leaf) (.seq .leaf (.cond (.seq (.treeP false [10, 11] 6 (.quiet 0 (.quiet 1 (.quiet 2 (.quiet 4 (.eff 3 (.eff 5 .fin .fin) .fin)))))) .leaf) (.seq .leaf (.cond (.join ⟨[], [(10, 10, 0), (11, 11, 0)], [(10, [(.int .i64), (.int .i64), (.str), (.sl)]), (11, [(.int .i64), (.int .i64), (.int .i64), (.int .i64), (.sl)])]⟩ (.seq (.tree 13 (.quiet 0 (.quiet 1 (.quiet 2 (.quiet 3 (.quiet 4 (.quiet 5 (.quiet 6 (.quiet 7 (.quiet 8 (.quiet 9 (.quiet 10 (.quiet 11 (.quiet 12 .fin)))))))))))))) (.cond (.seq .leaf .leaf) .leaf)) (.seq (.treeP false [10, 11] 10 (.quiet 0 (.quiet 1 (.quiet 2 (.quiet 3 (.quiet 4 (.quiet 5 (.quiet 6 (.quiet 7 (.quiet 8 (.eff 9 .fin .fin))))))))))) .leaf)) .leaf)))))))))))) (.seq .leaf .leaf))))))))
def F31 (x0 : Int) (x1 : Int) (x2 : ByteArray) (x3a : Option Addr) (x3l : Nat) (x3c : Nat) (f0 : Int) (f1 : Int) (f2 : ByteArray) (f3a : Option Addr) (f3l : Nat) (f3c : Nat) (localsa : Option Addr) (localsl : Nat) (localsc : Nat) (la : Option Addr) (ll : Nat) (lc : Nat) (s0 : Int) (s1 : Int) (s2 : Int) (s3 : Int) (s4a : Option Addr) (s4l : Nat) (s4c : Nat) (g : G) (R : Value → G → Prop) : Prop :=
  ifB (leI s3 s2)
  (∀ g1 : G, Ex g g1 →
  (CallsP Tryz.prog 54 #[(.agg ⟨[(.int .i64 s0), (.int .i64 s1), (.int .i64 s2), (.int .i64 s3), (.slice s4a s4l s4c)]⟩), (.int .i64 (3 : Int)), (.int .i64 (0 : Int))] g1 fun v g2 =>
  ∃ x0_1 : Int, ∃ x1_1 : Int, ∃ x2_1 : Int, ∃ x3 : Int, ∃ x4a : Option Addr, ∃ x4l : Nat, ∃ x4c : Nat, v = (.agg ⟨[(.int .i64 x0_1), (.int .i64 x1_1), (.int .i64 x2_1), (.int .i64 x3), (.slice x4a x4l x4c)]⟩) ∧ ∀ g3 : G, Ex g2 g3 →
  R (.tuple ⟨[(.agg ⟨[(.int .i64 (0 : Int)), (.int .i64 (0 : Int)), (.string (bs [])), (.slice none 0 0)]⟩), (.agg ⟨[(.int .i64 x0_1), (.int .i64 x1_1), (.int .i64 x2_1), (.int .i64 x3), (.slice x4a x4l x4c)]⟩)]⟩) g3))
  (InI64 (s2 + (1 : Int)) ∧ ifB (eqI x0 (21 : Int))
  (∀ g4 : G, Ex g g4 →
  (0 ≤ x1 ∧ x1 < ((localsl : Nat) : Int)) ∧ derefP localsa fun ad => ¬ g4.X (Addr.block (Addr.add ad (Int.toNat x1 * 4))) ∧ ∃ x0_2 : Int, ∃ x1_2 : Int, ∃ x2_2 : ByteArray, ∃ x3a_1 : Option Addr, ∃ x3l_1 : Nat, ∃ x3c_1 : Nat, g4.w.cell? (Addr.add ad (Int.toNat x1 * 4)) = some (.int .i64 x0_2) ∧ g4.w.cell? (Addr.add (Addr.add ad (Int.toNat x1 * 4)) 1) = some (.int .i64 x1_2) ∧ g4.w.cell? (Addr.add (Addr.add ad (Int.toNat x1 * 4)) 2) = some (.string x2_2) ∧ g4.w.cell? (Addr.add (Addr.add ad (Int.toNat x1 * 4)) 3) = some (.slice x3a_1 x3l_1 x3c_1) ∧ ∀ g5 : G, Ex g4 g5 →
  R (.tuple ⟨[(.agg ⟨[(.int .i64 x0_2), (.int .i64 x1_2), (.string x2_2), (.slice x3a_1 x3l_1 x3c_1)]⟩), (.agg ⟨[(.int .i64 s0), (.int .i64 s1), (.int .i64 (s2 + (1 : Int))), (.int .i64 s3), (.slice s4a s4l s4c)]⟩)]⟩) g5)
  (ifB (eqI x0 (23 : Int))
  (∀ g6 : G, Ex g g6 →
  (0 ≤ x1 ∧ x1 < ((f3l : Nat) : Int)) ∧ derefP f3a fun ad_1 => ¬ g6.X (Addr.block (Addr.add ad_1 (Int.toNat x1 * 4))) ∧ ∃ x0_3 : Int, ∃ x1_3 : Int, ∃ x2_3 : ByteArray, ∃ x3a_2 : Option Addr, ∃ x3l_2 : Nat, ∃ x3c_2 : Nat, g6.w.cell? (Addr.add ad_1 (Int.toNat x1 * 4)) = some (.int .i64 x0_3) ∧ g6.w.cell? (Addr.add (Addr.add ad_1 (Int.toNat x1 * 4)) 1) = some (.int .i64 x1_3) ∧ g6.w.cell? (Addr.add (Addr.add ad_1 (Int.toNat x1 * 4)) 2) = some (.string x2_3) ∧ g6.w.cell? (Addr.add (Addr.add ad_1 (Int.toNat x1 * 4)) 3) = some (.slice x3a_2 x3l_2 x3c_2) ∧ ∀ g7 : G, Ex g6 g7 →
  R (.tuple ⟨[(.agg ⟨[(.int .i64 x0_3), (.int .i64 x1_3), (.string x2_3), (.slice x3a_2 x3l_2 x3c_2)]⟩), (.agg ⟨[(.int .i64 s0), (.int .i64 s1), (.int .i64 (s2 + (1 : Int))), (.int .i64 s3), (.slice s4a s4l s4c)]⟩)]⟩) g7)
  (ifB (eqI x0 (22 : Int))
  (∀ g8 : G, Ex g g8 →
  ∀ g9 : G, Ex g8 g9 →
  R (.tuple ⟨[(.agg ⟨[(.int .i64 f0), (.int .i64 f1), (.string f2), (.slice f3a f3l f3c)]⟩), (.agg ⟨[(.int .i64 s0), (.int .i64 s1), (.int .i64 (s2 + (1 : Int))), (.int .i64 s3), (.slice s4a s4l s4c)]⟩)]⟩) g9)
  (ifB (eqI x0 (2 : Int))
  (∀ g10 : G, Ex g g10 →
  ∀ g11 : G, Ex g10 g11 →
  ∀ g12 : G, Ex g11 g12 →
  R (.tuple ⟨[(.agg ⟨[(.int .i64 (1 : Int)), (.int .i64 x1), (.string (bs [])), (.slice none 0 0)]⟩), (.agg ⟨[(.int .i64 s0), (.int .i64 s1), (.int .i64 (s2 + (1 : Int))), (.int .i64 s3), (.slice s4a s4l s4c)]⟩)]⟩) g12)
  (ifB (eqI x0 (3 : Int))
  (∀ g13 : G, Ex g g13 →
  ∀ g14 : G, Ex g13 g14 →
  ∀ g15 : G, Ex g14 g15 →
  R (.tuple ⟨[(.agg ⟨[(.int .i64 (2 : Int)), (.int .i64 (0 : Int)), (.string x2), (.slice none 0 0)]⟩), (.agg ⟨[(.int .i64 s0), (.int .i64 s1), (.int .i64 (s2 + (1 : Int))), (.int .i64 s3), (.slice s4a s4l s4c)]⟩)]⟩) g15)
  (ifB (eqI x0 (13 : Int))
  (∀ g16 : G, Ex g g16 →
  (CallsP Tryz.prog 54 #[(.agg ⟨[(.int .i64 s0), (.int .i64 s1), (.int .i64 (s2 + (1 : Int))), (.int .i64 s3), (.slice s4a s4l s4c)]⟩), (.int .i64 (2 : Int)), (.int .i64 x1)] g16 fun v g17 =>
  ∃ x0_4 : Int, ∃ x1_4 : Int, ∃ x2_4 : Int, ∃ x3_1 : Int, ∃ x4a_1 : Option Addr, ∃ x4l_1 : Nat, ∃ x4c_1 : Nat, v = (.agg ⟨[(.int .i64 x0_4), (.int .i64 x1_4), (.int .i64 x2_4), (.int .i64 x3_1), (.slice x4a_1 x4l_1 x4c_1)]⟩) ∧ ∀ g18 : G, Ex g17 g18 →
  R (.tuple ⟨[(.agg ⟨[(.int .i64 (0 : Int)), (.int .i64 (0 : Int)), (.string (bs [])), (.slice none 0 0)]⟩), (.agg ⟨[(.int .i64 x0_4), (.int .i64 x1_4), (.int .i64 x2_4), (.int .i64 x3_1), (.slice x4a_1 x4l_1 x4c_1)]⟩)]⟩) g18))
  (ifB (eqI x0 (11 : Int))
  (∀ J : Int → Int → ByteArray → Option Addr → Nat → Nat → Int → Int → Int → Int → Option Addr → Nat → Nat → G → Prop,
  (∀ t0 : Int, ∀ t1 : Int, ∀ t2 : ByteArray, ∀ t3a : Option Addr, ∀ t3l : Nat, ∀ t3c : Nat, ∀ u0 : Int, ∀ u1 : Int, ∀ u2 : Int, ∀ u3 : Int, ∀ u4a : Option Addr, ∀ u4l : Nat, ∀ u4c : Nat, ∀ g19 : G, (ifB (!eqI u0 (0 : Int))
  (∀ g20 : G, Ex g19 g20 →
  ∀ g21 : G, Ex g20 g21 →
  R (.tuple ⟨[(.agg ⟨[(.int .i64 t0), (.int .i64 t1), (.string t2), (.slice t3a t3l t3c)]⟩), (.agg ⟨[(.int .i64 u0), (.int .i64 u1), (.int .i64 u2), (.int .i64 u3), (.slice u4a u4l u4c)]⟩)]⟩) g21)
  (∀ g22 : G, Ex g19 g22 →
  (0 ≤ (1 : Int) ∧ (1 : Int) < ((x3l : Nat) : Int)) ∧ derefP x3a fun ad_2 => ¬ g22.X (Addr.block (Addr.add ad_2 (Int.toNat (1 : Int) * 4))) ∧ ∃ x0_5 : Int, ∃ x1_5 : Int, ∃ x2_5 : ByteArray, ∃ x3a_3 : Option Addr, ∃ x3l_3 : Nat, ∃ x3c_3 : Nat, g22.w.cell? (Addr.add ad_2 (Int.toNat (1 : Int) * 4)) = some (.int .i64 x0_5) ∧ g22.w.cell? (Addr.add (Addr.add ad_2 (Int.toNat (1 : Int) * 4)) 1) = some (.int .i64 x1_5) ∧ g22.w.cell? (Addr.add (Addr.add ad_2 (Int.toNat (1 : Int) * 4)) 2) = some (.string x2_5) ∧ g22.w.cell? (Addr.add (Addr.add ad_2 (Int.toNat (1 : Int) * 4)) 3) = some (.slice x3a_3 x3l_3 x3c_3) ∧ ∀ g23 : G, Ex g22 g23 →
  (CallsP Tryz.prog 55 #[(.slice localsa localsl localsc), (.agg ⟨[(.int .i64 t0), (.int .i64 t1), (.string t2), (.slice t3a t3l t3c)]⟩)] g23 fun v g24 =>
  ∃ xa : Option Addr, ∃ xl : Nat, ∃ xc : Nat, v = (.slice xa xl xc) ∧ ∀ g25 : G, Ex g24 g25 →
  (CallsP Tryz.prog 31 #[(.agg ⟨[(.int .i64 x0_5), (.int .i64 x1_5), (.string x2_5), (.slice x3a_3 x3l_3 x3c_3)]⟩), (.agg ⟨[(.int .i64 f0), (.int .i64 f1), (.string f2), (.slice f3a f3l f3c)]⟩), (.slice xa xl xc), (.slice la ll lc), (.agg ⟨[(.int .i64 u0), (.int .i64 u1), (.int .i64 u2), (.int .i64 u3), (.slice u4a u4l u4c)]⟩)] g25 fun v g26 =>
  ∃ x00 : Int, ∃ x01 : Int, ∃ x02 : ByteArray, ∃ x03a : Option Addr, ∃ x03l : Nat, ∃ x03c : Nat, ∃ x10 : Int, ∃ x11 : Int, ∃ x12 : Int, ∃ x13 : Int, ∃ x14a : Option Addr, ∃ x14l : Nat, ∃ x14c : Nat, v = (.tuple ⟨[(.agg ⟨[(.int .i64 x00), (.int .i64 x01), (.string x02), (.slice x03a x03l x03c)]⟩), (.agg ⟨[(.int .i64 x10), (.int .i64 x11), (.int .i64 x12), (.int .i64 x13), (.slice x14a x14l x14c)]⟩)]⟩) ∧ ∀ g27 : G, Ex g26 g27 →
  R (.tuple ⟨[(.agg ⟨[(.int .i64 x00), (.int .i64 x01), (.string x02), (.slice x03a x03l x03c)]⟩), (.agg ⟨[(.int .i64 x10), (.int .i64 x11), (.int .i64 x12), (.int .i64 x13), (.slice x14a x14l x14c)]⟩)]⟩) g27)))) → J t0 t1 t2 t3a t3l t3c u0 u1 u2 u3 u4a u4l u4c g19) →
  ∀ g28 : G, Ex g g28 →
  (0 ≤ (0 : Int) ∧ (0 : Int) < ((x3l : Nat) : Int)) ∧ derefP x3a fun ad_3 => ¬ g28.X (Addr.block (Addr.add ad_3 (Int.toNat (0 : Int) * 4))) ∧ ∃ x0_6 : Int, ∃ x1_6 : Int, ∃ x2_6 : ByteArray, ∃ x3a_4 : Option Addr, ∃ x3l_4 : Nat, ∃ x3c_4 : Nat, g28.w.cell? (Addr.add ad_3 (Int.toNat (0 : Int) * 4)) = some (.int .i64 x0_6) ∧ g28.w.cell? (Addr.add (Addr.add ad_3 (Int.toNat (0 : Int) * 4)) 1) = some (.int .i64 x1_6) ∧ g28.w.cell? (Addr.add (Addr.add ad_3 (Int.toNat (0 : Int) * 4)) 2) = some (.string x2_6) ∧ g28.w.cell? (Addr.add (Addr.add ad_3 (Int.toNat (0 : Int) * 4)) 3) = some (.slice x3a_4 x3l_4 x3c_4) ∧ (∀ g29 : G, Ex g28 g29 →
  (CallsP Tryz.prog 31 #[(.agg ⟨[(.int .i64 x0_6), (.int .i64 x1_6), (.string x2_6), (.slice x3a_4 x3l_4 x3c_4)]⟩), (.agg ⟨[(.int .i64 f0), (.int .i64 f1), (.string f2), (.slice f3a f3l f3c)]⟩), (.slice localsa localsl localsc), (.slice la ll lc), (.agg ⟨[(.int .i64 s0), (.int .i64 s1), (.int .i64 (s2 + (1 : Int))), (.int .i64 s3), (.slice s4a s4l s4c)]⟩)] g29 fun v g30 =>
  ∃ x00_1 : Int, ∃ x01_1 : Int, ∃ x02_1 : ByteArray, ∃ x03a_1 : Option Addr, ∃ x03l_1 : Nat, ∃ x03c_1 : Nat, ∃ x10_1 : Int, ∃ x11_1 : Int, ∃ x12_1 : Int, ∃ x13_1 : Int, ∃ x14a_1 : Option Addr, ∃ x14l_1 : Nat, ∃ x14c_1 : Nat, v = (.tuple ⟨[(.agg ⟨[(.int .i64 x00_1), (.int .i64 x01_1), (.string x02_1), (.slice x03a_1 x03l_1 x03c_1)]⟩), (.agg ⟨[(.int .i64 x10_1), (.int .i64 x11_1), (.int .i64 x12_1), (.int .i64 x13_1), (.slice x14a_1 x14l_1 x14c_1)]⟩)]⟩) ∧ Rep 1 (∀ g31 : G, Ex g30 g31 →
  J x00_1 x01_1 x02_1 x03a_1 x03l_1 x03c_1 x10_1 x11_1 x12_1 x13_1 x14a_1 x14l_1 x14c_1 g31))) ∧ ((Rep 1 (∀ g33 : G, Ex g28 g33 →
  (CallsP Tryz.prog 31 #[(.agg ⟨[(.int .i64 x0_6), (.int .i64 x1_6), (.string x2_6), (.slice x3a_4 x3l_4 x3c_4)]⟩), (.agg ⟨[(.int .i64 f0), (.int .i64 f1), (.string f2), (.slice f3a f3l f3c)]⟩), (.slice localsa localsl localsc), (.slice la ll lc), (.agg ⟨[(.int .i64 s0), (.int .i64 s1), (.int .i64 (s2 + (1 : Int))), (.int .i64 s3), (.slice s4a s4l s4c)]⟩)] g33 fun v g34 =>
  ∃ x00_2 : Int, ∃ x01_2 : Int, ∃ x02_2 : ByteArray, ∃ x03a_2 : Option Addr, ∃ x03l_2 : Nat, ∃ x03c_2 : Nat, ∃ x10_2 : Int, ∃ x11_2 : Int, ∃ x12_2 : Int, ∃ x13_2 : Int, ∃ x14a_2 : Option Addr, ∃ x14l_2 : Nat, ∃ x14c_2 : Nat, v = (.tuple ⟨[(.agg ⟨[(.int .i64 x00_2), (.int .i64 x01_2), (.string x02_2), (.slice x03a_2 x03l_2 x03c_2)]⟩), (.agg ⟨[(.int .i64 x10_2), (.int .i64 x11_2), (.int .i64 x12_2), (.int .i64 x13_2), (.slice x14a_2 x14l_2 x14c_2)]⟩)]⟩) ∧ ∀ g35 : G, Ex g34 g35 →
  J x00_2 x01_2 x02_2 x03a_2 x03l_2 x03c_2 x10_2 x11_2 x12_2 x13_2 x14a_2 x14l_2 x14c_2 g35))) ∧ (Rep 1 (∀ g39 : G, Ex g28 g39 →
  (CallsP Tryz.prog 31 #[(.agg ⟨[(.int .i64 x0_6), (.int .i64 x1_6), (.string x2_6), (.slice x3a_4 x3l_4 x3c_4)]⟩), (.agg ⟨[(.int .i64 f0), (.int .i64 f1), (.string f2), (.slice f3a f3l f3c)]⟩), (.slice localsa localsl localsc), (.slice la ll lc), (.agg ⟨[(.int .i64 s0), (.int .i64 s1), (.int .i64 (s2 + (1 : Int))), (.int .i64 s3), (.slice s4a s4l s4c)]⟩)] g39 fun v g40 =>
  ∃ x00_4 : Int, ∃ x01_4 : Int, ∃ x02_4 : ByteArray, ∃ x03a_4 : Option Addr, ∃ x03l_4 : Nat, ∃ x03c_4 : Nat, ∃ x10_4 : Int, ∃ x11_4 : Int, ∃ x12_4 : Int, ∃ x13_4 : Int, ∃ x14a_4 : Option Addr, ∃ x14l_4 : Nat, ∃ x14c_4 : Nat, v = (.tuple ⟨[(.agg ⟨[(.int .i64 x00_4), (.int .i64 x01_4), (.string x02_4), (.slice x03a_4 x03l_4 x03c_4)]⟩), (.agg ⟨[(.int .i64 x10_4), (.int .i64 x11_4), (.int .i64 x12_4), (.int .i64 x13_4), (.slice x14a_4 x14l_4 x14c_4)]⟩)]⟩) ∧ ∀ g41 : G, Ex g40 g41 →
  J x00_4 x01_4 x02_4 x03a_4 x03l_4 x03c_4 x10_4 x11_4 x12_4 x13_4 x14a_4 x14l_4 x14c_4 g41)))))
  (ifB (eqI x0 (9 : Int))
  (∀ J_1 : Int → Int → ByteArray → Option Addr → Nat → Nat → Int → Int → Int → Int → Option Addr → Nat → Nat → G → Prop,
  (∀ t0_1 : Int, ∀ t1_1 : Int, ∀ t2_1 : ByteArray, ∀ t3a_1 : Option Addr, ∀ t3l_1 : Nat, ∀ t3c_1 : Nat, ∀ u0_1 : Int, ∀ u1_1 : Int, ∀ u2_1 : Int, ∀ u3_1 : Int, ∀ u4a_1 : Option Addr, ∀ u4l_1 : Nat, ∀ u4c_1 : Nat, ∀ g45 : G, (ifB (!eqI u0_1 (0 : Int))
  (∀ g46 : G, Ex g45 g46 →
  ∀ g47 : G, Ex g46 g47 →
  R (.tuple ⟨[(.agg ⟨[(.int .i64 t0_1), (.int .i64 t1_1), (.string t2_1), (.slice t3a_1 t3l_1 t3c_1)]⟩), (.agg ⟨[(.int .i64 u0_1), (.int .i64 u1_1), (.int .i64 u2_1), (.int .i64 u3_1), (.slice u4a_1 u4l_1 u4c_1)]⟩)]⟩) g47)
  (∀ J_2 : Int → Int → ByteArray → Option Addr → Nat → Nat → Int → Int → Int → Int → Option Addr → Nat → Nat → G → Prop,
  (∀ x0_7 : Int, ∀ x1_7 : Int, ∀ x2_7 : ByteArray, ∀ x3a_5 : Option Addr, ∀ x3l_5 : Nat, ∀ x3c_5 : Nat, ∀ x0_8 : Int, ∀ x1_8 : Int, ∀ x2_8 : Int, ∀ x3_2 : Int, ∀ x4a_2 : Option Addr, ∀ x4l_2 : Nat, ∀ x4c_2 : Nat, ∀ g48 : G, (∀ g49 : G, Ex g48 g49 →
  InI64 (t1_1 + (1 : Int)) ∧ (0 ≤ (t1_1 + (1 : Int)) ∧ (t1_1 + (1 : Int)) < ((x3l : Nat) : Int)) ∧ derefP x3a fun ad_4 => ¬ g49.X (Addr.block (Addr.add ad_4 (Int.toNat (t1_1 + (1 : Int)) * 4))) ∧ ∃ x0_9 : Int, ∃ x1_9 : Int, ∃ x2_9 : ByteArray, ∃ x3a_6 : Option Addr, ∃ x3l_6 : Nat, ∃ x3c_6 : Nat, g49.w.cell? (Addr.add ad_4 (Int.toNat (t1_1 + (1 : Int)) * 4)) = some (.int .i64 x0_9) ∧ g49.w.cell? (Addr.add (Addr.add ad_4 (Int.toNat (t1_1 + (1 : Int)) * 4)) 1) = some (.int .i64 x1_9) ∧ g49.w.cell? (Addr.add (Addr.add ad_4 (Int.toNat (t1_1 + (1 : Int)) * 4)) 2) = some (.string x2_9) ∧ g49.w.cell? (Addr.add (Addr.add ad_4 (Int.toNat (t1_1 + (1 : Int)) * 4)) 3) = some (.slice x3a_6 x3l_6 x3c_6) ∧ (0 ≤ (0 : Int) ∧ (0 : Int) < ((t3l_1 : Nat) : Int)) ∧ derefP t3a_1 fun ad_5 => ¬ g49.X (Addr.block (Addr.add ad_5 (Int.toNat (0 : Int) * 4))) ∧ ∃ x0_10 : Int, ∃ x1_10 : Int, ∃ x2_10 : ByteArray, ∃ x3a_7 : Option Addr, ∃ x3l_7 : Nat, ∃ x3c_7 : Nat, g49.w.cell? (Addr.add ad_5 (Int.toNat (0 : Int) * 4)) = some (.int .i64 x0_10) ∧ g49.w.cell? (Addr.add (Addr.add ad_5 (Int.toNat (0 : Int) * 4)) 1) = some (.int .i64 x1_10) ∧ g49.w.cell? (Addr.add (Addr.add ad_5 (Int.toNat (0 : Int) * 4)) 2) = some (.string x2_10) ∧ g49.w.cell? (Addr.add (Addr.add ad_5 (Int.toNat (0 : Int) * 4)) 3) = some (.slice x3a_7 x3l_7 x3c_7) ∧ ∀ g50 : G, Ex g49 g50 →
  (CallsP Tryz.prog 55 #[(.slice localsa localsl localsc), (.agg ⟨[(.int .i64 x0_10), (.int .i64 x1_10), (.string x2_10), (.slice x3a_7 x3l_7 x3c_7)]⟩)] g50 fun v g51 =>
  ∃ xa_1 : Option Addr, ∃ xl_1 : Nat, ∃ xc_1 : Nat, v = (.slice xa_1 xl_1 xc_1) ∧ ∀ g52 : G, Ex g51 g52 →
  (CallsP Tryz.prog 31 #[(.agg ⟨[(.int .i64 x0_9), (.int .i64 x1_9), (.string x2_9), (.slice x3a_6 x3l_6 x3c_6)]⟩), (.agg ⟨[(.int .i64 f0), (.int .i64 f1), (.string f2), (.slice f3a f3l f3c)]⟩), (.slice xa_1 xl_1 xc_1), (.slice la ll lc), (.agg ⟨[(.int .i64 u0_1), (.int .i64 u1_1), (.int .i64 u2_1), (.int .i64 u3_1), (.slice u4a_1 u4l_1 u4c_1)]⟩)] g52 fun v g53 =>
  ∃ x00_6 : Int, ∃ x01_6 : Int, ∃ x02_6 : ByteArray, ∃ x03a_6 : Option Addr, ∃ x03l_6 : Nat, ∃ x03c_6 : Nat, ∃ x10_6 : Int, ∃ x11_6 : Int, ∃ x12_6 : Int, ∃ x13_6 : Int, ∃ x14a_6 : Option Addr, ∃ x14l_6 : Nat, ∃ x14c_6 : Nat, v = (.tuple ⟨[(.agg ⟨[(.int .i64 x00_6), (.int .i64 x01_6), (.string x02_6), (.slice x03a_6 x03l_6 x03c_6)]⟩), (.agg ⟨[(.int .i64 x10_6), (.int .i64 x11_6), (.int .i64 x12_6), (.int .i64 x13_6), (.slice x14a_6 x14l_6 x14c_6)]⟩)]⟩) ∧ ∀ g54 : G, Ex g53 g54 →
  R (.tuple ⟨[(.agg ⟨[(.int .i64 x00_6), (.int .i64 x01_6), (.string x02_6), (.slice x03a_6 x03l_6 x03c_6)]⟩), (.agg ⟨[(.int .i64 x10_6), (.int .i64 x11_6), (.int .i64 x12_6), (.int .i64 x13_6), (.slice x14a_6 x14l_6 x14c_6)]⟩)]⟩) g54))) → J_2 x0_7 x1_7 x2_7 x3a_5 x3l_5 x3c_5 x0_8 x1_8 x2_8 x3_2 x4a_2 x4l_2 x4c_2 g48) →
  ifB (!eqI t0_1 (4 : Int))
  ((CallsP Tryz.prog 54 #[(.agg ⟨[(.int .i64 u0_1), (.int .i64 u1_1), (.int .i64 u2_1), (.int .i64 u3_1), (.slice u4a_1 u4l_1 u4c_1)]⟩), (.int .i64 (4 : Int)), (.int .i64 (0 : Int))] g45 fun v g55 =>
  ∃ x0_11 : Int, ∃ x1_11 : Int, ∃ x2_11 : Int, ∃ x3_3 : Int, ∃ x4a_3 : Option Addr, ∃ x4l_3 : Nat, ∃ x4c_3 : Nat, v = (.agg ⟨[(.int .i64 x0_11), (.int .i64 x1_11), (.int .i64 x2_11), (.int .i64 x3_3), (.slice x4a_3 x4l_3 x4c_3)]⟩) ∧ ∀ g56 : G, Ex g55 g56 →
  R (.tuple ⟨[(.agg ⟨[(.int .i64 (0 : Int)), (.int .i64 (0 : Int)), (.string (bs [])), (.slice none 0 0)]⟩), (.agg ⟨[(.int .i64 x0_11), (.int .i64 x1_11), (.int .i64 x2_11), (.int .i64 x3_3), (.slice x4a_3 x4l_3 x4c_3)]⟩)]⟩) g56))
  (InI64 (t1_1 + (1 : Int)) ∧ ifB (leI ((x3l : Nat) : Int) (t1_1 + (1 : Int)))
  ((CallsP Tryz.prog 54 #[(.agg ⟨[(.int .i64 u0_1), (.int .i64 u1_1), (.int .i64 u2_1), (.int .i64 u3_1), (.slice u4a_1 u4l_1 u4c_1)]⟩), (.int .i64 (4 : Int)), (.int .i64 (0 : Int))] g45 fun v g57 =>
  ∃ x0_12 : Int, ∃ x1_12 : Int, ∃ x2_12 : Int, ∃ x3_4 : Int, ∃ x4a_4 : Option Addr, ∃ x4l_4 : Nat, ∃ x4c_4 : Nat, v = (.agg ⟨[(.int .i64 x0_12), (.int .i64 x1_12), (.int .i64 x2_12), (.int .i64 x3_4), (.slice x4a_4 x4l_4 x4c_4)]⟩) ∧ ∀ g58 : G, Ex g57 g58 →
  R (.tuple ⟨[(.agg ⟨[(.int .i64 (0 : Int)), (.int .i64 (0 : Int)), (.string (bs [])), (.slice none 0 0)]⟩), (.agg ⟨[(.int .i64 x0_12), (.int .i64 x1_12), (.int .i64 x2_12), (.int .i64 x3_4), (.slice x4a_4 x4l_4 x4c_4)]⟩)]⟩) g58))
  (J_2 (0 : Int) (0 : Int) (bs []) none 0 0 (0 : Int) (0 : Int) (0 : Int) (0 : Int) none 0 0 g45)))) → J_1 t0_1 t1_1 t2_1 t3a_1 t3l_1 t3c_1 u0_1 u1_1 u2_1 u3_1 u4a_1 u4l_1 u4c_1 g45) →
  ∀ g59 : G, Ex g g59 →
  (0 ≤ (0 : Int) ∧ (0 : Int) < ((x3l : Nat) : Int)) ∧ derefP x3a fun ad_6 => ¬ g59.X (Addr.block (Addr.add ad_6 (Int.toNat (0 : Int) * 4))) ∧ ∃ x0_13 : Int, ∃ x1_13 : Int, ∃ x2_13 : ByteArray, ∃ x3a_8 : Option Addr, ∃ x3l_8 : Nat, ∃ x3c_8 : Nat, g59.w.cell? (Addr.add ad_6 (Int.toNat (0 : Int) * 4)) = some (.int .i64 x0_13) ∧ g59.w.cell? (Addr.add (Addr.add ad_6 (Int.toNat (0 : Int) * 4)) 1) = some (.int .i64 x1_13) ∧ g59.w.cell? (Addr.add (Addr.add ad_6 (Int.toNat (0 : Int) * 4)) 2) = some (.string x2_13) ∧ g59.w.cell? (Addr.add (Addr.add ad_6 (Int.toNat (0 : Int) * 4)) 3) = some (.slice x3a_8 x3l_8 x3c_8) ∧ (∀ g60 : G, Ex g59 g60 →
  (CallsP Tryz.prog 31 #[(.agg ⟨[(.int .i64 x0_13), (.int .i64 x1_13), (.string x2_13), (.slice x3a_8 x3l_8 x3c_8)]⟩), (.agg ⟨[(.int .i64 f0), (.int .i64 f1), (.string f2), (.slice f3a f3l f3c)]⟩), (.slice localsa localsl localsc), (.slice la ll lc), (.agg ⟨[(.int .i64 s0), (.int .i64 s1), (.int .i64 (s2 + (1 : Int))), (.int .i64 s3), (.slice s4a s4l s4c)]⟩)] g60 fun v g61 =>
  ∃ x00_7 : Int, ∃ x01_7 : Int, ∃ x02_7 : ByteArray, ∃ x03a_7 : Option Addr, ∃ x03l_7 : Nat, ∃ x03c_7 : Nat, ∃ x10_7 : Int, ∃ x11_7 : Int, ∃ x12_7 : Int, ∃ x13_7 : Int, ∃ x14a_7 : Option Addr, ∃ x14l_7 : Nat, ∃ x14c_7 : Nat, v = (.tuple ⟨[(.agg ⟨[(.int .i64 x00_7), (.int .i64 x01_7), (.string x02_7), (.slice x03a_7 x03l_7 x03c_7)]⟩), (.agg ⟨[(.int .i64 x10_7), (.int .i64 x11_7), (.int .i64 x12_7), (.int .i64 x13_7), (.slice x14a_7 x14l_7 x14c_7)]⟩)]⟩) ∧ Rep 1 (∀ g62 : G, Ex g61 g62 →
  J_1 x00_7 x01_7 x02_7 x03a_7 x03l_7 x03c_7 x10_7 x11_7 x12_7 x13_7 x14a_7 x14l_7 x14c_7 g62))) ∧ ((Rep 1 (∀ g64 : G, Ex g59 g64 →
  (CallsP Tryz.prog 31 #[(.agg ⟨[(.int .i64 x0_13), (.int .i64 x1_13), (.string x2_13), (.slice x3a_8 x3l_8 x3c_8)]⟩), (.agg ⟨[(.int .i64 f0), (.int .i64 f1), (.string f2), (.slice f3a f3l f3c)]⟩), (.slice localsa localsl localsc), (.slice la ll lc), (.agg ⟨[(.int .i64 s0), (.int .i64 s1), (.int .i64 (s2 + (1 : Int))), (.int .i64 s3), (.slice s4a s4l s4c)]⟩)] g64 fun v g65 =>
  ∃ x00_8 : Int, ∃ x01_8 : Int, ∃ x02_8 : ByteArray, ∃ x03a_8 : Option Addr, ∃ x03l_8 : Nat, ∃ x03c_8 : Nat, ∃ x10_8 : Int, ∃ x11_8 : Int, ∃ x12_8 : Int, ∃ x13_8 : Int, ∃ x14a_8 : Option Addr, ∃ x14l_8 : Nat, ∃ x14c_8 : Nat, v = (.tuple ⟨[(.agg ⟨[(.int .i64 x00_8), (.int .i64 x01_8), (.string x02_8), (.slice x03a_8 x03l_8 x03c_8)]⟩), (.agg ⟨[(.int .i64 x10_8), (.int .i64 x11_8), (.int .i64 x12_8), (.int .i64 x13_8), (.slice x14a_8 x14l_8 x14c_8)]⟩)]⟩) ∧ ∀ g66 : G, Ex g65 g66 →
  J_1 x00_8 x01_8 x02_8 x03a_8 x03l_8 x03c_8 x10_8 x11_8 x12_8 x13_8 x14a_8 x14l_8 x14c_8 g66))) ∧ (Rep 1 (∀ g70 : G, Ex g59 g70 →
  (CallsP Tryz.prog 31 #[(.agg ⟨[(.int .i64 x0_13), (.int .i64 x1_13), (.string x2_13), (.slice x3a_8 x3l_8 x3c_8)]⟩), (.agg ⟨[(.int .i64 f0), (.int .i64 f1), (.string f2), (.slice f3a f3l f3c)]⟩), (.slice localsa localsl localsc), (.slice la ll lc), (.agg ⟨[(.int .i64 s0), (.int .i64 s1), (.int .i64 (s2 + (1 : Int))), (.int .i64 s3), (.slice s4a s4l s4c)]⟩)] g70 fun v g71 =>
  ∃ x00_10 : Int, ∃ x01_10 : Int, ∃ x02_10 : ByteArray, ∃ x03a_10 : Option Addr, ∃ x03l_10 : Nat, ∃ x03c_10 : Nat, ∃ x10_10 : Int, ∃ x11_10 : Int, ∃ x12_10 : Int, ∃ x13_10 : Int, ∃ x14a_10 : Option Addr, ∃ x14l_10 : Nat, ∃ x14c_10 : Nat, v = (.tuple ⟨[(.agg ⟨[(.int .i64 x00_10), (.int .i64 x01_10), (.string x02_10), (.slice x03a_10 x03l_10 x03c_10)]⟩), (.agg ⟨[(.int .i64 x10_10), (.int .i64 x11_10), (.int .i64 x12_10), (.int .i64 x13_10), (.slice x14a_10 x14l_10 x14c_10)]⟩)]⟩) ∧ ∀ g72 : G, Ex g71 g72 →
  J_1 x00_10 x01_10 x02_10 x03a_10 x03l_10 x03c_10 x10_10 x11_10 x12_10 x13_10 x14a_10 x14l_10 x14c_10 g72)))))
  (∀ g76 : G, Ex g g76 →
  (CallsP Tryz.prog 56 #[(.slice x3a x3l x3c), (.agg ⟨[(.int .i64 f0), (.int .i64 f1), (.string f2), (.slice f3a f3l f3c)]⟩), (.slice localsa localsl localsc), (.slice la ll lc), (.agg ⟨[(.int .i64 s0), (.int .i64 s1), (.int .i64 (s2 + (1 : Int))), (.int .i64 s3), (.slice s4a s4l s4c)]⟩)] g76 fun v g77 =>
  ∃ x0a : Option Addr, ∃ x0l : Nat, ∃ x0c : Nat, ∃ x10_12 : Int, ∃ x11_12 : Int, ∃ x12_12 : Int, ∃ x13_12 : Int, ∃ x14a_12 : Option Addr, ∃ x14l_12 : Nat, ∃ x14c_12 : Nat, v = (.tuple ⟨[(.slice x0a x0l x0c), (.agg ⟨[(.int .i64 x10_12), (.int .i64 x11_12), (.int .i64 x12_12), (.int .i64 x13_12), (.slice x14a_12 x14l_12 x14c_12)]⟩)]⟩) ∧ ifB (!eqI x10_12 (0 : Int))
  (∀ g78 : G, Ex g77 g78 →
  ∀ g79 : G, Ex g78 g79 →
  ∀ g80 : G, Ex g79 g80 →
  R (.tuple ⟨[(.agg ⟨[(.int .i64 (0 : Int)), (.int .i64 (0 : Int)), (.string (bs [])), (.slice none 0 0)]⟩), (.agg ⟨[(.int .i64 x10_12), (.int .i64 x11_12), (.int .i64 x12_12), (.int .i64 x13_12), (.slice x14a_12 x14l_12 x14c_12)]⟩)]⟩) g80)
  (ifB (eqI x0 (24 : Int))
  (∀ g81 : G, Ex g77 g81 →
  ∀ g82 : G, Ex g81 g82 →
  ∀ g83 : G, Ex g82 g83 →
  R (.tuple ⟨[(.agg ⟨[(.int .i64 (7 : Int)), (.int .i64 x1), (.string (bs [])), (.slice x0a x0l x0c)]⟩), (.agg ⟨[(.int .i64 x10_12), (.int .i64 x11_12), (.int .i64 x12_12), (.int .i64 x13_12), (.slice x14a_12 x14l_12 x14c_12)]⟩)]⟩) g83)
  (ifB (eqI x0 (25 : Int))
  ((0 ≤ (0 : Int) ∧ (0 : Int) < ((x0l : Nat) : Int)) ∧ derefP x0a fun ad_7 => ∀ g84 : G, Ex g77 g84 →
  ∃ x : Int, g84.w.cell? (Addr.add ad_7 (Int.toNat (0 : Int) * 4)) = some (.int .i64 x) ∧ ifB (!eqI x (7 : Int))
  ((CallsP Tryz.prog 54 #[(.agg ⟨[(.int .i64 x10_12), (.int .i64 x11_12), (.int .i64 x12_12), (.int .i64 x13_12), (.slice x14a_12 x14l_12 x14c_12)]⟩), (.int .i64 (4 : Int)), (.int .i64 (0 : Int))] g84 fun v g85 =>
  ∃ x0_14 : Int, ∃ x1_14 : Int, ∃ x2_14 : Int, ∃ x3_5 : Int, ∃ x4a_5 : Option Addr, ∃ x4l_5 : Nat, ∃ x4c_5 : Nat, v = (.agg ⟨[(.int .i64 x0_14), (.int .i64 x1_14), (.int .i64 x2_14), (.int .i64 x3_5), (.slice x4a_5 x4l_5 x4c_5)]⟩) ∧ ∀ g86 : G, Ex g85 g86 →
  R (.tuple ⟨[(.agg ⟨[(.int .i64 (0 : Int)), (.int .i64 (0 : Int)), (.string (bs [])), (.slice none 0 0)]⟩), (.agg ⟨[(.int .i64 x0_14), (.int .i64 x1_14), (.int .i64 x2_14), (.int .i64 x3_5), (.slice x4a_5 x4l_5 x4c_5)]⟩)]⟩) g86))
  (∀ g87 : G, Ex g84 g87 →
  (0 ≤ (0 : Int) ∧ (0 : Int) < ((x0l : Nat) : Int)) ∧ derefP x0a fun ad_8 => ¬ g87.X (Addr.block (Addr.add (Addr.add ad_8 (Int.toNat (0 : Int) * 4)) 1)) ∧ ∃ x_1 : Int, g87.w.cell? (Addr.add (Addr.add ad_8 (Int.toNat (0 : Int) * 4)) 1) = some (.int .i64 x_1) ∧ (0 ≤ x_1 ∧ x_1 < ((ll : Nat) : Int)) ∧ derefP la fun ad_9 => ¬ g87.X (Addr.block (Addr.add (Addr.add ad_9 (Int.toNat x_1 * 5)) 1)) ∧ ∃ x0_15 : Int, ∃ x1_15 : Int, ∃ x2_15 : ByteArray, ∃ x3a_9 : Option Addr, ∃ x3l_9 : Nat, ∃ x3c_9 : Nat, g87.w.cell? (Addr.add (Addr.add ad_9 (Int.toNat x_1 * 5)) 1) = some (.int .i64 x0_15) ∧ g87.w.cell? (Addr.add (Addr.add (Addr.add ad_9 (Int.toNat x_1 * 5)) 1) 1) = some (.int .i64 x1_15) ∧ g87.w.cell? (Addr.add (Addr.add (Addr.add ad_9 (Int.toNat x_1 * 5)) 1) 2) = some (.string x2_15) ∧ g87.w.cell? (Addr.add (Addr.add (Addr.add ad_9 (Int.toNat x_1 * 5)) 1) 3) = some (.slice x3a_9 x3l_9 x3c_9) ∧ (0 ≤ (0 : Int) ∧ (0 : Int) < ((x0l : Nat) : Int)) ∧ derefP x0a fun ad_10 => ¬ g87.X (Addr.block (Addr.add ad_10 (Int.toNat (0 : Int) * 4))) ∧ ∃ x0_16 : Int, ∃ x1_16 : Int, ∃ x2_16 : ByteArray, ∃ x3a_10 : Option Addr, ∃ x3l_10 : Nat, ∃ x3c_10 : Nat, g87.w.cell? (Addr.add ad_10 (Int.toNat (0 : Int) * 4)) = some (.int .i64 x0_16) ∧ g87.w.cell? (Addr.add (Addr.add ad_10 (Int.toNat (0 : Int) * 4)) 1) = some (.int .i64 x1_16) ∧ g87.w.cell? (Addr.add (Addr.add ad_10 (Int.toNat (0 : Int) * 4)) 2) = some (.string x2_16) ∧ g87.w.cell? (Addr.add (Addr.add ad_10 (Int.toNat (0 : Int) * 4)) 3) = some (.slice x3a_10 x3l_10 x3c_10) ∧ (0 ≤ (1 : Int) ∧ (1 : Int) < ((x0l : Nat) : Int)) ∧ derefP x0a fun ad_11 => ¬ g87.X (Addr.block (Addr.add ad_11 (Int.toNat (1 : Int) * 4))) ∧ ∃ x0_17 : Int, ∃ x1_17 : Int, ∃ x2_17 : ByteArray, ∃ x3a_11 : Option Addr, ∃ x3l_11 : Nat, ∃ x3c_11 : Nat, g87.w.cell? (Addr.add ad_11 (Int.toNat (1 : Int) * 4)) = some (.int .i64 x0_17) ∧ g87.w.cell? (Addr.add (Addr.add ad_11 (Int.toNat (1 : Int) * 4)) 1) = some (.int .i64 x1_17) ∧ g87.w.cell? (Addr.add (Addr.add ad_11 (Int.toNat (1 : Int) * 4)) 2) = some (.string x2_17) ∧ g87.w.cell? (Addr.add (Addr.add ad_11 (Int.toNat (1 : Int) * 4)) 3) = some (.slice x3a_11 x3l_11 x3c_11) ∧ ∀ g88 : G, Ex g87 g88 →
  ∀ g89 : G, NewL g88 g89 77 [(.int .i64 x0_17), (.int .i64 x1_17), (.string x2_17), (.slice x3a_11 x3l_11 x3c_11)] →
  ∀ g90 : G, Ex g89 g90 →
  (CallsP Tryz.prog 31 #[(.agg ⟨[(.int .i64 x0_15), (.int .i64 x1_15), (.string x2_15), (.slice x3a_9 x3l_9 x3c_9)]⟩), (.agg ⟨[(.int .i64 x0_16), (.int .i64 x1_16), (.string x2_16), (.slice x3a_10 x3l_10 x3c_10)]⟩), (.slice (some ⟨g88.w.heap.size, 0, none⟩) 1 1), (.slice la ll lc), (.agg ⟨[(.int .i64 x10_12), (.int .i64 x11_12), (.int .i64 x12_12), (.int .i64 x13_12), (.slice x14a_12 x14l_12 x14c_12)]⟩)] g90 fun v g91 =>
  ∃ x00_12 : Int, ∃ x01_12 : Int, ∃ x02_12 : ByteArray, ∃ x03a_12 : Option Addr, ∃ x03l_12 : Nat, ∃ x03c_12 : Nat, ∃ x10_13 : Int, ∃ x11_13 : Int, ∃ x12_13 : Int, ∃ x13_13 : Int, ∃ x14a_13 : Option Addr, ∃ x14l_13 : Nat, ∃ x14c_13 : Nat, v = (.tuple ⟨[(.agg ⟨[(.int .i64 x00_12), (.int .i64 x01_12), (.string x02_12), (.slice x03a_12 x03l_12 x03c_12)]⟩), (.agg ⟨[(.int .i64 x10_13), (.int .i64 x11_13), (.int .i64 x12_13), (.int .i64 x13_13), (.slice x14a_13 x14l_13 x14c_13)]⟩)]⟩) ∧ ∀ g92 : G, Ex g91 g92 →
  R (.tuple ⟨[(.agg ⟨[(.int .i64 x00_12), (.int .i64 x01_12), (.string x02_12), (.slice x03a_12 x03l_12 x03c_12)]⟩), (.agg ⟨[(.int .i64 x10_13), (.int .i64 x11_13), (.int .i64 x12_13), (.int .i64 x13_13), (.slice x14a_13 x14l_13 x14c_13)]⟩)]⟩) g92)))
  (ifB (eqI x0 (6 : Int))
  (∀ g93 : G, Ex g77 g93 →
  ∀ g94 : G, Ex g93 g94 →
  ∀ g95 : G, Ex g94 g95 →
  R (.tuple ⟨[(.agg ⟨[(.int .i64 (3 : Int)), (.int .i64 (0 : Int)), (.string (bs [])), (.slice x0a x0l x0c)]⟩), (.agg ⟨[(.int .i64 x10_12), (.int .i64 x11_12), (.int .i64 x12_12), (.int .i64 x13_12), (.slice x14a_12 x14l_12 x14c_12)]⟩)]⟩) g95)
  (ifB (eqI x0 (8 : Int))
  (∀ g96 : G, Ex g77 g96 →
  ∀ g97 : G, Ex g96 g97 →
  ∀ g98 : G, Ex g97 g98 →
  R (.tuple ⟨[(.agg ⟨[(.int .i64 (4 : Int)), (.int .i64 x1), (.string (bs [])), (.slice x0a x0l x0c)]⟩), (.agg ⟨[(.int .i64 x10_12), (.int .i64 x11_12), (.int .i64 x12_12), (.int .i64 x13_12), (.slice x14a_12 x14l_12 x14c_12)]⟩)]⟩) g98)
  (ifB (eqI x0 (7 : Int))
  (∀ J_3 : Int → Int → ByteArray → Option Addr → Nat → Nat → Int → Int → Int → Int → Option Addr → Nat → Nat → G → Prop,
  (∀ x0_18 : Int, ∀ x1_18 : Int, ∀ x2_18 : ByteArray, ∀ x3a_12 : Option Addr, ∀ x3l_12 : Nat, ∀ x3c_12 : Nat, ∀ x0_19 : Int, ∀ x1_19 : Int, ∀ x2_19 : Int, ∀ x3_6 : Int, ∀ x4a_6 : Option Addr, ∀ x4l_6 : Nat, ∀ x4c_6 : Nat, ∀ g99 : G, (∀ g100 : G, Ex g99 g100 →
  (0 ≤ (0 : Int) ∧ (0 : Int) < ((x0l : Nat) : Int)) ∧ derefP x0a fun ad_12 => ¬ g100.X (Addr.block (Addr.add (Addr.add ad_12 (Int.toNat (0 : Int) * 4)) 3)) ∧ ∃ xa_2 : Option Addr, ∃ xl_2 : Nat, ∃ xc_2 : Nat, g100.w.cell? (Addr.add (Addr.add ad_12 (Int.toNat (0 : Int) * 4)) 3) = some (.slice xa_2 xl_2 xc_2) ∧ (0 ≤ x1 ∧ x1 < ((xl_2 : Nat) : Int)) ∧ derefP xa_2 fun ad_13 => ¬ g100.X (Addr.block (Addr.add ad_13 (Int.toNat x1 * 4))) ∧ ∃ x0_20 : Int, ∃ x1_20 : Int, ∃ x2_20 : ByteArray, ∃ x3a_13 : Option Addr, ∃ x3l_13 : Nat, ∃ x3c_13 : Nat, g100.w.cell? (Addr.add ad_13 (Int.toNat x1 * 4)) = some (.int .i64 x0_20) ∧ g100.w.cell? (Addr.add (Addr.add ad_13 (Int.toNat x1 * 4)) 1) = some (.int .i64 x1_20) ∧ g100.w.cell? (Addr.add (Addr.add ad_13 (Int.toNat x1 * 4)) 2) = some (.string x2_20) ∧ g100.w.cell? (Addr.add (Addr.add ad_13 (Int.toNat x1 * 4)) 3) = some (.slice x3a_13 x3l_13 x3c_13) ∧ ∀ g101 : G, Ex g100 g101 →
  R (.tuple ⟨[(.agg ⟨[(.int .i64 x0_20), (.int .i64 x1_20), (.string x2_20), (.slice x3a_13 x3l_13 x3c_13)]⟩), (.agg ⟨[(.int .i64 x10_12), (.int .i64 x11_12), (.int .i64 x12_12), (.int .i64 x13_12), (.slice x14a_12 x14l_12 x14c_12)]⟩)]⟩) g101) → J_3 x0_18 x1_18 x2_18 x3a_12 x3l_12 x3c_12 x0_19 x1_19 x2_19 x3_6 x4a_6 x4l_6 x4c_6 g99) →
  ∀ g102 : G, Ex g77 g102 →
  (0 ≤ (0 : Int) ∧ (0 : Int) < ((x0l : Nat) : Int)) ∧ derefP x0a fun ad_14 => ∃ x_2 : Int, g102.w.cell? (Addr.add ad_14 (Int.toNat (0 : Int) * 4)) = some (.int .i64 x_2) ∧ ifB (!eqI x_2 (3 : Int))
  ((CallsP Tryz.prog 54 #[(.agg ⟨[(.int .i64 x10_12), (.int .i64 x11_12), (.int .i64 x12_12), (.int .i64 x13_12), (.slice x14a_12 x14l_12 x14c_12)]⟩), (.int .i64 (4 : Int)), (.int .i64 (0 : Int))] g102 fun v g103 =>
  ∃ x0_21 : Int, ∃ x1_21 : Int, ∃ x2_21 : Int, ∃ x3_7 : Int, ∃ x4a_7 : Option Addr, ∃ x4l_7 : Nat, ∃ x4c_7 : Nat, v = (.agg ⟨[(.int .i64 x0_21), (.int .i64 x1_21), (.int .i64 x2_21), (.int .i64 x3_7), (.slice x4a_7 x4l_7 x4c_7)]⟩) ∧ ∀ g104 : G, Ex g103 g104 →
  R (.tuple ⟨[(.agg ⟨[(.int .i64 (0 : Int)), (.int .i64 (0 : Int)), (.string (bs [])), (.slice none 0 0)]⟩), (.agg ⟨[(.int .i64 x0_21), (.int .i64 x1_21), (.int .i64 x2_21), (.int .i64 x3_7), (.slice x4a_7 x4l_7 x4c_7)]⟩)]⟩) g104))
  ((0 ≤ (0 : Int) ∧ (0 : Int) < ((x0l : Nat) : Int)) ∧ derefP x0a fun ad_15 => ∃ xa_3 : Option Addr, ∃ xl_3 : Nat, ∃ xc_3 : Nat, g102.w.cell? (Addr.add (Addr.add ad_15 (Int.toNat (0 : Int) * 4)) 3) = some (.slice xa_3 xl_3 xc_3) ∧ ifB (leI ((xl_3 : Nat) : Int) x1)
  ((CallsP Tryz.prog 54 #[(.agg ⟨[(.int .i64 x10_12), (.int .i64 x11_12), (.int .i64 x12_12), (.int .i64 x13_12), (.slice x14a_12 x14l_12 x14c_12)]⟩), (.int .i64 (4 : Int)), (.int .i64 (0 : Int))] g102 fun v g105 =>
  ∃ x0_22 : Int, ∃ x1_22 : Int, ∃ x2_22 : Int, ∃ x3_8 : Int, ∃ x4a_8 : Option Addr, ∃ x4l_8 : Nat, ∃ x4c_8 : Nat, v = (.agg ⟨[(.int .i64 x0_22), (.int .i64 x1_22), (.int .i64 x2_22), (.int .i64 x3_8), (.slice x4a_8 x4l_8 x4c_8)]⟩) ∧ ∀ g106 : G, Ex g105 g106 →
  R (.tuple ⟨[(.agg ⟨[(.int .i64 (0 : Int)), (.int .i64 (0 : Int)), (.string (bs [])), (.slice none 0 0)]⟩), (.agg ⟨[(.int .i64 x0_22), (.int .i64 x1_22), (.int .i64 x2_22), (.int .i64 x3_8), (.slice x4a_8 x4l_8 x4c_8)]⟩)]⟩) g106))
  (J_3 (0 : Int) (0 : Int) (bs []) none 0 0 (0 : Int) (0 : Int) (0 : Int) (0 : Int) none 0 0 g102)))
  (∀ g107 : G, Ex g77 g107 →
  (CallsP Tryz.prog 57 #[(.int .i64 x1), (.slice x0a x0l x0c), (.agg ⟨[(.int .i64 x10_12), (.int .i64 x11_12), (.int .i64 x12_12), (.int .i64 x13_12), (.slice x14a_12 x14l_12 x14c_12)]⟩)] g107 fun v g108 =>
  ∃ x00_13 : Int, ∃ x01_13 : Int, ∃ x02_13 : ByteArray, ∃ x03a_13 : Option Addr, ∃ x03l_13 : Nat, ∃ x03c_13 : Nat, ∃ x10_14 : Int, ∃ x11_14 : Int, ∃ x12_14 : Int, ∃ x13_14 : Int, ∃ x14a_14 : Option Addr, ∃ x14l_14 : Nat, ∃ x14c_14 : Nat, v = (.tuple ⟨[(.agg ⟨[(.int .i64 x00_13), (.int .i64 x01_13), (.string x02_13), (.slice x03a_13 x03l_13 x03c_13)]⟩), (.agg ⟨[(.int .i64 x10_14), (.int .i64 x11_14), (.int .i64 x12_14), (.int .i64 x13_14), (.slice x14a_14 x14l_14 x14c_14)]⟩)]⟩) ∧ ∀ g109 : G, Ex g108 g109 →
  R (.tuple ⟨[(.agg ⟨[(.int .i64 x00_13), (.int .i64 x01_13), (.string x02_13), (.slice x03a_13 x03l_13 x03c_13)]⟩), (.agg ⟨[(.int .i64 x10_14), (.int .i64 x11_14), (.int .i64 x12_14), (.int .i64 x13_14), (.slice x14a_14 x14l_14 x14c_14)]⟩)]⟩) g109)))))))))))))))))
theorem F31_eq (x0 : Int) (x1 : Int) (x2 : ByteArray) (x3a : Option Addr) (x3l : Nat) (x3c : Nat) (f0 : Int) (f1 : Int) (f2 : ByteArray) (f3a : Option Addr) (f3l : Nat) (f3c : Nat) (localsa : Option Addr) (localsl : Nat) (localsc : Nat) (la : Option Addr) (ll : Nat) (lc : Nat) (s0 : Int) (s1 : Int) (s2 : Int) (s3 : Int) (s4a : Option Addr) (s4l : Nat) (s4c : Nat) (g : G) (R : Value → G → Prop) : fnG cfg31 259 [.cell 10 77, .cell 11 79] c31 an31 [(.agg ⟨[(.int .i64 x0), (.int .i64 x1), (.string x2), (.slice x3a x3l x3c)]⟩), (.agg ⟨[(.int .i64 f0), (.int .i64 f1), (.string f2), (.slice f3a f3l f3c)]⟩), (.slice localsa localsl localsc), (.slice la ll lc), (.agg ⟨[(.int .i64 s0), (.int .i64 s1), (.int .i64 s2), (.int .i64 s3), (.slice s4a s4l s4c)]⟩)] g nobody R = F31 x0 x1 x2 x3a x3l x3c f0 f1 f2 f3a f3l f3c localsa localsl localsc la ll lc s0 s1 s2 s3 s4a s4l s4c g R := by kernel_rfl
theorem call31 (x0 : Int) (x1 : Int) (x2 : ByteArray) (x3a : Option Addr) (x3l : Nat) (x3c : Nat) (f0 : Int) (f1 : Int) (f2 : ByteArray) (f3a : Option Addr) (f3l : Nat) (f3c : Nat) (localsa : Option Addr) (localsl : Nat) (localsc : Nat) (la : Option Addr) (ll : Nat) (lc : Nat) (s0 : Int) (s1 : Int) (s2 : Int) (s3 : Int) (s4a : Option Addr) (s4l : Nat) (s4c : Nat) (g : G) (R : Value → G → Prop) (hF : F31 x0 x1 x2 x3a x3l x3c f0 f1 f2 f3a f3l f3c localsa localsl localsc la ll lc s0 s1 s2 s3 s4a s4l s4c g R) : CallsG Tryz.prog 31 #[(.agg ⟨[(.int .i64 x0), (.int .i64 x1), (.string x2), (.slice x3a x3l x3c)]⟩), (.agg ⟨[(.int .i64 f0), (.int .i64 f1), (.string f2), (.slice f3a f3l f3c)]⟩), (.slice localsa localsl localsc), (.slice la ll lc), (.agg ⟨[(.int .i64 s0), (.int .i64 s1), (.int .i64 s2), (.int .i64 s3), (.slice s4a s4l s4c)]⟩)] g nobody R :=
  fn_soundG (c := cfg31) TTok FNSok mixed Tryz.func31 (show Tryz.f31.body = some c31 by kernel_rfl) (show Tryz.f31.ntmps = 259 by kernel_rfl) (show Tryz.f31.results.toList = [.cell 10 77, .cell 11 79] by kernel_rfl) rfl ((F31_eq x0 x1 x2 x3a x3l x3c f0 f1 f2 f3a f3l f3c localsa localsl localsc la ll lc s0 s1 s2 s3 s4a s4l s4c g R ).mpr hF)

/- 32 pilaster/pilasterref45.observe -/
noncomputable def c32 : Code := match Tryz.f32.body with
  | some c => c
  | none => .skip
noncomputable def cfg32 : Cfg := ⟨Tryz.prog, TT, FNS, [3, 6, 8, 10], [(3, 3), (6, 6), (8, 8), (10, 10), (20, 3), (22, 3), (24, 3), (27, 3), (33, 3), (40, 3), (55, 8), (60, 8)], [], TCH, false, false, none, PNF, false⟩
def an32 : AnnG := (.seq .leaf (.join ⟨[], [(6, 6, 0)], [(6, [(.int .i64), (.int .i64), (.str), (.sl), (.sl)])]⟩ (.seq .leaf (.cond (.seq .leaf .leaf) .leaf)) (.seq .leaf (.seq .leaf (.seq (.seq .leaf (.cond (.seq .leaf .leaf) .leaf)) (.seq (.seq .leaf (.blk (.loop ⟨[(1, .int .i64), (9, .int .i64)], [(6, 6, 0), (8, 8, 0)], [(6, [(.int .i64), (.int .i64), (.str), (.sl), (.sl)]), (8, [(.int .i64), (.int .i64), (.str), (.sl), (.sl)])]⟩ (.seq (.seq .leaf (.cond .leaf .leaf)) (.seq (.blk (.seq .leaf (.seq .leaf (.seq (.seq .leaf (.cond (.seq .leaf .leaf) .leaf)) .leaf)))) .leaf))))) (.seq .leaf .leaf)))))))
def F32 (t0 : Int) (t1 : Int) (t2 : ByteArray) (t3a : Option Addr) (t3l : Nat) (t3c : Nat) (left : Int) (depth : Int) (g : G) (R : Value → G → Prop) : Prop :=
  ∀ J : Int → Int → ByteArray → Option Addr → Nat → Nat → Option Addr → Nat → Nat → G → Prop,
  (∀ x0 : Int, ∀ x1 : Int, ∀ x2 : ByteArray, ∀ x3a : Option Addr, ∀ x3l : Nat, ∀ x3c : Nat, ∀ x4a : Option Addr, ∀ x4l : Nat, ∀ x4c : Nat, ∀ g1 : G, (InI64 (left - (1 : Int)) ∧ ifB (eqI t0 (7 : Int))
  (∀ g2 : G, Ex g1 g2 →
  ∀ g3 : G, Ex g2 g3 →
  R (.tuple ⟨[(.agg ⟨[(.int .i64 (7 : Int)), (.int .i64 (0 : Int)), (.string (bs [])), (.slice none 0 0), (.slice none 0 0)]⟩), (.int .i64 (left - (1 : Int)))]⟩) g3)
  (∃ Inv : Nat → Int → Int → Int → Int → ByteArray → Option Addr → Nat → Nat → Option Addr → Nat → Nat → Int → Int → ByteArray → Option Addr → Nat → Nat → Option Addr → Nat → Nat → G → Prop, (∀ g4 : G, Ex g1 g4 →
  (∃ m0 : Nat, Inv m0 (left - (1 : Int)) (0 : Int) x0 x1 x2 x3a x3l x3c x4a x4l x4c t0 t1 t2 none 0 0 none 0 0 g4)) ∧
  ∀ m : Nat, ∀ left_1 : Int, ∀ i : Int, ∀ x0_1 : Int, ∀ x1_1 : Int, ∀ x2_1 : ByteArray, ∀ x3a_1 : Option Addr, ∀ x3l_1 : Nat, ∀ x3c_1 : Nat, ∀ x4a_1 : Option Addr, ∀ x4l_1 : Nat, ∀ x4c_1 : Nat, ∀ v0 : Int, ∀ v1 : Int, ∀ v2 : ByteArray, ∀ v3a : Option Addr, ∀ v3l : Nat, ∀ v3c : Nat, ∀ v4a : Option Addr, ∀ v4l : Nat, ∀ v4c : Nat, ∀ g5 : G, Le g1 g5 → Inv m left_1 i x0_1 x1_1 x2_1 x3a_1 x3l_1 x3c_1 x4a_1 x4l_1 x4c_1 v0 v1 v2 v3a v3l v3c v4a v4l v4c g5 →
  ifB (ltI i ((t3l : Nat) : Int))
  ((0 ≤ i ∧ i < ((t3l : Nat) : Int)) ∧ derefP t3a fun ad => ∀ g6 : G, Ex g5 g6 →
  ∃ x0_2 : Int, ∃ x1_2 : Int, ∃ x2_2 : ByteArray, ∃ x3a_2 : Option Addr, ∃ x3l_2 : Nat, ∃ x3c_2 : Nat, g6.w.cell? (Addr.add ad (Int.toNat i * 4)) = some (.int .i64 x0_2) ∧ g6.w.cell? (Addr.add (Addr.add ad (Int.toNat i * 4)) 1) = some (.int .i64 x1_2) ∧ g6.w.cell? (Addr.add (Addr.add ad (Int.toNat i * 4)) 2) = some (.string x2_2) ∧ g6.w.cell? (Addr.add (Addr.add ad (Int.toNat i * 4)) 3) = some (.slice x3a_2 x3l_2 x3c_2) ∧ InI64 (depth + (1 : Int)) ∧ (CallsP Tryz.prog 32 #[(.agg ⟨[(.int .i64 x0_2), (.int .i64 x1_2), (.string x2_2), (.slice x3a_2 x3l_2 x3c_2)]⟩), (.int .i64 left_1), (.int .i64 (depth + (1 : Int)))] g6 fun v g7 =>
  ∃ x00 : Int, ∃ x01 : Int, ∃ x02 : ByteArray, ∃ x03a : Option Addr, ∃ x03l : Nat, ∃ x03c : Nat, ∃ x04a : Option Addr, ∃ x04l : Nat, ∃ x04c : Nat, ∃ x1_3 : Int, v = (.tuple ⟨[(.agg ⟨[(.int .i64 x00), (.int .i64 x01), (.string x02), (.slice x03a x03l x03c), (.slice x04a x04l x04c)]⟩), (.int .i64 x1_3)]⟩) ∧ ifB (ltI x1_3 (0 : Int))
  (∀ g8 : G, Ex g7 g8 →
  ∀ g9 : G, Ex g8 g9 →
  R (.tuple ⟨[(.agg ⟨[(.int .i64 (0 : Int)), (.int .i64 (0 : Int)), (.string (bs [])), (.slice none 0 0), (.slice none 0 0)]⟩), (.int .i64 x1_3)]⟩) g9)
  (∀ g10 : G, Ex g7 g10 →
  ∀ g11 : G, NewL g10 g11 28 [(.int .i64 x00), (.int .i64 x01), (.string x02), (.slice x03a x03l x03c), (.slice x04a x04l x04c)] →
  ∃ xa : Option Addr, ∃ xl : Nat, ∃ xc : Nat, ∃ wo1 : World, Sem.run Tryz.prog (Builtin.append_ #[26, 26] 26 #[(.slice v4a v4l v4c), (.slice (some ⟨g10.w.heap.size, 0, none⟩) 1 1)]) g11.w = .ok (.slice xa xl xc) wo1 ∧ ∃ g12 : G, g12.w = wo1 ∧ Stp g.w.heap.size nobody g11 g12 ∧ InI64 (i + (1 : Int)) ∧ ∀ g13 : G, Ex g12 g13 →
  (∃ m_1 : Nat, m_1 < m ∧ Inv m_1 x1_3 (i + (1 : Int)) x0_1 x1_1 x2_1 x3a_1 x3l_1 x3c_1 x4a_1 x4l_1 x4c_1 v0 v1 v2 v3a v3l v3c xa xl xc g13))))
  (∀ g14 : G, Ex g5 g14 →
  R (.tuple ⟨[(.agg ⟨[(.int .i64 v0), (.int .i64 v1), (.string v2), (.slice v3a v3l v3c), (.slice v4a v4l v4c)]⟩), (.int .i64 left_1)]⟩) g14))) → J x0 x1 x2 x3a x3l x3c x4a x4l x4c g1) →
  ifB (leI left (0 : Int))
  (∀ g15 : G, Ex g g15 →
  ∀ g16 : G, Ex g15 g16 →
  R (.tuple ⟨[(.agg ⟨[(.int .i64 (0 : Int)), (.int .i64 (0 : Int)), (.string (bs [])), (.slice none 0 0), (.slice none 0 0)]⟩), (.int .i64 (-1 : Int))]⟩) g16)
  (ifB (ltI (400 : Int) depth)
  (∀ g17 : G, Ex g g17 →
  ∀ g18 : G, Ex g17 g18 →
  R (.tuple ⟨[(.agg ⟨[(.int .i64 (0 : Int)), (.int .i64 (0 : Int)), (.string (bs [])), (.slice none 0 0), (.slice none 0 0)]⟩), (.int .i64 (-1 : Int))]⟩) g18)
  (∀ g19 : G, Ex g g19 →
  J (0 : Int) (0 : Int) (bs []) none 0 0 none 0 0 g19))
theorem F32_eq (t0 : Int) (t1 : Int) (t2 : ByteArray) (t3a : Option Addr) (t3l : Nat) (t3c : Nat) (left : Int) (depth : Int) (g : G) (R : Value → G → Prop) : fnG cfg32 63 [.cell 6 28, .tmp 7] c32 an32 [(.agg ⟨[(.int .i64 t0), (.int .i64 t1), (.string t2), (.slice t3a t3l t3c)]⟩), (.int .i64 left), (.int .i64 depth)] g nobody R = F32 t0 t1 t2 t3a t3l t3c left depth g R := by kernel_rfl
theorem call32 (t0 : Int) (t1 : Int) (t2 : ByteArray) (t3a : Option Addr) (t3l : Nat) (t3c : Nat) (left : Int) (depth : Int) (g : G) (R : Value → G → Prop) (hF : F32 t0 t1 t2 t3a t3l t3c left depth g R) : CallsG Tryz.prog 32 #[(.agg ⟨[(.int .i64 t0), (.int .i64 t1), (.string t2), (.slice t3a t3l t3c)]⟩), (.int .i64 left), (.int .i64 depth)] g nobody R :=
  fn_soundG (c := cfg32) TTok FNSok mixed Tryz.func32 (show Tryz.f32.body = some c32 by kernel_rfl) (show Tryz.f32.ntmps = 63 by kernel_rfl) (show Tryz.f32.results.toList = [.cell 6 28, .tmp 7] by kernel_rfl) rfl ((F32_eq t0 t1 t2 t3a t3l t3c left depth g R ).mpr hF)

/- 33 slices.Equal[[]string,string] -/
noncomputable def c33 : Code := match Tryz.f33.body with
  | some c => c
  | none => .skip
noncomputable def cfg33 : Cfg := ⟨Tryz.prog, TT, FNS, [], [], [], TCH, false, false, none, PNF, false⟩
def an33 : AnnG := (.seq .leaf (.seq (.seq .leaf (.cond (.seq .leaf .leaf) .leaf)) (.seq (.seq .leaf (.blk (.loop ⟨[(13, .int .i64)], [], []⟩ (.seq .leaf (.seq (.cond .leaf .leaf) (.seq (.blk (.seq .leaf (.seq (.tree 8 (.quiet 0 (.quiet 1 (.quiet 2 (.quiet 3 (.quiet 4 (.quiet 5 (.quiet 6 (.quiet 7 .fin))))))))) (.cond (.seq .leaf .leaf) .leaf)))) .leaf)))))) (.seq .leaf .leaf))))
def F33 (s1a : Option Addr) (s1l : Nat) (s1c : Nat) (s2a : Option Addr) (s2l : Nat) (s2c : Nat) (g : G) (R : Value → G → Prop) : Prop :=
  ifB (!eqI ((s1l : Nat) : Int) ((s2l : Nat) : Int))
  (∀ g1 : G, Ex g g1 →
  R (.bool false) g1)
  (∃ Inv : Nat → Int → G → Prop, ((∃ m0 : Nat, Inv m0 (0 : Int) g)) ∧
  ∀ m : Nat, ∀ v_1 : Int, ∀ g2 : G, Le g g2 → Inv m v_1 g2 →
  ifB (ltI v_1 ((s1l : Nat) : Int))
  (∀ g3 : G, Ex g2 g3 →
  (0 ≤ v_1 ∧ v_1 < ((s1l : Nat) : Int)) ∧ derefP s1a fun ad => ∃ x : ByteArray, g3.w.cell? (Addr.add ad (Int.toNat v_1 * 1)) = some (.string x) ∧ (0 ≤ v_1 ∧ v_1 < ((s2l : Nat) : Int)) ∧ derefP s2a fun ad_1 => ∃ x_1 : ByteArray, g3.w.cell? (Addr.add ad_1 (Int.toNat v_1 * 1)) = some (.string x_1) ∧ ifB (!strEq x x_1)
  (∀ g4 : G, Ex g3 g4 →
  R (.bool false) g4)
  (InI64 (v_1 + (1 : Int)) ∧ (∃ m_1 : Nat, m_1 < m ∧ Inv m_1 (v_1 + (1 : Int)) g3)))
  (∀ g5 : G, Ex g2 g5 →
  R (.bool true) g5))
theorem F33_eq (s1a : Option Addr) (s1l : Nat) (s1c : Nat) (s2a : Option Addr) (s2l : Nat) (s2c : Nat) (g : G) (R : Value → G → Prop) : fnG cfg33 26 [.tmp 4] c33 an33 [(.slice s1a s1l s1c), (.slice s2a s2l s2c)] g nobody R = F33 s1a s1l s1c s2a s2l s2c g R := by kernel_rfl
theorem call33 (s1a : Option Addr) (s1l : Nat) (s1c : Nat) (s2a : Option Addr) (s2l : Nat) (s2c : Nat) (g : G) (R : Value → G → Prop) (hF : F33 s1a s1l s1c s2a s2l s2c g R) : CallsG Tryz.prog 33 #[(.slice s1a s1l s1c), (.slice s2a s2l s2c)] g nobody R :=
  fn_soundG (c := cfg33) TTok FNSok mixed Tryz.func33 (show Tryz.f33.body = some c33 by kernel_rfl) (show Tryz.f33.ntmps = 26 by kernel_rfl) (show Tryz.f33.results.toList = [.tmp 4] by kernel_rfl) rfl ((F33_eq s1a s1l s1c s2a s2l s2c g R ).mpr hF)

/- 34 pilaster/pilasterref44.count -/
/- 35 pilaster/pilasterref44.free -/
/- 36 pilaster/lambda.Free -/
noncomputable def c36 : Code := match Tryz.f36.body with
  | some c => c
  | none => .skip
noncomputable def cfg36 : Cfg := ⟨Tryz.prog, TT, FNS, [1], [(1, 1), (1000015, 116)], [], TCH, false, false, none, PNF, false⟩
def an36 : AnnG := (.seq .leaf (.seq (.seq .leaf (.cond (.seq .leaf .leaf) .leaf)) (.seq .leaf (.seq .leaf (.seq .leaf (.seq (.seq .leaf (.blk (.loop ⟨[(5, .sl)], [], []⟩ (.seq .leaf (.seq (.cond .leaf .leaf) (.blk (.seq .leaf .leaf))))))) (.seq .leaf (.seq .leaf .leaf))))))))
def F36 (x0 : Int) (x1 : Int) (x2 : ByteArray) (x3a : Option Addr) (x3l : Nat) (x3c : Nat) (g : G) (R : Value → G → Prop) : Prop :=
  ∀ g1 : G, Ex g g1 →
  (CallsP Tryz.prog 61 #[(.agg ⟨[(.int .i64 x0), (.int .i64 x1), (.string x2), (.slice x3a x3l x3c)]⟩)] g1 fun v g2 =>
  ∃ x : Bool, v = (.bool x) ∧ ifB (!x)
  (∀ g3 : G, Ex g2 g3 →
  R (.tuple ⟨[(.slice none 0 0), (.int .i64 (1 : Int))]⟩) g3)
  (∀ g4 : G, NewM g2 g4 →
  ∃ M3 : Nat → Prop, (∀ b, b < g.w.heap.size → M3 b → nobody b) ∧ (CallsG Tryz.prog 62 #[(.map (some g2.w.heap.size)), (.agg ⟨[(.int .i64 x0), (.int .i64 x1), (.string x2), (.slice x3a x3l x3c)]⟩), (.int .i64 (0 : Int))] g4 M3 fun v g5 =>
  v = (.tuple ⟨[]⟩) ∧ ∃ x_1 : Option Addr, ∃ wo1 : World, Sem.run Tryz.prog (Instr.range 116 (.map (some g2.w.heap.size))) g5.w = .ok (.pointer x_1) wo1 ∧ ∃ g6 : G, g6.w = wo1 ∧ Stp g.w.heap.size nobody g5 g6 ∧ ∃ Inv : Nat → Option Addr → Nat → Nat → G → Prop, ((∃ m0 : Nat, Inv m0 none 0 0 g6)) ∧
  ∀ m : Nat, ∀ outa : Option Addr, ∀ outl : Nat, ∀ outc : Nat, ∀ g7 : G, Le g6 g7 → Inv m outa outl outc g7 →
  (∃ wo2 : World, Sem.run Tryz.prog (Instr.next (.pointer x_1) false 0) g7.w = .ok (.tuple ⟨[(.bool false)]⟩) wo2 ∧ ∃ g8 : G, g8.w = wo2 ∧ Stp g.w.heap.size nobody g7 g8 ∧ ∃ M1 : Nat → Prop, (∀ b, b < g.w.heap.size → M1 b → nobody b) ∧ (CallsG Tryz.prog 63 #[(.slice outa outl outc)] g8 M1 fun v g9 =>
  v = (.tuple ⟨[]⟩) ∧ ∀ g10 : G, Ex g9 g10 →
  R (.tuple ⟨[(.slice outa outl outc), (.int .i64 (0 : Int))]⟩) g10)) ∨
  (∃ x0_1 : Bool, ∃ x1_1 : Int, ∃ x2_1 : Bool, ∃ wo3 : World, Sem.run Tryz.prog (Instr.next (.pointer x_1) false 0) g7.w = .ok (.tuple ⟨[(.bool x0_1), (.int .i64 x1_1), (.bool x2_1)]⟩) wo3 ∧ ∃ g11 : G, g11.w = wo3 ∧ Stp g.w.heap.size nobody g7 g11 ∧ ifB x0_1
  (∃ x0_2 : Int, ∃ x1_2 : Bool, ∃ wo4 : World, Sem.run Tryz.prog (Instr.entry (.pointer x_1)) g11.w = .ok (.tuple ⟨[(.int .i64 x0_2), (.bool x1_2)]⟩) wo4 ∧ ∃ g12 : G, g12.w = wo4 ∧ Stp g.w.heap.size nobody g11 g12 ∧ ∀ g13 : G, NewL g12 g13 3 [(.int .i64 x0_2)] →
  ∃ outa_1 : Option Addr, ∃ outl_1 : Nat, ∃ outc_1 : Nat, ∃ wo5 : World, Sem.run Tryz.prog (Builtin.append_ #[47, 47] 47 #[(.slice outa outl outc), (.slice (some ⟨g12.w.heap.size, 0, none⟩) 1 1)]) g13.w = .ok (.slice outa_1 outl_1 outc_1) wo5 ∧ ∃ g14 : G, g14.w = wo5 ∧ Stp g.w.heap.size nobody g13 g14 ∧ (∃ m_1 : Nat, m_1 < m ∧ Inv m_1 outa_1 outl_1 outc_1 g14))
  (∃ M2 : Nat → Prop, (∀ b, b < g.w.heap.size → M2 b → nobody b) ∧ (CallsG Tryz.prog 63 #[(.slice outa outl outc)] g11 M2 fun v g15 =>
  v = (.tuple ⟨[]⟩) ∧ ∀ g16 : G, Ex g15 g16 →
  R (.tuple ⟨[(.slice outa outl outc), (.int .i64 (0 : Int))]⟩) g16))))))
theorem F36_eq (x0 : Int) (x1 : Int) (x2 : ByteArray) (x3a : Option Addr) (x3l : Nat) (x3c : Nat) (g : G) (R : Value → G → Prop) : fnG cfg36 27 [.tmp 2, .tmp 3] c36 an36 [(.agg ⟨[(.int .i64 x0), (.int .i64 x1), (.string x2), (.slice x3a x3l x3c)]⟩)] g nobody R = F36 x0 x1 x2 x3a x3l x3c g R := by kernel_rfl
theorem call36 (x0 : Int) (x1 : Int) (x2 : ByteArray) (x3a : Option Addr) (x3l : Nat) (x3c : Nat) (g : G) (R : Value → G → Prop) (hF : F36 x0 x1 x2 x3a x3l x3c g R) : CallsG Tryz.prog 36 #[(.agg ⟨[(.int .i64 x0), (.int .i64 x1), (.string x2), (.slice x3a x3l x3c)]⟩)] g nobody R :=
  fn_soundG (c := cfg36) TTok FNSok mixed Tryz.func36 (show Tryz.f36.body = some c36 by kernel_rfl) (show Tryz.f36.ntmps = 27 by kernel_rfl) (show Tryz.f36.results.toList = [.tmp 2, .tmp 3] by kernel_rfl) rfl ((F36_eq x0 x1 x2 x3a x3l x3c g R ).mpr hF)

/- 37 (*pilaster/closure.converter).convert -/
noncomputable def c37 : Code := match Tryz.f37.body with
  | some c => c
  | none => .skip
noncomputable def cfg37 : Cfg := ⟨Tryz.prog, TT, FNS, [4, 5, 6, 7, 9], [(4, 4), (5, 5), (6, 6), (7, 7), (9, 9), (15, 4), (20, 4), (30, 4), (32, 4), (34, 4), (37, 4), (40, 7), (41, 4), (49, 4), (53, 7), (62, 7), (63, 7), (71, 7)], [], TCH, false, false, none, PNF, false⟩
def an37 : AnnG := (.seq .leaf (.seq (.seq .leaf (.cond (.seq .leaf .leaf) .leaf)) (.join ⟨[], [(6, 6, 0)], [(6, [(.int .i64), (.int .i64), (.str), (.sl)])]⟩ (.seq .leaf (.blk (.seq .leaf (.cond (.seq .leaf .leaf) (.seq (.seq .leaf (.cond .leaf .leaf)) (.cond (.seq .leaf .leaf) .leaf)))))) (.seq .leaf (.join ⟨[], [(7, 7, 0)], [(7, [(.int .i64), (.int .i64), (.str), (.sl)])]⟩ (.seq .leaf (.cond .leaf .leaf)) (.seq (.seq .leaf (.blk (.loop ⟨[(44, .int .i64)], [(7, 7, 0)], [(7, [(.int .i64), (.int .i64), (.str), (.sl)])]⟩ (.seq .leaf (.seq (.cond .leaf .leaf) (.join ⟨[], [(7, 7, 0)], [(7, [(.int .i64), (.int .i64), (.str), (.sl)])]⟩ (.blk (.seq .leaf (.seq .leaf (.cond (.treeP true [7] 8 (.quiet 0 (.quiet 2 (.quiet 3 (.quiet 4 (.eff 1 (.eff 5 (.eff 6 (.eff 7 .fin .fin) .fin) .fin) (.eff 5 (.eff 1 (.eff 6 (.eff 7 .fin .fin) .fin) (.eff 6 (.eff 1 (.eff 7 .fin .fin) (.eff 7 (.eff 1 .fin .fin) .fin)) .fin)) .fin))))))) (.treeP true [7] 7 (.quiet 0 (.quiet 2 (.quiet 3 (.quiet 4 (.eff 1 (.eff 5 (.eff 6 .fin .fin) .fin) (.eff 5 (.eff 1 (.eff 6 .fin .fin) (.eff 6 (.eff 1 .fin .fin) .fin)) .fin))))))))))) .leaf)))))) (.seq .leaf .leaf)))))))
def F37 (c : Option Addr) (x0 : Int) (x1 : Int) (x2 : ByteArray) (x3a : Option Addr) (x3l : Nat) (x3c : Nat) (s0a : Option Addr) (s0l : Nat) (s0c : Nat) (s1 : Int) (g : G) (M : Nat → Prop) (R : Value → G → Prop) : Prop :=
  derefP c fun ad => ∀ g1 : G, Ex g g1 →
  ∃ x : Bool, g1.w.cell? (Addr.add ad 1) = some (.bool x) ∧ ifB x
  (∀ g2 : G, Ex g1 g2 →
  R (.agg ⟨[(.int .i64 (0 : Int)), (.int .i64 (0 : Int)), (.string (bs [])), (.slice none 0 0)]⟩) g2)
  (∀ J : Int → Int → ByteArray → Option Addr → Nat → Nat → G → Prop,
  (∀ x0_1 : Int, ∀ x1_1 : Int, ∀ x2_1 : ByteArray, ∀ x3a_1 : Option Addr, ∀ x3l_1 : Nat, ∀ x3c_1 : Nat, ∀ g3 : G, (∀ J_1 : Int → Int → ByteArray → Option Addr → Nat → Nat → G → Prop,
  (∀ out0 : Int, ∀ out1 : Int, ∀ out2 : ByteArray, ∀ out3a : Option Addr, ∀ out3l : Nat, ∀ out3c : Nat, ∀ g4 : G, (∃ Inv : Nat → Int → Int → Int → ByteArray → Option Addr → Nat → Nat → G → Prop, ((∃ m0 : Nat, Inv m0 (0 : Int) out0 out1 out2 out3a out3l out3c g4)) ∧
  ∀ m : Nat, ∀ v_1 : Int, ∀ out0_1 : Int, ∀ out1_1 : Int, ∀ out2_1 : ByteArray, ∀ out3a_1 : Option Addr, ∀ out3l_1 : Nat, ∀ out3c_1 : Nat, ∀ g5 : G, Le g4 g5 → Inv m v_1 out0_1 out1_1 out2_1 out3a_1 out3l_1 out3c_1 g5 →
  ifB (ltI v_1 ((x3l : Nat) : Int))
  (∀ J_2 : Int → Int → ByteArray → Option Addr → Nat → Nat → G → Prop,
  (∀ out0_2 : Int, ∀ out1_2 : Int, ∀ out2_2 : ByteArray, ∀ out3a_2 : Option Addr, ∀ out3l_2 : Nat, ∀ out3c_2 : Nat, ∀ g6 : G, (InI64 (v_1 + (1 : Int)) ∧ (∃ m_1 : Nat, m_1 < m ∧ Inv m_1 (v_1 + (1 : Int)) out0_2 out1_2 out2_2 out3a_2 out3l_2 out3c_2 g6)) → J_2 out0_2 out1_2 out2_2 out3a_2 out3l_2 out3c_2 g6) →
  (0 ≤ v_1 ∧ v_1 < ((x3l : Nat) : Int)) ∧ derefP x3a fun ad_1 => ∃ x0_2 : Int, ∃ x1_2 : Int, ∃ x2_2 : ByteArray, ∃ x3a_2 : Option Addr, ∃ x3l_2 : Nat, ∃ x3c_2 : Nat, g5.w.cell? (Addr.add ad_1 (Int.toNat v_1 * 4)) = some (.int .i64 x0_2) ∧ g5.w.cell? (Addr.add (Addr.add ad_1 (Int.toNat v_1 * 4)) 1) = some (.int .i64 x1_2) ∧ g5.w.cell? (Addr.add (Addr.add ad_1 (Int.toNat v_1 * 4)) 2) = some (.string x2_2) ∧ g5.w.cell? (Addr.add (Addr.add ad_1 (Int.toNat v_1 * 4)) 3) = some (.slice x3a_2 x3l_2 x3c_2) ∧ ∀ g7 : G, Ex g5 g7 →
  (CallsP Tryz.prog 66 #[(.int .i64 x0), (.int .i64 v_1)] g7 fun v g8 =>
  ∃ x_1 : Bool, v = (.bool x_1) ∧ ifB x_1
  (∀ g9 : G, Ex g8 g9 →
  ∃ MR1 : Nat → Prop, (∀ b, MR1 b → ¬ g9.X b) ∧ (∀ g10 : G, Ex g9 g10 →
  (CallsP Tryz.prog 67 #[(.agg ⟨[(.slice s0a s0l s0c), (.int .i64 s1)]⟩)] g10 fun v g11 =>
  ∃ x0a : Option Addr, ∃ x0l : Nat, ∃ x0c : Nat, ∃ x1_3 : Int, v = (.agg ⟨[(.slice x0a x0l x0c), (.int .i64 x1_3)]⟩) ∧ ∀ g12 : G, Ex g11 g12 →
  ∃ M2 : Nat → Prop, (∀ b, b < g.w.heap.size → M2 b → M b) ∧ (CallsG Tryz.prog 37 #[(.pointer c), (.agg ⟨[(.int .i64 x0_2), (.int .i64 x1_2), (.string x2_2), (.slice x3a_2 x3l_2 x3c_2)]⟩), (.agg ⟨[(.slice x0a x0l x0c), (.int .i64 x1_3)]⟩)] g12 M2 fun v g13 =>
  ∃ x0_3 : Int, ∃ x1_4 : Int, ∃ x2_3 : ByteArray, ∃ x3a_3 : Option Addr, ∃ x3l_3 : Nat, ∃ x3c_3 : Nat, v = (.agg ⟨[(.int .i64 x0_3), (.int .i64 x1_4), (.string x2_3), (.slice x3a_3 x3l_3 x3c_3)]⟩) ∧ SameBut MR1 g9 g13 ∧ ∀ g14 : G, Ex g13 g14 →
  ∀ g15 : G, NewL g14 g15 44 [(.int .i64 x0_3), (.int .i64 x1_4), (.string x2_3), (.slice x3a_3 x3l_3 x3c_3)] →
  ∃ xa : Option Addr, ∃ xl : Nat, ∃ xc : Nat, ∃ wo1 : World, Sem.run Tryz.prog (Builtin.append_ #[42, 42] 42 #[(.slice out3a_1 out3l_1 out3c_1), (.slice (some ⟨g14.w.heap.size, 0, none⟩) 1 1)]) g15.w = .ok (.slice xa xl xc) wo1 ∧ ∃ g16 : G, g16.w = wo1 ∧ Stp g.w.heap.size M g15 g16 ∧ ∀ g17 : G, Ex g16 g17 →
  J_2 out0_1 out1_1 out2_1 xa xl xc g17))) ∧ (∀ g18 : G, Ex g9 g18 →
  (CallsP Tryz.prog 67 #[(.agg ⟨[(.slice s0a s0l s0c), (.int .i64 s1)]⟩)] g18 fun v g19 =>
  ∃ x0a_1 : Option Addr, ∃ x0l_1 : Nat, ∃ x0c_1 : Nat, ∃ x1_5 : Int, v = (.agg ⟨[(.slice x0a_1 x0l_1 x0c_1), (.int .i64 x1_5)]⟩) ∧ (∀ g20 : G, Ex g19 g20 →
  ∃ M3 : Nat → Prop, (∀ b, b < g.w.heap.size → M3 b → M b) ∧ (CallsG Tryz.prog 37 #[(.pointer c), (.agg ⟨[(.int .i64 x0_2), (.int .i64 x1_2), (.string x2_2), (.slice x3a_2 x3l_2 x3c_2)]⟩), (.agg ⟨[(.slice x0a_1 x0l_1 x0c_1), (.int .i64 x1_5)]⟩)] g20 M3 fun v g21 =>
  ∃ x0_4 : Int, ∃ x1_6 : Int, ∃ x2_4 : ByteArray, ∃ x3a_4 : Option Addr, ∃ x3l_4 : Nat, ∃ x3c_4 : Nat, v = (.agg ⟨[(.int .i64 x0_4), (.int .i64 x1_6), (.string x2_4), (.slice x3a_4 x3l_4 x3c_4)]⟩) ∧ SameBut MR1 g9 g21 ∧ ∀ g22 : G, Ex g21 g22 →
  ∀ g23 : G, NewL g22 g23 44 [(.int .i64 x0_4), (.int .i64 x1_6), (.string x2_4), (.slice x3a_4 x3l_4 x3c_4)] →
  ∃ xa_1 : Option Addr, ∃ xl_1 : Nat, ∃ xc_1 : Nat, ∃ wo2 : World, Sem.run Tryz.prog (Builtin.append_ #[42, 42] 42 #[(.slice out3a_1 out3l_1 out3c_1), (.slice (some ⟨g22.w.heap.size, 0, none⟩) 1 1)]) g23.w = .ok (.slice xa_1 xl_1 xc_1) wo2 ∧ ∃ g24 : G, g24.w = wo2 ∧ Stp g.w.heap.size M g23 g24 ∧ ∀ g25 : G, Ex g24 g25 →
  J_2 out0_1 out1_1 out2_1 xa_1 xl_1 xc_1 g25)) ∧ (∀ g26 : G, Ex g19 g26 →
  ∃ M4 : Nat → Prop, (∀ b, b < g.w.heap.size → M4 b → M b) ∧ (CallsG Tryz.prog 37 #[(.pointer c), (.agg ⟨[(.int .i64 x0_2), (.int .i64 x1_2), (.string x2_2), (.slice x3a_2 x3l_2 x3c_2)]⟩), (.agg ⟨[(.slice x0a_1 x0l_1 x0c_1), (.int .i64 x1_5)]⟩)] g26 M4 fun v g27 =>
  ∃ x0_5 : Int, ∃ x1_7 : Int, ∃ x2_5 : ByteArray, ∃ x3a_5 : Option Addr, ∃ x3l_5 : Nat, ∃ x3c_5 : Nat, v = (.agg ⟨[(.int .i64 x0_5), (.int .i64 x1_7), (.string x2_5), (.slice x3a_5 x3l_5 x3c_5)]⟩) ∧ SameBut MR1 g9 g27 ∧ Rep 1 (∀ g28 : G, Ex g27 g28 →
  ∀ g29 : G, NewL g28 g29 44 [(.int .i64 x0_5), (.int .i64 x1_7), (.string x2_5), (.slice x3a_5 x3l_5 x3c_5)] →
  ∃ xa_2 : Option Addr, ∃ xl_2 : Nat, ∃ xc_2 : Nat, ∃ wo3 : World, Sem.run Tryz.prog (Builtin.append_ #[42, 42] 42 #[(.slice out3a_1 out3l_1 out3c_1), (.slice (some ⟨g28.w.heap.size, 0, none⟩) 1 1)]) g29.w = .ok (.slice xa_2 xl_2 xc_2) wo3 ∧ ∃ g30 : G, g30.w = wo3 ∧ Stp g.w.heap.size M g29 g30 ∧ ∀ g31 : G, Ex g30 g31 →
  J_2 out0_1 out1_1 out2_1 xa_2 xl_2 xc_2 g31))))))
  (∀ g36 : G, Ex g8 g36 →
  ∃ MR5 : Nat → Prop, (∀ b, MR5 b → ¬ g36.X b) ∧ (∀ g37 : G, Ex g36 g37 →
  ∃ M6 : Nat → Prop, (∀ b, b < g.w.heap.size → M6 b → M b) ∧ (CallsG Tryz.prog 37 #[(.pointer c), (.agg ⟨[(.int .i64 x0_2), (.int .i64 x1_2), (.string x2_2), (.slice x3a_2 x3l_2 x3c_2)]⟩), (.agg ⟨[(.slice s0a s0l s0c), (.int .i64 s1)]⟩)] g37 M6 fun v g38 =>
  ∃ x0_6 : Int, ∃ x1_8 : Int, ∃ x2_6 : ByteArray, ∃ x3a_6 : Option Addr, ∃ x3l_6 : Nat, ∃ x3c_6 : Nat, v = (.agg ⟨[(.int .i64 x0_6), (.int .i64 x1_8), (.string x2_6), (.slice x3a_6 x3l_6 x3c_6)]⟩) ∧ SameBut MR5 g36 g38 ∧ ∀ g39 : G, Ex g38 g39 →
  ∀ g40 : G, NewL g39 g40 44 [(.int .i64 x0_6), (.int .i64 x1_8), (.string x2_6), (.slice x3a_6 x3l_6 x3c_6)] →
  ∃ xa_4 : Option Addr, ∃ xl_4 : Nat, ∃ xc_4 : Nat, ∃ wo5 : World, Sem.run Tryz.prog (Builtin.append_ #[42, 42] 42 #[(.slice out3a_1 out3l_1 out3c_1), (.slice (some ⟨g39.w.heap.size, 0, none⟩) 1 1)]) g40.w = .ok (.slice xa_4 xl_4 xc_4) wo5 ∧ ∃ g41 : G, g41.w = wo5 ∧ Stp g.w.heap.size M g40 g41 ∧ ∀ g42 : G, Ex g41 g42 →
  J_2 out0_1 out1_1 out2_1 xa_4 xl_4 xc_4 g42)) ∧ (∀ g43 : G, Ex g36 g43 →
  ∃ M7 : Nat → Prop, (∀ b, b < g.w.heap.size → M7 b → M b) ∧ (CallsG Tryz.prog 37 #[(.pointer c), (.agg ⟨[(.int .i64 x0_2), (.int .i64 x1_2), (.string x2_2), (.slice x3a_2 x3l_2 x3c_2)]⟩), (.agg ⟨[(.slice s0a s0l s0c), (.int .i64 s1)]⟩)] g43 M7 fun v g44 =>
  ∃ x0_7 : Int, ∃ x1_9 : Int, ∃ x2_7 : ByteArray, ∃ x3a_7 : Option Addr, ∃ x3l_7 : Nat, ∃ x3c_7 : Nat, v = (.agg ⟨[(.int .i64 x0_7), (.int .i64 x1_9), (.string x2_7), (.slice x3a_7 x3l_7 x3c_7)]⟩) ∧ SameBut MR5 g36 g44 ∧ Rep 1 (∀ g45 : G, Ex g44 g45 →
  ∀ g46 : G, NewL g45 g46 44 [(.int .i64 x0_7), (.int .i64 x1_9), (.string x2_7), (.slice x3a_7 x3l_7 x3c_7)] →
  ∃ xa_5 : Option Addr, ∃ xl_5 : Nat, ∃ xc_5 : Nat, ∃ wo6 : World, Sem.run Tryz.prog (Builtin.append_ #[42, 42] 42 #[(.slice out3a_1 out3l_1 out3c_1), (.slice (some ⟨g45.w.heap.size, 0, none⟩) 1 1)]) g46.w = .ok (.slice xa_5 xl_5 xc_5) wo6 ∧ ∃ g47 : G, g47.w = wo6 ∧ Stp g.w.heap.size M g46 g47 ∧ ∀ g48 : G, Ex g47 g48 →
  J_2 out0_1 out1_1 out2_1 xa_5 xl_5 xc_5 g48))))))
  (∀ g53 : G, Ex g5 g53 →
  R (.agg ⟨[(.int .i64 out0_1), (.int .i64 out1_1), (.string out2_1), (.slice out3a_1 out3l_1 out3c_1)]⟩) g53)) → J_1 out0 out1 out2 out3a out3l out3c g4) →
  ifB (eqI x0 (5 : Int))
  (∀ g54 : G, Ex g3 g54 →
  J_1 (25 : Int) x1 x2 none 0 0 g54)
  (∀ g55 : G, Ex g3 g55 →
  J_1 x0 x1 x2 none 0 0 g55)) → J x0_1 x1_1 x2_1 x3a_1 x3l_1 x3c_1 g3) →
  ifB (eqI x0 (1 : Int))
  ((CallsP Tryz.prog 64 #[(.agg ⟨[(.slice s0a s0l s0c), (.int .i64 s1)]⟩), (.int .i64 x1)] g1 fun v g56 =>
  ∃ x0_8 : Int, ∃ x1_10 : Int, ∃ x2_8 : ByteArray, ∃ x3a_8 : Option Addr, ∃ x3l_8 : Nat, ∃ x3c_8 : Nat, v = (.agg ⟨[(.int .i64 x0_8), (.int .i64 x1_10), (.string x2_8), (.slice x3a_8 x3l_8 x3c_8)]⟩) ∧ ∀ g57 : G, Ex g56 g57 →
  R (.agg ⟨[(.int .i64 x0_8), (.int .i64 x1_10), (.string x2_8), (.slice x3a_8 x3l_8 x3c_8)]⟩) g57))
  (ifB (eqI x0 (4 : Int))
  (∃ M8 : Nat → Prop, (∀ b, b < g.w.heap.size → M8 b → M b) ∧ (CallsG Tryz.prog 65 #[(.pointer c), (.agg ⟨[(.int .i64 x0), (.int .i64 x1), (.string x2), (.slice x3a x3l x3c)]⟩), (.agg ⟨[(.slice s0a s0l s0c), (.int .i64 s1)]⟩)] g1 M8 fun v g58 =>
  ∃ x0_9 : Int, ∃ x1_11 : Int, ∃ x2_9 : ByteArray, ∃ x3a_9 : Option Addr, ∃ x3l_9 : Nat, ∃ x3c_9 : Nat, v = (.agg ⟨[(.int .i64 x0_9), (.int .i64 x1_11), (.string x2_9), (.slice x3a_9 x3l_9 x3c_9)]⟩) ∧ ∀ g59 : G, Ex g58 g59 →
  R (.agg ⟨[(.int .i64 x0_9), (.int .i64 x1_11), (.string x2_9), (.slice x3a_9 x3l_9 x3c_9)]⟩) g59))
  (ifB (eqI x0 (10 : Int))
  (∃ M9 : Nat → Prop, (∀ b, b < g.w.heap.size → M9 b → M b) ∧ (CallsG Tryz.prog 65 #[(.pointer c), (.agg ⟨[(.int .i64 x0), (.int .i64 x1), (.string x2), (.slice x3a x3l x3c)]⟩), (.agg ⟨[(.slice s0a s0l s0c), (.int .i64 s1)]⟩)] g1 M9 fun v g60 =>
  ∃ x0_10 : Int, ∃ x1_12 : Int, ∃ x2_10 : ByteArray, ∃ x3a_10 : Option Addr, ∃ x3l_10 : Nat, ∃ x3c_10 : Nat, v = (.agg ⟨[(.int .i64 x0_10), (.int .i64 x1_12), (.string x2_10), (.slice x3a_10 x3l_10 x3c_10)]⟩) ∧ ∀ g61 : G, Ex g60 g61 →
  R (.agg ⟨[(.int .i64 x0_10), (.int .i64 x1_12), (.string x2_10), (.slice x3a_10 x3l_10 x3c_10)]⟩) g61))
  (J (0 : Int) (0 : Int) (bs []) none 0 0 g1))))
theorem F37_eq (c : Option Addr) (x0 : Int) (x1 : Int) (x2 : ByteArray) (x3a : Option Addr) (x3l : Nat) (x3c : Nat) (s0a : Option Addr) (s0l : Nat) (s0c : Nat) (s1 : Int) (g : G) (M : Nat → Prop) (R : Value → G → Prop) : fnG cfg37 74 [.cell 6 44] c37 an37 [(.pointer c), (.agg ⟨[(.int .i64 x0), (.int .i64 x1), (.string x2), (.slice x3a x3l x3c)]⟩), (.agg ⟨[(.slice s0a s0l s0c), (.int .i64 s1)]⟩)] g M R = F37 c x0 x1 x2 x3a x3l x3c s0a s0l s0c s1 g M R := by kernel_rfl
theorem call37 (c : Option Addr) (x0 : Int) (x1 : Int) (x2 : ByteArray) (x3a : Option Addr) (x3l : Nat) (x3c : Nat) (s0a : Option Addr) (s0l : Nat) (s0c : Nat) (s1 : Int) (g : G) (M : Nat → Prop) (R : Value → G → Prop) (hF : F37 c x0 x1 x2 x3a x3l x3c s0a s0l s0c s1 g M R) : CallsG Tryz.prog 37 #[(.pointer c), (.agg ⟨[(.int .i64 x0), (.int .i64 x1), (.string x2), (.slice x3a x3l x3c)]⟩), (.agg ⟨[(.slice s0a s0l s0c), (.int .i64 s1)]⟩)] g M R :=
  fn_soundG (c := cfg37) TTok FNSok mixed Tryz.func37 (show Tryz.f37.body = some c37 by kernel_rfl) (show Tryz.f37.ntmps = 74 by kernel_rfl) (show Tryz.f37.results.toList = [.cell 6 44] by kernel_rfl) rfl ((F37_eq c x0 x1 x2 x3a x3l x3c s0a s0l s0c s1 g M R ).mpr hF)

/- 38 slices.ContainsFunc[[]pilaster/api.Flat,pilaster/api.Flat] -/
noncomputable def c38 : Code := match Tryz.f38.body with
  | some c => c
  | none => .skip
noncomputable def cfg38 : Cfg := ⟨Tryz.prog, TT, FNS, [], [], [], TCH, false, false, none, PNF, false⟩
def an38 : AnnG := (.seq .leaf (.seq .leaf .leaf))
def F38 (sa : Option Addr) (sl : Nat) (sc : Nat) (ff : FuncId) (fc : Array Value) (g : G) (R : Value → G → Prop) : Prop :=
  (CallsP Tryz.prog 68 #[(.slice sa sl sc), (.func (.func ff) #[] fc)] g fun v g1 =>
  ∃ x : Int, v = (.int .i64 x) ∧ ∀ g2 : G, Ex g1 g2 →
  R (.bool (leI (0 : Int) x)) g2)
theorem F38_eq (sa : Option Addr) (sl : Nat) (sc : Nat) (ff : FuncId) (fc : Array Value) (g : G) (R : Value → G → Prop) : fnG cfg38 9 [.tmp 4] c38 an38 [(.slice sa sl sc), (.func (.func ff) #[] fc)] g nobody R = F38 sa sl sc ff fc g R := by kernel_rfl
theorem call38 (sa : Option Addr) (sl : Nat) (sc : Nat) (ff : FuncId) (fc : Array Value) (g : G) (R : Value → G → Prop) (hF : F38 sa sl sc ff fc g R) : CallsG Tryz.prog 38 #[(.slice sa sl sc), (.func (.func ff) #[] fc)] g nobody R :=
  fn_soundG (c := cfg38) TTok FNSok mixed Tryz.func38 (show Tryz.f38.body = some c38 by kernel_rfl) (show Tryz.f38.ntmps = 9 by kernel_rfl) (show Tryz.f38.results.toList = [.tmp 4] by kernel_rfl) rfl ((F38_eq sa sl sc ff fc g R ).mpr hF)

/- 39 pilaster/closure.Convert$1 -/
noncomputable def c39 : Code := match Tryz.f39.body with
  | some c => c
  | none => .skip
noncomputable def cfg39 : Cfg := ⟨Tryz.prog, TT, FNS, [1], [(1, 1), (3, 1)], [], TCH, false, false, none, PNF, false⟩
def an39 : AnnG := (.seq .leaf (.seq .leaf .leaf))
def F39 (f0 : Int) (f1 : Int) (f2 : Int) (f3 : ByteArray) (f4a : Option Addr) (f4l : Nat) (f4c : Nat) (g : G) (R : Value → G → Prop) : Prop :=
  ∀ g1 : G, Ex g g1 →
  (CallsP Tryz.prog 40 #[(.agg ⟨[(.int .i64 f1), (.int .i64 f2), (.string f3), (.slice f4a f4l f4c)]⟩)] g1 fun v g2 =>
  ∃ x : Bool, v = (.bool x) ∧ ∀ g3 : G, Ex g2 g3 →
  R (.bool x) g3)
theorem F39_eq (f0 : Int) (f1 : Int) (f2 : Int) (f3 : ByteArray) (f4a : Option Addr) (f4l : Nat) (f4c : Nat) (g : G) (R : Value → G → Prop) : fnG cfg39 6 [.tmp 2] c39 an39 [(.agg ⟨[(.int .i64 f0), (.int .i64 f1), (.int .i64 f2), (.string f3), (.slice f4a f4l f4c)]⟩)] g nobody R = F39 f0 f1 f2 f3 f4a f4l f4c g R := by kernel_rfl
theorem call39 (f0 : Int) (f1 : Int) (f2 : Int) (f3 : ByteArray) (f4a : Option Addr) (f4l : Nat) (f4c : Nat) (g : G) (R : Value → G → Prop) (hF : F39 f0 f1 f2 f3 f4a f4l f4c g R) : CallsG Tryz.prog 39 #[(.agg ⟨[(.int .i64 f0), (.int .i64 f1), (.int .i64 f2), (.string f3), (.slice f4a f4l f4c)]⟩)] g nobody R :=
  fn_soundG (c := cfg39) TTok FNSok mixed Tryz.func39 (show Tryz.f39.body = some c39 by kernel_rfl) (show Tryz.f39.ntmps = 6 by kernel_rfl) (show Tryz.f39.results.toList = [.tmp 2] by kernel_rfl) rfl ((F39_eq f0 f1 f2 f3 f4a f4l f4c g R ).mpr hF)

/- 40 pilaster/closure.large -/
noncomputable def c40 : Code := match Tryz.f40.body with
  | some c => c
  | none => .skip
noncomputable def cfg40 : Cfg := ⟨Tryz.prog, TT, FNS, [1], [(1, 1)], [], TCH, false, false, none, PNF, false⟩
def an40 : AnnG := (.seq .leaf (.seq .leaf (.seq .leaf .leaf)))
def F40 (x0 : Int) (x1 : Int) (x2 : ByteArray) (x3a : Option Addr) (x3l : Nat) (x3c : Nat) (g : G) (R : Value → G → Prop) : Prop :=
  ∀ g1 : G, Ex g g1 →
  (CallsP Tryz.prog 69 #[(.agg ⟨[(.int .i64 x0), (.int .i64 x1), (.string x2), (.slice x3a x3l x3c)]⟩)] g1 fun v g2 =>
  ∃ x0_1 : Int, ∃ x1_1 : Int, v = (.tuple ⟨[(.int .i64 x0_1), (.int .i64 x1_1)]⟩) ∧ ifB (ltI (20000 : Int) x0_1)
  (∀ g3 : G, Ex g2 g3 →
  R (.bool true) g3)
  (∀ g4 : G, Ex g2 g4 →
  R (.bool (ltI (400 : Int) x1_1)) g4))
theorem F40_eq (x0 : Int) (x1 : Int) (x2 : ByteArray) (x3a : Option Addr) (x3l : Nat) (x3c : Nat) (g : G) (R : Value → G → Prop) : fnG cfg40 16 [.tmp 2] c40 an40 [(.agg ⟨[(.int .i64 x0), (.int .i64 x1), (.string x2), (.slice x3a x3l x3c)]⟩)] g nobody R = F40 x0 x1 x2 x3a x3l x3c g R := by kernel_rfl
theorem call40 (x0 : Int) (x1 : Int) (x2 : ByteArray) (x3a : Option Addr) (x3l : Nat) (x3c : Nat) (g : G) (R : Value → G → Prop) (hF : F40 x0 x1 x2 x3a x3l x3c g R) : CallsG Tryz.prog 40 #[(.agg ⟨[(.int .i64 x0), (.int .i64 x1), (.string x2), (.slice x3a x3l x3c)]⟩)] g nobody R :=
  fn_soundG (c := cfg40) TTok FNSok mixed Tryz.func40 (show Tryz.f40.body = some c40 by kernel_rfl) (show Tryz.f40.ntmps = 16 by kernel_rfl) (show Tryz.f40.results.toList = [.tmp 2] by kernel_rfl) rfl ((F40_eq x0 x1 x2 x3a x3l x3c g R ).mpr hF)

/- 41 pilaster/closure.within -/
noncomputable def c41 : Code := match Tryz.f41.body with
  | some c => c
  | none => .skip
noncomputable def cfg41 : Cfg := ⟨Tryz.prog, TT, FNS, [], [], [], TCH, false, false, none, PNF, false⟩
def an41 : AnnG := (.seq .leaf (.seq .leaf .leaf))
def F41 (n : Int) (low : Int) (high : Int) (g : G) (R : Value → G → Prop) : Prop :=
  ifB (leI low n)
  (∀ g1 : G, Ex g g1 →
  R (.bool (leI n high)) g1)
  (∀ g2 : G, Ex g g2 →
  R (.bool false) g2)
theorem F41_eq (n : Int) (low : Int) (high : Int) (g : G) (R : Value → G → Prop) : fnG cfg41 15 [.tmp 6] c41 an41 [(.int .i64 n), (.int .i64 low), (.int .i64 high)] g nobody R = F41 n low high g R := by kernel_rfl
theorem call41 (n : Int) (low : Int) (high : Int) (g : G) (R : Value → G → Prop) (hF : F41 n low high g R) : CallsG Tryz.prog 41 #[(.int .i64 n), (.int .i64 low), (.int .i64 high)] g nobody R :=
  fn_soundG (c := cfg41) TTok FNSok mixed Tryz.func41 (show Tryz.f41.body = some c41 by kernel_rfl) (show Tryz.f41.ntmps = 15 by kernel_rfl) (show Tryz.f41.results.toList = [.tmp 6] by kernel_rfl) rfl ((F41_eq n low high g R ).mpr hF)

/- 42 pilaster/closure.Valid$1 -/
noncomputable def c42 : Code := match Tryz.f42.body with
  | some c => c
  | none => .skip
noncomputable def cfg42 : Cfg := ⟨Tryz.prog, TT, FNS, [2], [(2, 2)], [], TCH, false, false, none, PNF, false⟩
def an42 : AnnG := (.seq .leaf (.seq .leaf .leaf))
def F42 (f0 : Int) (f1 : Int) (f2 : Int) (f3 : ByteArray) (f4a : Option Addr) (f4l : Nat) (f4c : Nat) (c0 : Value) (g : G) (R : Value → G → Prop) : Prop :=
  ∀ g1 : G, Ex g g1 →
  (CallsP Tryz.prog 43 #[(.agg ⟨[(.int .i64 f0), (.int .i64 f1), (.int .i64 f2), (.string f3), (.slice f4a f4l f4c)]⟩), (.func (.func 44) #[] ⟨[c0]⟩)] g1 fun v g2 =>
  ∃ x : Bool, v = (.bool x) ∧ ∀ g3 : G, Ex g2 g3 →
  R (.bool (!x)) g3)
theorem F42_eq (f0 : Int) (f1 : Int) (f2 : Int) (f3 : ByteArray) (f4a : Option Addr) (f4l : Nat) (f4c : Nat) (c0 : Value) (g : G) (R : Value → G → Prop) : fnG cfg42 8 [.tmp 3] c42 an42 [(.agg ⟨[(.int .i64 f0), (.int .i64 f1), (.int .i64 f2), (.string f3), (.slice f4a f4l f4c)]⟩), c0] g nobody R = F42 f0 f1 f2 f3 f4a f4l f4c c0 g R := by kernel_rfl
theorem call42 (f0 : Int) (f1 : Int) (f2 : Int) (f3 : ByteArray) (f4a : Option Addr) (f4l : Nat) (f4c : Nat) (c0 : Value) (g : G) (R : Value → G → Prop) (hF : F42 f0 f1 f2 f3 f4a f4l f4c c0 g R) : CallsG Tryz.prog 42 #[(.agg ⟨[(.int .i64 f0), (.int .i64 f1), (.int .i64 f2), (.string f3), (.slice f4a f4l f4c)]⟩), c0] g nobody R :=
  fn_soundG (c := cfg42) TTok FNSok mixed Tryz.func42 (show Tryz.f42.body = some c42 by kernel_rfl) (show Tryz.f42.ntmps = 8 by kernel_rfl) (show Tryz.f42.results.toList = [.tmp 3] by kernel_rfl) rfl ((F42_eq f0 f1 f2 f3 f4a f4l f4c c0 g R ).mpr hF)

/- 43 pilaster/closure.function -/
noncomputable def c43 : Code := match Tryz.f43.body with
  | some c => c
  | none => .skip
noncomputable def cfg43 : Cfg := ⟨Tryz.prog, TT, FNS, [2], [(2, 2), (6, 2), (11, 2), (15, 2), (22, 2)], [], TCH, false, false, none, PNF, false⟩
def an43 : AnnG := (.seq .leaf (.seq .leaf (.seq .leaf .leaf)))
def F43 (f0 : Int) (f1 : Int) (f2 : Int) (f3 : ByteArray) (f4a : Option Addr) (f4l : Nat) (f4c : Nat) (closuresf : FuncId) (closuresc : Array Value) (g : G) (R : Value → G → Prop) : Prop :=
  ∀ g1 : G, Ex g g1 →
  ∀ g2 : G, NewD g1 g2 126 ([(.int .i64 f0), (.func (.func closuresf) #[] closuresc)] : List Value) →
  (CallsP Tryz.prog 41 #[(.int .i64 f0), (.int .i64 (0 : Int)), (.int .i64 (1000 : Int))] g2 fun v g3 =>
  ∃ x : Bool, v = (.bool x) ∧ ifB x
  ((CallsP Tryz.prog 40 #[(.agg ⟨[(.int .i64 f1), (.int .i64 f2), (.string f3), (.slice f4a f4l f4c)]⟩)] g3 fun v g4 =>
  ∃ x_1 : Bool, v = (.bool x_1) ∧ ifB (!x_1)
  ((CallsP Tryz.prog 70 #[(.pointer (some ⟨g1.w.heap.size, 0, none⟩)), (.agg ⟨[(.int .i64 f1), (.int .i64 f2), (.string f3), (.slice f4a f4l f4c)]⟩), (.int .i64 (1 : Int))] g4 fun v g5 =>
  ∃ x_2 : Bool, v = (.bool x_2) ∧ ∀ g6 : G, Ex g5 g6 →
  R (.bool x_2) g6))
  (∀ g7 : G, Ex g4 g7 →
  R (.bool false) g7)))
  (∀ g8 : G, Ex g3 g8 →
  R (.bool false) g8))
theorem F43_eq (f0 : Int) (f1 : Int) (f2 : Int) (f3 : ByteArray) (f4a : Option Addr) (f4l : Nat) (f4c : Nat) (closuresf : FuncId) (closuresc : Array Value) (g : G) (R : Value → G → Prop) : fnG cfg43 26 [.tmp 4] c43 an43 [(.agg ⟨[(.int .i64 f0), (.int .i64 f1), (.int .i64 f2), (.string f3), (.slice f4a f4l f4c)]⟩), (.func (.func closuresf) #[] closuresc)] g nobody R = F43 f0 f1 f2 f3 f4a f4l f4c closuresf closuresc g R := by kernel_rfl
theorem call43 (f0 : Int) (f1 : Int) (f2 : Int) (f3 : ByteArray) (f4a : Option Addr) (f4l : Nat) (f4c : Nat) (closuresf : FuncId) (closuresc : Array Value) (g : G) (R : Value → G → Prop) (hF : F43 f0 f1 f2 f3 f4a f4l f4c closuresf closuresc g R) : CallsG Tryz.prog 43 #[(.agg ⟨[(.int .i64 f0), (.int .i64 f1), (.int .i64 f2), (.string f3), (.slice f4a f4l f4c)]⟩), (.func (.func closuresf) #[] closuresc)] g nobody R :=
  fn_soundG (c := cfg43) TTok FNSok mixed Tryz.func43 (show Tryz.f43.body = some c43 by kernel_rfl) (show Tryz.f43.ntmps = 26 by kernel_rfl) (show Tryz.f43.results.toList = [.tmp 4] by kernel_rfl) rfl ((F43_eq f0 f1 f2 f3 f4a f4l f4c closuresf closuresc g R ).mpr hF)

/- 44 pilaster/closure.Valid$1$1 -/
noncomputable def c44 : Code := match Tryz.f44.body with
  | some c => c
  | none => .skip
noncomputable def cfg44 : Cfg := ⟨Tryz.prog, TT, FNS, [], [], [], TCH, false, false, none, PNF, false⟩
def an44 : AnnG := (.seq .leaf (.seq .leaf .leaf))
def F44 (n : Int) (parts : Int) (c0 : Option Addr) (g : G) (R : Value → G → Prop) : Prop :=
  derefP c0 fun ad => ∃ xa : Option Addr, ∃ xl : Nat, ∃ xc : Nat, g.w.cell? ad = some (.slice xa xl xc) ∧ InI64 (((xl : Nat) : Int) - (1 : Int)) ∧ (CallsP Tryz.prog 41 #[(.int .i64 n), (.int .i64 (0 : Int)), (.int .i64 (((xl : Nat) : Int) - (1 : Int)))] g fun v g1 =>
  ∃ x : Bool, v = (.bool x) ∧ ifB x
  (derefP c0 fun ad_1 => ∃ xa_1 : Option Addr, ∃ xl_1 : Nat, ∃ xc_1 : Nat, g1.w.cell? ad_1 = some (.slice xa_1 xl_1 xc_1) ∧ (0 ≤ n ∧ n < ((xl_1 : Nat) : Int)) ∧ derefP xa_1 fun ad_2 => ∃ x_1 : Int, g1.w.cell? (Addr.add ad_2 (Int.toNat n * 5)) = some (.int .i64 x_1) ∧ ∀ g2 : G, Ex g1 g2 →
  R (.bool (eqI x_1 parts)) g2)
  (∀ g3 : G, Ex g1 g3 →
  R (.bool false) g3))
theorem F44_eq (n : Int) (parts : Int) (c0 : Option Addr) (g : G) (R : Value → G → Prop) : fnG cfg44 20 [.tmp 5] c44 an44 [(.int .i64 n), (.int .i64 parts), (.pointer c0)] g nobody R = F44 n parts c0 g R := by kernel_rfl
theorem call44 (n : Int) (parts : Int) (c0 : Option Addr) (g : G) (R : Value → G → Prop) (hF : F44 n parts c0 g R) : CallsG Tryz.prog 44 #[(.int .i64 n), (.int .i64 parts), (.pointer c0)] g nobody R :=
  fn_soundG (c := cfg44) TTok FNSok mixed Tryz.func44 (show Tryz.f44.body = some c44 by kernel_rfl) (show Tryz.f44.ntmps = 20 by kernel_rfl) (show Tryz.f44.results.toList = [.tmp 5] by kernel_rfl) rfl ((F44_eq n parts c0 g R ).mpr hF)

/- 45 pilaster/lambda.closed -/
/- 47 pilaster/pilasterref44.SameValue -/
noncomputable def c47 : Code := match Tryz.f47.body with
  | some c => c
  | none => .skip
noncomputable def cfg47 : Cfg := ⟨Tryz.prog, TT, FNS, [2, 3], [(2, 2), (3, 3), (7, 2), (9, 3), (13, 2), (15, 3), (20, 2), (22, 3), (27, 2), (30, 3), (36, 2), (39, 3), (45, 2), (51, 2), (56, 3), (63, 2), (69, 2), (74, 3)], [], TCH, false, false, none, PNF, false⟩
def an47 : AnnG := (.seq .leaf (.join ⟨[], [], []⟩ (.seq .leaf (.cond (.seq .leaf .leaf) .leaf)) (.seq (.seq .leaf (.blk (.loop ⟨[(5, .int .i64)], [], []⟩ (.seq (.seq .leaf (.cond .leaf .leaf)) (.seq (.blk (.seq (.tree 10 (.quiet 0 (.quiet 1 (.quiet 2 (.quiet 3 (.quiet 4 (.quiet 5 (.quiet 6 (.quiet 7 (.quiet 8 (.quiet 9 .fin))))))))))) (.cond (.seq .leaf .leaf) .leaf))) .leaf))))) (.seq (.seq .leaf (.blk (.loop ⟨[(6, .int .i64)], [], []⟩ (.seq (.seq .leaf (.cond .leaf .leaf)) (.seq (.blk (.seq (.tree 10 (.quiet 0 (.quiet 1 (.quiet 2 (.quiet 3 (.quiet 4 (.quiet 5 (.quiet 6 (.quiet 7 (.quiet 8 (.quiet 9 .fin))))))))))) (.cond (.seq .leaf .leaf) .leaf))) .leaf))))) (.seq .leaf .leaf)))))
def F47 (a0 : Int) (a1 : Int) (a2 : ByteArray) (a3a : Option Addr) (a3l : Nat) (a3c : Nat) (a4a : Option Addr) (a4l : Nat) (a4c : Nat) (b0 : Int) (b1 : Int) (b2 : ByteArray) (b3a : Option Addr) (b3l : Nat) (b3c : Nat) (b4a : Option Addr) (b4l : Nat) (b4c : Nat) (g : G) (R : Value → G → Prop) : Prop :=
  ∀ J : G → Prop,
  (∀ g1 : G, (∃ Inv : Nat → Int → G → Prop, ((∃ m0 : Nat, Inv m0 (0 : Int) g1)) ∧
  ∀ m : Nat, ∀ i : Int, ∀ g2 : G, Le g1 g2 → Inv m i g2 →
  ifB (ltI i ((a3l : Nat) : Int))
  (∀ g3 : G, Ex g2 g3 →
  (0 ≤ i ∧ i < ((a3l : Nat) : Int)) ∧ derefP a3a fun ad => ∃ x : ByteArray, g3.w.cell? (Addr.add ad (Int.toNat i * 1)) = some (.string x) ∧ (0 ≤ i ∧ i < ((b3l : Nat) : Int)) ∧ derefP b3a fun ad_1 => ∃ x_1 : ByteArray, g3.w.cell? (Addr.add ad_1 (Int.toNat i * 1)) = some (.string x_1) ∧ ifB (!strEq x x_1)
  (∀ g4 : G, Ex g3 g4 →
  R (.bool false) g4)
  (InI64 (i + (1 : Int)) ∧ (∃ m_1 : Nat, m_1 < m ∧ Inv m_1 (i + (1 : Int)) g3)))
  (∃ Inv_1 : Nat → Int → G → Prop, ((∃ m0 : Nat, Inv_1 m0 (0 : Int) g2)) ∧
  ∀ m_2 : Nat, ∀ i_1 : Int, ∀ g5 : G, Le g2 g5 → Inv_1 m_2 i_1 g5 →
  ifB (ltI i_1 ((a4l : Nat) : Int))
  (∀ g6 : G, Ex g5 g6 →
  (0 ≤ i_1 ∧ i_1 < ((a4l : Nat) : Int)) ∧ derefP a4a fun ad_2 => ∃ x0 : Int, ∃ x1 : Int, ∃ x2 : ByteArray, ∃ x3a : Option Addr, ∃ x3l : Nat, ∃ x3c : Nat, ∃ x4a : Option Addr, ∃ x4l : Nat, ∃ x4c : Nat, g6.w.cell? (Addr.add ad_2 (Int.toNat i_1 * 5)) = some (.int .i64 x0) ∧ g6.w.cell? (Addr.add (Addr.add ad_2 (Int.toNat i_1 * 5)) 1) = some (.int .i64 x1) ∧ g6.w.cell? (Addr.add (Addr.add ad_2 (Int.toNat i_1 * 5)) 2) = some (.string x2) ∧ g6.w.cell? (Addr.add (Addr.add ad_2 (Int.toNat i_1 * 5)) 3) = some (.slice x3a x3l x3c) ∧ g6.w.cell? (Addr.add (Addr.add ad_2 (Int.toNat i_1 * 5)) 4) = some (.slice x4a x4l x4c) ∧ (0 ≤ i_1 ∧ i_1 < ((b4l : Nat) : Int)) ∧ derefP b4a fun ad_3 => ∃ x0_1 : Int, ∃ x1_1 : Int, ∃ x2_1 : ByteArray, ∃ x3a_1 : Option Addr, ∃ x3l_1 : Nat, ∃ x3c_1 : Nat, ∃ x4a_1 : Option Addr, ∃ x4l_1 : Nat, ∃ x4c_1 : Nat, g6.w.cell? (Addr.add ad_3 (Int.toNat i_1 * 5)) = some (.int .i64 x0_1) ∧ g6.w.cell? (Addr.add (Addr.add ad_3 (Int.toNat i_1 * 5)) 1) = some (.int .i64 x1_1) ∧ g6.w.cell? (Addr.add (Addr.add ad_3 (Int.toNat i_1 * 5)) 2) = some (.string x2_1) ∧ g6.w.cell? (Addr.add (Addr.add ad_3 (Int.toNat i_1 * 5)) 3) = some (.slice x3a_1 x3l_1 x3c_1) ∧ g6.w.cell? (Addr.add (Addr.add ad_3 (Int.toNat i_1 * 5)) 4) = some (.slice x4a_1 x4l_1 x4c_1) ∧ (CallsP Tryz.prog 47 #[(.agg ⟨[(.int .i64 x0), (.int .i64 x1), (.string x2), (.slice x3a x3l x3c), (.slice x4a x4l x4c)]⟩), (.agg ⟨[(.int .i64 x0_1), (.int .i64 x1_1), (.string x2_1), (.slice x3a_1 x3l_1 x3c_1), (.slice x4a_1 x4l_1 x4c_1)]⟩)] g6 fun v g7 =>
  ∃ x_2 : Bool, v = (.bool x_2) ∧ ifB (!x_2)
  (∀ g8 : G, Ex g7 g8 →
  R (.bool false) g8)
  (InI64 (i_1 + (1 : Int)) ∧ (∃ m_3 : Nat, m_3 < m_2 ∧ Inv_1 m_3 (i_1 + (1 : Int)) g7))))
  (∀ g9 : G, Ex g5 g9 →
  R (.bool true) g9))) → J g1) →
  ifB (!eqI a0 b0)
  (∀ g10 : G, Ex g g10 →
  R (.bool false) g10)
  (ifB (!eqI a1 b1)
  (∀ g11 : G, Ex g g11 →
  R (.bool false) g11)
  (ifB (!strEq a2 b2)
  (∀ g12 : G, Ex g g12 →
  R (.bool false) g12)
  (ifB (!eqI ((a4l : Nat) : Int) ((b4l : Nat) : Int))
  (∀ g13 : G, Ex g g13 →
  R (.bool false) g13)
  (ifB (!eqI ((a3l : Nat) : Int) ((b3l : Nat) : Int))
  (∀ g14 : G, Ex g g14 →
  R (.bool false) g14)
  (∀ g15 : G, Ex g g15 →
  J g15)))))
theorem F47_eq (a0 : Int) (a1 : Int) (a2 : ByteArray) (a3a : Option Addr) (a3l : Nat) (a3c : Nat) (a4a : Option Addr) (a4l : Nat) (a4c : Nat) (b0 : Int) (b1 : Int) (b2 : ByteArray) (b3a : Option Addr) (b3l : Nat) (b3c : Nat) (b4a : Option Addr) (b4l : Nat) (b4c : Nat) (g : G) (R : Value → G → Prop) : fnG cfg47 81 [.tmp 4] c47 an47 [(.agg ⟨[(.int .i64 a0), (.int .i64 a1), (.string a2), (.slice a3a a3l a3c), (.slice a4a a4l a4c)]⟩), (.agg ⟨[(.int .i64 b0), (.int .i64 b1), (.string b2), (.slice b3a b3l b3c), (.slice b4a b4l b4c)]⟩)] g nobody R = F47 a0 a1 a2 a3a a3l a3c a4a a4l a4c b0 b1 b2 b3a b3l b3c b4a b4l b4c g R := by kernel_rfl
theorem call47 (a0 : Int) (a1 : Int) (a2 : ByteArray) (a3a : Option Addr) (a3l : Nat) (a3c : Nat) (a4a : Option Addr) (a4l : Nat) (a4c : Nat) (b0 : Int) (b1 : Int) (b2 : ByteArray) (b3a : Option Addr) (b3l : Nat) (b3c : Nat) (b4a : Option Addr) (b4l : Nat) (b4c : Nat) (g : G) (R : Value → G → Prop) (hF : F47 a0 a1 a2 a3a a3l a3c a4a a4l a4c b0 b1 b2 b3a b3l b3c b4a b4l b4c g R) : CallsG Tryz.prog 47 #[(.agg ⟨[(.int .i64 a0), (.int .i64 a1), (.string a2), (.slice a3a a3l a3c), (.slice a4a a4l a4c)]⟩), (.agg ⟨[(.int .i64 b0), (.int .i64 b1), (.string b2), (.slice b3a b3l b3c), (.slice b4a b4l b4c)]⟩)] g nobody R :=
  fn_soundG (c := cfg47) TTok FNSok mixed Tryz.func47 (show Tryz.f47.body = some c47 by kernel_rfl) (show Tryz.f47.ntmps = 81 by kernel_rfl) (show Tryz.f47.results.toList = [.tmp 4] by kernel_rfl) rfl ((F47_eq a0 a1 a2 a3a a3l a3c a4a a4l a4c b0 b1 b2 b3a b3l b3c b4a b4l b4c g R ).mpr hF)

/- 48 pilaster/pilasterref44.SameTexts -/
noncomputable def c48 : Code := match Tryz.f48.body with
  | some c => c
  | none => .skip
noncomputable def cfg48 : Cfg := ⟨Tryz.prog, TT, FNS, [], [], [], TCH, false, false, none, PNF, false⟩
def an48 : AnnG := (.seq .leaf (.seq (.seq .leaf (.cond (.seq .leaf .leaf) .leaf)) (.seq (.seq .leaf (.blk (.loop ⟨[(5, .int .i64)], [], []⟩ (.seq (.seq .leaf (.cond .leaf .leaf)) (.seq (.blk (.seq (.tree 8 (.quiet 0 (.quiet 1 (.quiet 2 (.quiet 3 (.quiet 4 (.quiet 5 (.quiet 6 (.quiet 7 .fin))))))))) (.cond (.seq .leaf .leaf) .leaf))) .leaf))))) (.seq .leaf .leaf))))
def F48 (aa : Option Addr) (al : Nat) (ac : Nat) (ba : Option Addr) (bl : Nat) (bc : Nat) (g : G) (R : Value → G → Prop) : Prop :=
  ifB (!eqI ((al : Nat) : Int) ((bl : Nat) : Int))
  (∀ g1 : G, Ex g g1 →
  R (.bool false) g1)
  (∃ Inv : Nat → Int → G → Prop, ((∃ m0 : Nat, Inv m0 (0 : Int) g)) ∧
  ∀ m : Nat, ∀ i : Int, ∀ g2 : G, Le g g2 → Inv m i g2 →
  ifB (ltI i ((al : Nat) : Int))
  (∀ g3 : G, Ex g2 g3 →
  (0 ≤ i ∧ i < ((al : Nat) : Int)) ∧ derefP aa fun ad => ∃ x : ByteArray, g3.w.cell? (Addr.add ad (Int.toNat i * 1)) = some (.string x) ∧ (0 ≤ i ∧ i < ((bl : Nat) : Int)) ∧ derefP ba fun ad_1 => ∃ x_1 : ByteArray, g3.w.cell? (Addr.add ad_1 (Int.toNat i * 1)) = some (.string x_1) ∧ ifB (!strEq x x_1)
  (∀ g4 : G, Ex g3 g4 →
  R (.bool false) g4)
  (InI64 (i + (1 : Int)) ∧ (∃ m_1 : Nat, m_1 < m ∧ Inv m_1 (i + (1 : Int)) g3)))
  (∀ g5 : G, Ex g2 g5 →
  R (.bool true) g5))
theorem F48_eq (aa : Option Addr) (al : Nat) (ac : Nat) (ba : Option Addr) (bl : Nat) (bc : Nat) (g : G) (R : Value → G → Prop) : fnG cfg48 26 [.tmp 4] c48 an48 [(.slice aa al ac), (.slice ba bl bc)] g nobody R = F48 aa al ac ba bl bc g R := by kernel_rfl
theorem call48 (aa : Option Addr) (al : Nat) (ac : Nat) (ba : Option Addr) (bl : Nat) (bc : Nat) (g : G) (R : Value → G → Prop) (hF : F48 aa al ac ba bl bc g R) : CallsG Tryz.prog 48 #[(.slice aa al ac), (.slice ba bl bc)] g nobody R :=
  fn_soundG (c := cfg48) TTok FNSok mixed Tryz.func48 (show Tryz.f48.body = some c48 by kernel_rfl) (show Tryz.f48.ntmps = 26 by kernel_rfl) (show Tryz.f48.results.toList = [.tmp 4] by kernel_rfl) rfl ((F48_eq aa al ac ba bl bc g R ).mpr hF)

/- 49 pilaster/pilasterref45.SameExp -/
noncomputable def c49 : Code := match Tryz.f49.body with
  | some c => c
  | none => .skip
noncomputable def cfg49 : Cfg := ⟨Tryz.prog, TT, FNS, [2, 3], [(2, 2), (3, 3), (6, 2), (8, 3), (12, 2), (14, 3), (19, 2), (21, 3), (26, 2), (29, 3), (35, 2), (41, 2), (46, 3)], [], TCH, false, false, none, PNF, false⟩
def an49 : AnnG := (.seq .leaf (.join ⟨[], [], []⟩ (.seq .leaf (.cond (.seq .leaf .leaf) .leaf)) (.seq (.seq .leaf (.blk (.loop ⟨[(5, .int .i64)], [], []⟩ (.seq (.seq .leaf (.cond .leaf .leaf)) (.seq (.blk (.seq (.tree 10 (.quiet 0 (.quiet 1 (.quiet 2 (.quiet 3 (.quiet 4 (.quiet 5 (.quiet 6 (.quiet 7 (.quiet 8 (.quiet 9 .fin))))))))))) (.cond (.seq .leaf .leaf) .leaf))) .leaf))))) (.seq .leaf .leaf))))
def F49 (a0 : Int) (a1 : Int) (a2 : ByteArray) (a3a : Option Addr) (a3l : Nat) (a3c : Nat) (b0 : Int) (b1 : Int) (b2 : ByteArray) (b3a : Option Addr) (b3l : Nat) (b3c : Nat) (g : G) (R : Value → G → Prop) : Prop :=
  ∀ J : G → Prop,
  (∀ g1 : G, (∃ Inv : Nat → Int → G → Prop, ((∃ m0 : Nat, Inv m0 (0 : Int) g1)) ∧
  ∀ m : Nat, ∀ i : Int, ∀ g2 : G, Le g1 g2 → Inv m i g2 →
  ifB (ltI i ((a3l : Nat) : Int))
  (∀ g3 : G, Ex g2 g3 →
  (0 ≤ i ∧ i < ((a3l : Nat) : Int)) ∧ derefP a3a fun ad => ∃ x0 : Int, ∃ x1 : Int, ∃ x2 : ByteArray, ∃ x3a : Option Addr, ∃ x3l : Nat, ∃ x3c : Nat, g3.w.cell? (Addr.add ad (Int.toNat i * 4)) = some (.int .i64 x0) ∧ g3.w.cell? (Addr.add (Addr.add ad (Int.toNat i * 4)) 1) = some (.int .i64 x1) ∧ g3.w.cell? (Addr.add (Addr.add ad (Int.toNat i * 4)) 2) = some (.string x2) ∧ g3.w.cell? (Addr.add (Addr.add ad (Int.toNat i * 4)) 3) = some (.slice x3a x3l x3c) ∧ (0 ≤ i ∧ i < ((b3l : Nat) : Int)) ∧ derefP b3a fun ad_1 => ∃ x0_1 : Int, ∃ x1_1 : Int, ∃ x2_1 : ByteArray, ∃ x3a_1 : Option Addr, ∃ x3l_1 : Nat, ∃ x3c_1 : Nat, g3.w.cell? (Addr.add ad_1 (Int.toNat i * 4)) = some (.int .i64 x0_1) ∧ g3.w.cell? (Addr.add (Addr.add ad_1 (Int.toNat i * 4)) 1) = some (.int .i64 x1_1) ∧ g3.w.cell? (Addr.add (Addr.add ad_1 (Int.toNat i * 4)) 2) = some (.string x2_1) ∧ g3.w.cell? (Addr.add (Addr.add ad_1 (Int.toNat i * 4)) 3) = some (.slice x3a_1 x3l_1 x3c_1) ∧ (CallsP Tryz.prog 49 #[(.agg ⟨[(.int .i64 x0), (.int .i64 x1), (.string x2), (.slice x3a x3l x3c)]⟩), (.agg ⟨[(.int .i64 x0_1), (.int .i64 x1_1), (.string x2_1), (.slice x3a_1 x3l_1 x3c_1)]⟩)] g3 fun v g4 =>
  ∃ x : Bool, v = (.bool x) ∧ ifB (!x)
  (∀ g5 : G, Ex g4 g5 →
  R (.bool false) g5)
  (InI64 (i + (1 : Int)) ∧ (∃ m_1 : Nat, m_1 < m ∧ Inv m_1 (i + (1 : Int)) g4))))
  (∀ g6 : G, Ex g2 g6 →
  R (.bool true) g6)) → J g1) →
  ifB (!eqI a0 b0)
  (∀ g7 : G, Ex g g7 →
  R (.bool false) g7)
  (ifB (!eqI a1 b1)
  (∀ g8 : G, Ex g g8 →
  R (.bool false) g8)
  (ifB (!strEq a2 b2)
  (∀ g9 : G, Ex g g9 →
  R (.bool false) g9)
  (ifB (!eqI ((a3l : Nat) : Int) ((b3l : Nat) : Int))
  (∀ g10 : G, Ex g g10 →
  R (.bool false) g10)
  (∀ g11 : G, Ex g g11 →
  J g11))))
theorem F49_eq (a0 : Int) (a1 : Int) (a2 : ByteArray) (a3a : Option Addr) (a3l : Nat) (a3c : Nat) (b0 : Int) (b1 : Int) (b2 : ByteArray) (b3a : Option Addr) (b3l : Nat) (b3c : Nat) (g : G) (R : Value → G → Prop) : fnG cfg49 53 [.tmp 4] c49 an49 [(.agg ⟨[(.int .i64 a0), (.int .i64 a1), (.string a2), (.slice a3a a3l a3c)]⟩), (.agg ⟨[(.int .i64 b0), (.int .i64 b1), (.string b2), (.slice b3a b3l b3c)]⟩)] g nobody R = F49 a0 a1 a2 a3a a3l a3c b0 b1 b2 b3a b3l b3c g R := by kernel_rfl
theorem call49 (a0 : Int) (a1 : Int) (a2 : ByteArray) (a3a : Option Addr) (a3l : Nat) (a3c : Nat) (b0 : Int) (b1 : Int) (b2 : ByteArray) (b3a : Option Addr) (b3l : Nat) (b3c : Nat) (g : G) (R : Value → G → Prop) (hF : F49 a0 a1 a2 a3a a3l a3c b0 b1 b2 b3a b3l b3c g R) : CallsG Tryz.prog 49 #[(.agg ⟨[(.int .i64 a0), (.int .i64 a1), (.string a2), (.slice a3a a3l a3c)]⟩), (.agg ⟨[(.int .i64 b0), (.int .i64 b1), (.string b2), (.slice b3a b3l b3c)]⟩)] g nobody R :=
  fn_soundG (c := cfg49) TTok FNSok mixed Tryz.func49 (show Tryz.f49.body = some c49 by kernel_rfl) (show Tryz.f49.ntmps = 53 by kernel_rfl) (show Tryz.f49.results.toList = [.tmp 4] by kernel_rfl) rfl ((F49_eq a0 a1 a2 a3a a3l a3c b0 b1 b2 b3a b3l b3c g R ).mpr hF)

/- 52 pilaster/pilasterref45.count -/
noncomputable def c52 : Code := match Tryz.f52.body with
  | some c => c
  | none => .skip
noncomputable def cfg52 : Cfg := ⟨Tryz.prog, TT, FNS, [3], [(3, 3), (13, 3), (25, 3)], [], TCH, false, false, none, PNF, false⟩
def an52 : AnnG := (.seq .leaf (.seq (.seq .leaf (.cond (.seq .leaf .leaf) .leaf)) (.seq .leaf (.seq (.seq .leaf (.blk (.loop ⟨[(7, .int .i64), (8, .int .i64)], [], []⟩ (.join ⟨[], [], []⟩ (.seq .leaf (.cond .leaf .leaf)) (.seq (.blk .leaf) .leaf))))) (.seq .leaf .leaf)))))
def F52 (x0 : Int) (x1 : Int) (x2 : ByteArray) (x3a : Option Addr) (x3l : Nat) (x3c : Nat) (left : Int) (depth : Int) (g : G) (R : Value → G → Prop) : Prop :=
  ifB (ltI (400 : Int) depth)
  (∀ g1 : G, Ex g g1 →
  R (.int .i64 left) g1)
  (∃ Inv : Nat → Int → Int → G → Prop, (∀ g2 : G, Ex g g2 →
  (∃ m0 : Nat, Inv m0 (1 : Int) (0 : Int) g2)) ∧
  ∀ m : Nat, ∀ n : Int, ∀ i : Int, ∀ g3 : G, Le g g3 → Inv m n i g3 →
  ∀ J : G → Prop,
  (∀ g4 : G, ((0 ≤ i ∧ i < ((x3l : Nat) : Int)) ∧ derefP x3a fun ad => ∃ x0_1 : Int, ∃ x1_1 : Int, ∃ x2_1 : ByteArray, ∃ x3a_1 : Option Addr, ∃ x3l_1 : Nat, ∃ x3c_1 : Nat, g4.w.cell? (Addr.add ad (Int.toNat i * 4)) = some (.int .i64 x0_1) ∧ g4.w.cell? (Addr.add (Addr.add ad (Int.toNat i * 4)) 1) = some (.int .i64 x1_1) ∧ g4.w.cell? (Addr.add (Addr.add ad (Int.toNat i * 4)) 2) = some (.string x2_1) ∧ g4.w.cell? (Addr.add (Addr.add ad (Int.toNat i * 4)) 3) = some (.slice x3a_1 x3l_1 x3c_1) ∧ InI64 (left - n) ∧ InI64 (depth + (1 : Int)) ∧ (CallsP Tryz.prog 52 #[(.agg ⟨[(.int .i64 x0_1), (.int .i64 x1_1), (.string x2_1), (.slice x3a_1 x3l_1 x3c_1)]⟩), (.int .i64 (left - n)), (.int .i64 (depth + (1 : Int)))] g4 fun v g5 =>
  ∃ x : Int, v = (.int .i64 x) ∧ InI64 (n + x) ∧ InI64 (i + (1 : Int)) ∧ (∃ m_1 : Nat, m_1 < m ∧ Inv m_1 (n + x) (i + (1 : Int)) g5))) → J g4) →
  ifB (ltI i ((x3l : Nat) : Int))
  (ifB (ltI n left)
  (J g3)
  (∀ g6 : G, Ex g3 g6 →
  R (.int .i64 n) g6))
  (∀ g7 : G, Ex g3 g7 →
  R (.int .i64 n) g7))
theorem F52_eq (x0 : Int) (x1 : Int) (x2 : ByteArray) (x3a : Option Addr) (x3l : Nat) (x3c : Nat) (left : Int) (depth : Int) (g : G) (R : Value → G → Prop) : fnG cfg52 38 [.tmp 6] c52 an52 [(.agg ⟨[(.int .i64 x0), (.int .i64 x1), (.string x2), (.slice x3a x3l x3c)]⟩), (.int .i64 left), (.int .i64 depth)] g nobody R = F52 x0 x1 x2 x3a x3l x3c left depth g R := by kernel_rfl
theorem call52 (x0 : Int) (x1 : Int) (x2 : ByteArray) (x3a : Option Addr) (x3l : Nat) (x3c : Nat) (left : Int) (depth : Int) (g : G) (R : Value → G → Prop) (hF : F52 x0 x1 x2 x3a x3l x3c left depth g R) : CallsG Tryz.prog 52 #[(.agg ⟨[(.int .i64 x0), (.int .i64 x1), (.string x2), (.slice x3a x3l x3c)]⟩), (.int .i64 left), (.int .i64 depth)] g nobody R :=
  fn_soundG (c := cfg52) TTok FNSok mixed Tryz.func52 (show Tryz.f52.body = some c52 by kernel_rfl) (show Tryz.f52.ntmps = 38 by kernel_rfl) (show Tryz.f52.results.toList = [.tmp 6] by kernel_rfl) rfl ((F52_eq x0 x1 x2 x3a x3l x3c left depth g R ).mpr hF)

/- 53 pilaster/pilasterref45.body -/
noncomputable def c53 : Code := match Tryz.f53.body with
  | some c => c
  | none => .skip
noncomputable def cfg53 : Cfg := ⟨Tryz.prog, TT, FNS, [3], [(3, 3), (13, 3), (17, 3), (24, 3), (28, 3), (35, 3), (47, 3)], [], TCH, false, false, none, PNF, false⟩
def an53 : AnnG := (.seq .leaf (.join ⟨[], [], []⟩ (.seq .leaf (.cond (.seq .leaf .leaf) .leaf)) (.seq (.seq .leaf (.blk (.loop ⟨[(7, .int .i64)], [], []⟩ (.seq (.seq .leaf (.cond .leaf .leaf)) (.seq (.blk (.seq .leaf (.join ⟨[(8, .int .i64)], [], []⟩ (.seq .leaf (.cond .leaf .leaf)) (.seq .leaf (.cond (.seq .leaf .leaf) .leaf))))) .leaf))))) (.seq .leaf .leaf))))
def F53 (x0 : Int) (x1 : Int) (x2 : ByteArray) (x3a : Option Addr) (x3l : Nat) (x3c : Nat) (captures : Int) (locals : Int) (g : G) (R : Value → G → Prop) : Prop :=
  ∀ J : G → Prop,
  (∀ g1 : G, (∃ Inv : Nat → Int → G → Prop, ((∃ m0 : Nat, Inv m0 (0 : Int) g1)) ∧
  ∀ m : Nat, ∀ i : Int, ∀ g2 : G, Le g1 g2 → Inv m i g2 →
  ifB (ltI i ((x3l : Nat) : Int))
  (∀ J_1 : Int → G → Prop,
  (∀ more : Int, ∀ g3 : G, ((0 ≤ i ∧ i < ((x3l : Nat) : Int)) ∧ derefP x3a fun ad => ∃ x0_1 : Int, ∃ x1_1 : Int, ∃ x2_1 : ByteArray, ∃ x3a_1 : Option Addr, ∃ x3l_1 : Nat, ∃ x3c_1 : Nat, g3.w.cell? (Addr.add ad (Int.toNat i * 4)) = some (.int .i64 x0_1) ∧ g3.w.cell? (Addr.add (Addr.add ad (Int.toNat i * 4)) 1) = some (.int .i64 x1_1) ∧ g3.w.cell? (Addr.add (Addr.add ad (Int.toNat i * 4)) 2) = some (.string x2_1) ∧ g3.w.cell? (Addr.add (Addr.add ad (Int.toNat i * 4)) 3) = some (.slice x3a_1 x3l_1 x3c_1) ∧ (CallsP Tryz.prog 53 #[(.agg ⟨[(.int .i64 x0_1), (.int .i64 x1_1), (.string x2_1), (.slice x3a_1 x3l_1 x3c_1)]⟩), (.int .i64 captures), (.int .i64 more)] g3 fun v g4 =>
  ∃ x : Bool, v = (.bool x) ∧ ifB (!x)
  (∀ g5 : G, Ex g4 g5 →
  R (.bool false) g5)
  (InI64 (i + (1 : Int)) ∧ (∃ m_1 : Nat, m_1 < m ∧ Inv m_1 (i + (1 : Int)) g4)))) → J_1 more g3) →
  (CallsP Tryz.prog 79 #[(.agg ⟨[(.int .i64 x0), (.int .i64 x1), (.string x2), (.slice x3a x3l x3c)]⟩), (.int .i64 i)] g2 fun v g6 =>
  ∃ x_1 : Bool, v = (.bool x_1) ∧ ifB x_1
  (InI64 (locals + (1 : Int)) ∧ J_1 (locals + (1 : Int)) g6)
  (J_1 locals g6)))
  (∀ g7 : G, Ex g2 g7 →
  R (.bool true) g7)) → J g1) →
  ∀ g8 : G, Ex g g8 →
  (CallsP Tryz.prog 78 #[(.agg ⟨[(.int .i64 x0), (.int .i64 x1), (.string x2), (.slice x3a x3l x3c)]⟩)] g8 fun v g9 =>
  ∃ x_2 : Bool, v = (.bool x_2) ∧ ifB (!x_2)
  (∀ g10 : G, Ex g9 g10 →
  R (.bool false) g10)
  (ifB (eqI x0 (21 : Int))
  (ifB (leI locals x1)
  (∀ g11 : G, Ex g9 g11 →
  R (.bool false) g11)
  (ifB (eqI x0 (23 : Int))
  (ifB (leI captures x1)
  (∀ g12 : G, Ex g9 g12 →
  R (.bool false) g12)
  (J g9))
  (J g9)))
  (ifB (eqI x0 (23 : Int))
  (ifB (leI captures x1)
  (∀ g13 : G, Ex g9 g13 →
  R (.bool false) g13)
  (J g9))
  (J g9))))
theorem F53_eq (x0 : Int) (x1 : Int) (x2 : ByteArray) (x3a : Option Addr) (x3l : Nat) (x3c : Nat) (captures : Int) (locals : Int) (g : G) (R : Value → G → Prop) : fnG cfg53 56 [.tmp 6] c53 an53 [(.agg ⟨[(.int .i64 x0), (.int .i64 x1), (.string x2), (.slice x3a x3l x3c)]⟩), (.int .i64 captures), (.int .i64 locals)] g nobody R = F53 x0 x1 x2 x3a x3l x3c captures locals g R := by kernel_rfl
theorem call53 (x0 : Int) (x1 : Int) (x2 : ByteArray) (x3a : Option Addr) (x3l : Nat) (x3c : Nat) (captures : Int) (locals : Int) (g : G) (R : Value → G → Prop) (hF : F53 x0 x1 x2 x3a x3l x3c captures locals g R) : CallsG Tryz.prog 53 #[(.agg ⟨[(.int .i64 x0), (.int .i64 x1), (.string x2), (.slice x3a x3l x3c)]⟩), (.int .i64 captures), (.int .i64 locals)] g nobody R :=
  fn_soundG (c := cfg53) TTok FNSok mixed Tryz.func53 (show Tryz.f53.body = some c53 by kernel_rfl) (show Tryz.f53.ntmps = 56 by kernel_rfl) (show Tryz.f53.results.toList = [.tmp 6] by kernel_rfl) rfl ((F53_eq x0 x1 x2 x3a x3l x3c captures locals g R ).mpr hF)

/- 54 pilaster/pilasterref45.end -/
noncomputable def c54 : Code := match Tryz.f54.body with
  | some c => c
  | none => .skip
noncomputable def cfg54 : Cfg := ⟨Tryz.prog, TT, FNS, [3, 6], [(3, 3), (6, 6), (8, 3), (10, 3)], [], TCH, false, false, none, PNF, false⟩
def an54 : AnnG := (.seq .leaf (.seq .leaf (.seq .leaf (.seq .leaf .leaf))))
def F54 (s0 : Int) (s1 : Int) (s2 : Int) (s3 : Int) (s4a : Option Addr) (s4l : Nat) (s4c : Nat) (op : Int) (n : Int) (g : G) (R : Value → G → Prop) : Prop :=
  ∀ g1 : G, Ex g g1 →
  R (.agg ⟨[(.int .i64 op), (.int .i64 n), (.int .i64 s2), (.int .i64 s3), (.slice s4a s4l s4c)]⟩) g1
theorem F54_eq (s0 : Int) (s1 : Int) (s2 : Int) (s3 : Int) (s4a : Option Addr) (s4l : Nat) (s4c : Nat) (op : Int) (n : Int) (g : G) (R : Value → G → Prop) : fnG cfg54 12 [.cell 6 79] c54 an54 [(.agg ⟨[(.int .i64 s0), (.int .i64 s1), (.int .i64 s2), (.int .i64 s3), (.slice s4a s4l s4c)]⟩), (.int .i64 op), (.int .i64 n)] g nobody R = F54 s0 s1 s2 s3 s4a s4l s4c op n g R := by kernel_rfl
theorem call54 (s0 : Int) (s1 : Int) (s2 : Int) (s3 : Int) (s4a : Option Addr) (s4l : Nat) (s4c : Nat) (op : Int) (n : Int) (g : G) (R : Value → G → Prop) (hF : F54 s0 s1 s2 s3 s4a s4l s4c op n g R) : CallsG Tryz.prog 54 #[(.agg ⟨[(.int .i64 s0), (.int .i64 s1), (.int .i64 s2), (.int .i64 s3), (.slice s4a s4l s4c)]⟩), (.int .i64 op), (.int .i64 n)] g nobody R :=
  fn_soundG (c := cfg54) TTok FNSok mixed Tryz.func54 (show Tryz.f54.body = some c54 by kernel_rfl) (show Tryz.f54.ntmps = 12 by kernel_rfl) (show Tryz.f54.results.toList = [.cell 6 79] by kernel_rfl) rfl ((F54_eq s0 s1 s2 s3 s4a s4l s4c op n g R ).mpr hF)

/- 55 pilaster/pilasterref45.with -/
noncomputable def c55 : Code := match Tryz.f55.body with
  | some c => c
  | none => .skip
noncomputable def cfg55 : Cfg := ⟨Tryz.prog, TT, FNS, [3], [(3, 3)], [], TCH, false, false, none, PNF, false⟩
def an55 : AnnG := (.seq .leaf (.seq (.tree 5 (.quiet 1 (.quiet 3 (.eff 0 (.eff 2 (.eff 4 .fin .fin) (.eff 4 (.eff 2 .fin .fin) .fin)) (.eff 4 (.eff 0 (.eff 2 .fin .fin) .fin) .fin))))) .leaf))
def F55 (localsa : Option Addr) (localsl : Nat) (localsc : Nat) (t0 : Int) (t1 : Int) (t2 : ByteArray) (t3a : Option Addr) (t3l : Nat) (t3c : Nat) (g : G) (R : Value → G → Prop) : Prop :=
  ∀ g1 : G, Ex g g1 →
  (∀ g2 : G, NewL g1 g2 77 [] →
  (∃ xa : Option Addr, ∃ xl : Nat, ∃ xc : Nat, ∃ wo1 : World, Sem.run Tryz.prog (Builtin.append_ #[75, 75] 75 #[(.slice (some ⟨g1.w.heap.size, 0, none⟩) 0 0), (.slice localsa localsl localsc)]) g2.w = .ok (.slice xa xl xc) wo1 ∧ ∃ g3 : G, g3.w = wo1 ∧ Stp g.w.heap.size nobody g2 g3 ∧ SameB g1 g3 ∧ ∀ g4 : G, NewL g3 g4 77 [(.int .i64 t0), (.int .i64 t1), (.string t2), (.slice t3a t3l t3c)] →
  ∃ xa_1 : Option Addr, ∃ xl_1 : Nat, ∃ xc_1 : Nat, ∃ wo2 : World, Sem.run Tryz.prog (Builtin.append_ #[75, 75] 75 #[(.slice xa xl xc), (.slice (some ⟨g3.w.heap.size, 0, none⟩) 1 1)]) g4.w = .ok (.slice xa_1 xl_1 xc_1) wo2 ∧ ∃ g5 : G, g5.w = wo2 ∧ Stp g.w.heap.size nobody g4 g5 ∧ ∀ g6 : G, Ex g5 g6 →
  R (.slice xa_1 xl_1 xc_1) g6) ∧ (∀ g7 : G, NewL g2 g7 77 [(.int .i64 t0), (.int .i64 t1), (.string t2), (.slice t3a t3l t3c)] →
  ∃ xa_2 : Option Addr, ∃ xl_2 : Nat, ∃ xc_2 : Nat, ∃ wo3 : World, Sem.run Tryz.prog (Builtin.append_ #[75, 75] 75 #[(.slice (some ⟨g1.w.heap.size, 0, none⟩) 0 0), (.slice localsa localsl localsc)]) g7.w = .ok (.slice xa_2 xl_2 xc_2) wo3 ∧ ∃ g8 : G, g8.w = wo3 ∧ Stp g.w.heap.size nobody g7 g8 ∧ SameB g1 g8 ∧ ∃ xa_3 : Option Addr, ∃ xl_3 : Nat, ∃ xc_3 : Nat, ∃ wo4 : World, Sem.run Tryz.prog (Builtin.append_ #[75, 75] 75 #[(.slice xa_2 xl_2 xc_2), (.slice (some ⟨g2.w.heap.size, 0, none⟩) 1 1)]) g8.w = .ok (.slice xa_3 xl_3 xc_3) wo4 ∧ ∃ g9 : G, g9.w = wo4 ∧ Stp g.w.heap.size nobody g8 g9 ∧ ∀ g10 : G, Ex g9 g10 →
  R (.slice xa_3 xl_3 xc_3) g10)) ∧ (∀ g11 : G, NewL g1 g11 77 [(.int .i64 t0), (.int .i64 t1), (.string t2), (.slice t3a t3l t3c)] →
  ∀ g12 : G, NewL g11 g12 77 [] →
  ∃ xa_4 : Option Addr, ∃ xl_4 : Nat, ∃ xc_4 : Nat, ∃ wo5 : World, Sem.run Tryz.prog (Builtin.append_ #[75, 75] 75 #[(.slice (some ⟨g11.w.heap.size, 0, none⟩) 0 0), (.slice localsa localsl localsc)]) g12.w = .ok (.slice xa_4 xl_4 xc_4) wo5 ∧ ∃ g13 : G, g13.w = wo5 ∧ Stp g.w.heap.size nobody g12 g13 ∧ SameB g1 g13 ∧ ∃ xa_5 : Option Addr, ∃ xl_5 : Nat, ∃ xc_5 : Nat, ∃ wo6 : World, Sem.run Tryz.prog (Builtin.append_ #[75, 75] 75 #[(.slice xa_4 xl_4 xc_4), (.slice (some ⟨g1.w.heap.size, 0, none⟩) 1 1)]) g13.w = .ok (.slice xa_5 xl_5 xc_5) wo6 ∧ ∃ g14 : G, g14.w = wo6 ∧ Stp g.w.heap.size nobody g13 g14 ∧ ∀ g15 : G, Ex g14 g15 →
  R (.slice xa_5 xl_5 xc_5) g15)
theorem F55_eq (localsa : Option Addr) (localsl : Nat) (localsc : Nat) (t0 : Int) (t1 : Int) (t2 : ByteArray) (t3a : Option Addr) (t3l : Nat) (t3c : Nat) (g : G) (R : Value → G → Prop) : fnG cfg55 11 [.tmp 4] c55 an55 [(.slice localsa localsl localsc), (.agg ⟨[(.int .i64 t0), (.int .i64 t1), (.string t2), (.slice t3a t3l t3c)]⟩)] g nobody R = F55 localsa localsl localsc t0 t1 t2 t3a t3l t3c g R := by kernel_rfl
theorem call55 (localsa : Option Addr) (localsl : Nat) (localsc : Nat) (t0 : Int) (t1 : Int) (t2 : ByteArray) (t3a : Option Addr) (t3l : Nat) (t3c : Nat) (g : G) (R : Value → G → Prop) (hF : F55 localsa localsl localsc t0 t1 t2 t3a t3l t3c g R) : CallsG Tryz.prog 55 #[(.slice localsa localsl localsc), (.agg ⟨[(.int .i64 t0), (.int .i64 t1), (.string t2), (.slice t3a t3l t3c)]⟩)] g nobody R :=
  fn_soundG (c := cfg55) TTok FNSok mixed Tryz.func55 (show Tryz.f55.body = some c55 by kernel_rfl) (show Tryz.f55.ntmps = 11 by kernel_rfl) (show Tryz.f55.results.toList = [.tmp 4] by kernel_rfl) rfl ((F55_eq localsa localsl localsc t0 t1 t2 t3a t3l t3c g R ).mpr hF)

/- 56 pilaster/pilasterref45.all -/
noncomputable def c56 : Code := match Tryz.f56.body with
  | some c => c
  | none => .skip
noncomputable def cfg56 : Cfg := ⟨Tryz.prog, TT, FNS, [6, 9, 11, 14], [(6, 6), (9, 9), (11, 11), (14, 14), (20, 9)], [], TCH, false, false, none, PNF, false⟩
def an56 : AnnG := (.seq .leaf (.seq .leaf (.seq (.seq .leaf (.blk (.loop ⟨[(12, .sl), (13, .int .i64)], [(9, 9, 0)], [(9, [(.int .i64), (.int .i64), (.int .i64), (.int .i64), (.sl)])]⟩ (.join ⟨[], [], []⟩ (.seq .leaf (.cond .leaf .leaf)) (.seq (.blk (.seq .leaf (.seq (.treeP false [9, 14] 13 (.quiet 0 (.quiet 1 (.quiet 2 (.quiet 3 (.quiet 4 (.quiet 5 (.quiet 6 (.eff 7 (.eff 8 (.quiet 9 (.quiet 10 (.quiet 11 (.eff 12 .fin .fin)))) .fin) .fin))))))))) .leaf))) .leaf))))) (.seq (.treeP false [11] 3 (.quiet 0 (.quiet 1 (.quiet 2 .fin)))) .leaf))))
def F56 (xa : Option Addr) (xl : Nat) (xc : Nat) (f0 : Int) (f1 : Int) (f2 : ByteArray) (f3a : Option Addr) (f3l : Nat) (f3c : Nat) (localsa : Option Addr) (localsl : Nat) (localsc : Nat) (la : Option Addr) (ll : Nat) (lc : Nat) (s0 : Int) (s1 : Int) (s2 : Int) (s3 : Int) (s4a : Option Addr) (s4l : Nat) (s4c : Nat) (g : G) (R : Value → G → Prop) : Prop :=
  ∃ Inv : Nat → Option Addr → Nat → Nat → Int → Int → Int → Int → Int → Option Addr → Nat → Nat → G → Prop, (∀ g1 : G, Ex g g1 →
  (∃ m0 : Nat, Inv m0 none 0 0 (0 : Int) s0 s1 s2 s3 s4a s4l s4c g1)) ∧
  ∀ m : Nat, ∀ outa : Option Addr, ∀ outl : Nat, ∀ outc : Nat, ∀ i : Int, ∀ s0_1 : Int, ∀ s1_1 : Int, ∀ s2_1 : Int, ∀ s3_1 : Int, ∀ s4a_1 : Option Addr, ∀ s4l_1 : Nat, ∀ s4c_1 : Nat, ∀ g2 : G, Le g g2 → Inv m outa outl outc i s0_1 s1_1 s2_1 s3_1 s4a_1 s4l_1 s4c_1 g2 →
  ∀ J : G → Prop,
  (∀ g3 : G, (∀ g4 : G, Ex g3 g4 →
  (0 ≤ i ∧ i < ((xl : Nat) : Int)) ∧ derefP xa fun ad => ¬ g4.X (Addr.block (Addr.add ad (Int.toNat i * 4))) ∧ ∃ x0 : Int, ∃ x1 : Int, ∃ x2 : ByteArray, ∃ x3a : Option Addr, ∃ x3l : Nat, ∃ x3c : Nat, g4.w.cell? (Addr.add ad (Int.toNat i * 4)) = some (.int .i64 x0) ∧ g4.w.cell? (Addr.add (Addr.add ad (Int.toNat i * 4)) 1) = some (.int .i64 x1) ∧ g4.w.cell? (Addr.add (Addr.add ad (Int.toNat i * 4)) 2) = some (.string x2) ∧ g4.w.cell? (Addr.add (Addr.add ad (Int.toNat i * 4)) 3) = some (.slice x3a x3l x3c) ∧ ∀ g5 : G, Ex g4 g5 →
  (CallsP Tryz.prog 31 #[(.agg ⟨[(.int .i64 x0), (.int .i64 x1), (.string x2), (.slice x3a x3l x3c)]⟩), (.agg ⟨[(.int .i64 f0), (.int .i64 f1), (.string f2), (.slice f3a f3l f3c)]⟩), (.slice localsa localsl localsc), (.slice la ll lc), (.agg ⟨[(.int .i64 s0_1), (.int .i64 s1_1), (.int .i64 s2_1), (.int .i64 s3_1), (.slice s4a_1 s4l_1 s4c_1)]⟩)] g5 fun v g6 =>
  ∃ x00 : Int, ∃ x01 : Int, ∃ x02 : ByteArray, ∃ x03a : Option Addr, ∃ x03l : Nat, ∃ x03c : Nat, ∃ x10 : Int, ∃ x11 : Int, ∃ x12 : Int, ∃ x13 : Int, ∃ x14a : Option Addr, ∃ x14l : Nat, ∃ x14c : Nat, v = (.tuple ⟨[(.agg ⟨[(.int .i64 x00), (.int .i64 x01), (.string x02), (.slice x03a x03l x03c)]⟩), (.agg ⟨[(.int .i64 x10), (.int .i64 x11), (.int .i64 x12), (.int .i64 x13), (.slice x14a x14l x14c)]⟩)]⟩) ∧ ∀ g7 : G, Ex g6 g7 →
  ∀ g8 : G, NewL g7 g8 77 [(.int .i64 x00), (.int .i64 x01), (.string x02), (.slice x03a x03l x03c)] →
  ∃ outa_1 : Option Addr, ∃ outl_1 : Nat, ∃ outc_1 : Nat, ∃ wo1 : World, Sem.run Tryz.prog (Builtin.append_ #[75, 75] 75 #[(.slice outa outl outc), (.slice (some ⟨g7.w.heap.size, 0, none⟩) 1 1)]) g8.w = .ok (.slice outa_1 outl_1 outc_1) wo1 ∧ ∃ g9 : G, g9.w = wo1 ∧ Stp g.w.heap.size nobody g8 g9 ∧ InI64 (i + (1 : Int)) ∧ (∃ m_1 : Nat, m_1 < m ∧ Inv m_1 outa_1 outl_1 outc_1 (i + (1 : Int)) x10 x11 x12 x13 x14a x14l x14c g9))) → J g3) →
  ifB (ltI i ((xl : Nat) : Int))
  (ifB (eqI s0_1 (0 : Int))
  (J g2)
  (∀ g10 : G, Ex g2 g10 →
  ∀ g11 : G, Ex g10 g11 →
  R (.tuple ⟨[(.slice outa outl outc), (.agg ⟨[(.int .i64 s0_1), (.int .i64 s1_1), (.int .i64 s2_1), (.int .i64 s3_1), (.slice s4a_1 s4l_1 s4c_1)]⟩)]⟩) g11))
  (∀ g12 : G, Ex g2 g12 →
  ∀ g13 : G, Ex g12 g13 →
  R (.tuple ⟨[(.slice outa outl outc), (.agg ⟨[(.int .i64 s0_1), (.int .i64 s1_1), (.int .i64 s2_1), (.int .i64 s3_1), (.slice s4a_1 s4l_1 s4c_1)]⟩)]⟩) g13)
theorem F56_eq (xa : Option Addr) (xl : Nat) (xc : Nat) (f0 : Int) (f1 : Int) (f2 : ByteArray) (f3a : Option Addr) (f3l : Nat) (f3c : Nat) (localsa : Option Addr) (localsl : Nat) (localsc : Nat) (la : Option Addr) (ll : Nat) (lc : Nat) (s0 : Int) (s1 : Int) (s2 : Int) (s3 : Int) (s4a : Option Addr) (s4l : Nat) (s4c : Nat) (g : G) (R : Value → G → Prop) : fnG cfg56 44 [.tmp 10, .cell 11 79] c56 an56 [(.slice xa xl xc), (.agg ⟨[(.int .i64 f0), (.int .i64 f1), (.string f2), (.slice f3a f3l f3c)]⟩), (.slice localsa localsl localsc), (.slice la ll lc), (.agg ⟨[(.int .i64 s0), (.int .i64 s1), (.int .i64 s2), (.int .i64 s3), (.slice s4a s4l s4c)]⟩)] g nobody R = F56 xa xl xc f0 f1 f2 f3a f3l f3c localsa localsl localsc la ll lc s0 s1 s2 s3 s4a s4l s4c g R := by kernel_rfl
theorem call56 (xa : Option Addr) (xl : Nat) (xc : Nat) (f0 : Int) (f1 : Int) (f2 : ByteArray) (f3a : Option Addr) (f3l : Nat) (f3c : Nat) (localsa : Option Addr) (localsl : Nat) (localsc : Nat) (la : Option Addr) (ll : Nat) (lc : Nat) (s0 : Int) (s1 : Int) (s2 : Int) (s3 : Int) (s4a : Option Addr) (s4l : Nat) (s4c : Nat) (g : G) (R : Value → G → Prop) (hF : F56 xa xl xc f0 f1 f2 f3a f3l f3c localsa localsl localsc la ll lc s0 s1 s2 s3 s4a s4l s4c g R) : CallsG Tryz.prog 56 #[(.slice xa xl xc), (.agg ⟨[(.int .i64 f0), (.int .i64 f1), (.string f2), (.slice f3a f3l f3c)]⟩), (.slice localsa localsl localsc), (.slice la ll lc), (.agg ⟨[(.int .i64 s0), (.int .i64 s1), (.int .i64 s2), (.int .i64 s3), (.slice s4a s4l s4c)]⟩)] g nobody R :=
  fn_soundG (c := cfg56) TTok FNSok mixed Tryz.func56 (show Tryz.f56.body = some c56 by kernel_rfl) (show Tryz.f56.ntmps = 44 by kernel_rfl) (show Tryz.f56.results.toList = [.tmp 10, .cell 11 79] by kernel_rfl) rfl ((F56_eq xa xl xc f0 f1 f2 f3a f3l f3c localsa localsl localsc la ll lc s0 s1 s2 s3 s4a s4l s4c g R ).mpr hF)

/- 57 pilaster/pilasterref45.prim -/
noncomputable def c57 : Code := match Tryz.f57.body with
  | some c => c
  | none => .skip
noncomputable def cfg57 : Cfg := ⟨Tryz.prog, TT, FNS, [5, 6, 7, 10, 11], [(5, 5), (6, 6), (7, 7), (10, 10), (11, 11), (42, 10), (44, 11), (53, 10), (55, 11), (64, 10), (66, 11), (76, 11), (84, 10), (86, 11), (93, 10), (95, 11), (104, 10), (113, 10), (115, 11), (122, 10), (124, 11), (131, 10), (133, 11), (140, 10), (142, 11), (149, 10), (156, 10), (163, 10), (166, 11), (174, 10), (176, 11), (181, 5), (189, 5), (192, 10), (196, 5)], [], TCH, false, false, none, PNF, false⟩
def an57 : AnnG := (.seq .leaf (.seq .leaf (.join ⟨[(8, .int .i64)], [], []⟩ (.seq .leaf (.cond .leaf .leaf)) (.seq (.seq .leaf (.blk (.loop ⟨[(9, .int .i64)], [(6, 6, 0), (7, 7, 0)], [(6, [(.int .i64), (.int .i64), (.str), (.sl)]), (7, [(.int .i64), (.int .i64), (.int .i64), (.int .i64), (.sl)])]⟩ (.seq (.seq .leaf (.cond .leaf .leaf)) (.seq (.blk (.seq .leaf (.cond (.seq .leaf .leaf) .leaf))) .leaf))))) (.join ⟨[], [(10, 10, 0), (11, 11, 0)], [(10, [(.int .i64), (.int .i64), (.str), (.sl)]), (11, [(.int .i64), (.int .i64), (.str), (.sl)])]⟩ (.treeP false [] 12 (.quiet 0 (.quiet 1 (.quiet 2 (.quiet 3 (.quiet 4 (.quiet 5 (.quiet 6 (.quiet 7 (.quiet 8 (.eff 9 (.eff 10 (.eff 11 .fin .fin) .fin) (.eff 10 (.eff 9 (.eff 11 .fin .fin) .fin) .fin)))))))))))) (.seq (.seq .leaf (.blk (.seq .leaf (.cond (.seq .leaf .leaf) (.seq .leaf (.cond (.seq .leaf .leaf) (.seq .leaf (.cond (.seq (.treeP false [6, 7] 9 (.quiet 0 (.quiet 1 (.quiet 2 (.quiet 3 (.quiet 5 (.eff 4 (.eff 6 (.quiet 7 (.quiet 8 .fin)) .fin) .fin))))))) .leaf) (.join ⟨[(73, .bool)], [], []⟩ (.seq .leaf (.cond .leaf .leaf)) (.cond (.seq (.seq .leaf (.cond (.seq .leaf .leaf) .leaf)) (.seq (.seq .leaf (.cond (.seq (.treeP false [6, 7] 9 (.quiet 0 (.quiet 1 (.quiet 2 (.quiet 3 (.quiet 4 (.quiet 5 (.eff 6 (.quiet 7 (.quiet 8 .fin)) .fin)))))))) .leaf) .leaf)) (.seq (.treeP false [6, 7] 9 (.quiet 0 (.quiet 1 (.quiet 2 (.quiet 3 (.quiet 4 (.quiet 5 (.eff 6 (.quiet 7 (.quiet 8 .fin)) .fin)))))))) .leaf))) (.seq .leaf (.cond (.seq .leaf .leaf) (.seq .leaf (.cond (.seq (.treeP false [6, 7] 8 (.quiet 0 (.quiet 1 (.quiet 2 (.quiet 3 (.quiet 4 (.quiet 6 (.eff 5 (.eff 7 .fin .fin) .fin)))))))) .leaf) (.seq .leaf (.cond (.seq (.treeP false [6, 7] 8 (.quiet 0 (.quiet 1 (.quiet 2 (.quiet 3 (.quiet 4 (.quiet 6 (.eff 5 (.eff 7 .fin .fin) .fin)))))))) .leaf) (.seq .leaf (.cond (.seq (.treeP false [6, 7] 8 (.quiet 0 (.quiet 1 (.quiet 2 (.quiet 3 (.quiet 4 (.quiet 6 (.eff 5 (.eff 7 .fin .fin) .fin)))))))) .leaf) (.seq .leaf (.cond (.seq (.treeP false [6, 7] 8 (.quiet 0 (.quiet 1 (.quiet 2 (.quiet 3 (.quiet 4 (.quiet 6 (.eff 5 (.eff 7 .fin .fin) .fin)))))))) .leaf) (.seq .leaf (.cond (.seq (.treeP false [6, 7] 6 (.quiet 0 (.quiet 1 (.quiet 2 (.quiet 4 (.eff 3 (.eff 5 .fin .fin) .fin)))))) .leaf) (.seq .leaf (.cond (.seq (.treeP false [6, 7] 6 (.quiet 0 (.quiet 1 (.quiet 4 (.eff 2 (.eff 3 (.eff 5 .fin .fin) .fin) .fin))))) .leaf) (.seq .leaf (.cond (.seq (.seq .leaf (.cond (.seq .leaf .leaf) .leaf)) (.seq (.treeP false [6, 7] 8 (.quiet 0 (.quiet 1 (.quiet 2 (.quiet 3 (.quiet 4 (.quiet 6 (.eff 5 (.eff 7 .fin .fin) .fin)))))))) .leaf)) .leaf)))))))))))))))))))))))))) (.seq (.seq .leaf (.cond (.seq .leaf .leaf) .leaf)) (.join ⟨[], [(5, 5, 0)], [(5, [(.int .i64), (.int .i64), (.int .i64), (.int .i64), (.sl)])]⟩ (.treeP false [5] 7 (.quiet 1 (.quiet 4 (.quiet 5 (.eff 0 (.eff 2 (.eff 3 (.eff 6 .fin .fin) (.eff 6 (.eff 3 .fin .fin) .fin)) (.eff 6 (.eff 2 (.eff 3 .fin .fin) .fin) .fin)) (.eff 2 (.eff 0 (.eff 3 (.eff 6 .fin .fin) (.eff 6 (.eff 3 .fin .fin) .fin)) (.eff 6 (.eff 0 (.eff 3 .fin .fin) .fin) .fin)) (.eff 6 (.eff 0 (.eff 2 (.eff 3 .fin .fin) .fin) (.eff 2 (.eff 0 (.eff 3 .fin .fin) .fin) .fin)) .fin))))))) (.seq (.treeP false [6, 7] 3 (.quiet 1 (.eff 0 (.eff 2 .fin .fin) .fin))) .leaf)))))))))
def F57 (n : Int) (la : Option Addr) (ll : Nat) (lc : Nat) (s0 : Int) (s1 : Int) (s2 : Int) (s3 : Int) (s4a : Option Addr) (s4l : Nat) (s4c : Nat) (g : G) (R : Value → G → Prop) : Prop :=
  ∀ J : Int → G → Prop,
  (∀ want : Int, ∀ g1 : G, (∃ Inv : Nat → Int → Int → Int → ByteArray → Option Addr → Nat → Nat → Int → Int → Int → Int → Option Addr → Nat → Nat → G → Prop, ((∃ m0 : Nat, Inv m0 (0 : Int) (0 : Int) (0 : Int) (bs []) none 0 0 (0 : Int) (0 : Int) (0 : Int) (0 : Int) none 0 0 g1)) ∧
  ∀ m : Nat, ∀ i : Int, ∀ x0 : Int, ∀ x1 : Int, ∀ x2 : ByteArray, ∀ x3a : Option Addr, ∀ x3l : Nat, ∀ x3c : Nat, ∀ x0_1 : Int, ∀ x1_1 : Int, ∀ x2_1 : Int, ∀ x3 : Int, ∀ x4a : Option Addr, ∀ x4l : Nat, ∀ x4c : Nat, ∀ g2 : G, Le g1 g2 → Inv m i x0 x1 x2 x3a x3l x3c x0_1 x1_1 x2_1 x3 x4a x4l x4c g2 →
  ifB (ltI i ((ll : Nat) : Int))
  ((0 ≤ i ∧ i < ((ll : Nat) : Int)) ∧ derefP la fun ad => ∃ x : Int, g2.w.cell? (Addr.add ad (Int.toNat i * 4)) = some (.int .i64 x) ∧ ifB (!eqI x want)
  ((CallsP Tryz.prog 54 #[(.agg ⟨[(.int .i64 s0), (.int .i64 s1), (.int .i64 s2), (.int .i64 s3), (.slice s4a s4l s4c)]⟩), (.int .i64 (4 : Int)), (.int .i64 (0 : Int))] g2 fun v g3 =>
  ∃ x0_2 : Int, ∃ x1_2 : Int, ∃ x2_2 : Int, ∃ x3_1 : Int, ∃ x4a_1 : Option Addr, ∃ x4l_1 : Nat, ∃ x4c_1 : Nat, v = (.agg ⟨[(.int .i64 x0_2), (.int .i64 x1_2), (.int .i64 x2_2), (.int .i64 x3_1), (.slice x4a_1 x4l_1 x4c_1)]⟩) ∧ ∀ g4 : G, Ex g3 g4 →
  R (.tuple ⟨[(.agg ⟨[(.int .i64 (0 : Int)), (.int .i64 (0 : Int)), (.string (bs [])), (.slice none 0 0)]⟩), (.agg ⟨[(.int .i64 x0_2), (.int .i64 x1_2), (.int .i64 x2_2), (.int .i64 x3_1), (.slice x4a_1 x4l_1 x4c_1)]⟩)]⟩) g4))
  (InI64 (i + (1 : Int)) ∧ (∃ m_1 : Nat, m_1 < m ∧ Inv m_1 (i + (1 : Int)) x0 x1 x2 x3a x3l x3c x0_1 x1_1 x2_1 x3 x4a x4l x4c g2)))
  (∀ J_1 : Int → Int → ByteArray → Option Addr → Nat → Nat → Int → Int → ByteArray → Option Addr → Nat → Nat → G → Prop,
  (∀ a0 : Int, ∀ a1 : Int, ∀ a2 : ByteArray, ∀ a3a : Option Addr, ∀ a3l : Nat, ∀ a3c : Nat, ∀ b0 : Int, ∀ b1 : Int, ∀ b2 : ByteArray, ∀ b3a : Option Addr, ∀ b3l : Nat, ∀ b3c : Nat, ∀ g5 : G, (ifB (eqI n (1 : Int))
  (InI64 (a1 + b1) ∧ (CallsP Tryz.prog 81 #[(.int .i64 (a1 + b1)), (.agg ⟨[(.int .i64 s0), (.int .i64 s1), (.int .i64 s2), (.int .i64 s3), (.slice s4a s4l s4c)]⟩)] g5 fun v g6 =>
  ∃ x00 : Int, ∃ x01 : Int, ∃ x02 : ByteArray, ∃ x03a : Option Addr, ∃ x03l : Nat, ∃ x03c : Nat, ∃ x10 : Int, ∃ x11 : Int, ∃ x12 : Int, ∃ x13 : Int, ∃ x14a : Option Addr, ∃ x14l : Nat, ∃ x14c : Nat, v = (.tuple ⟨[(.agg ⟨[(.int .i64 x00), (.int .i64 x01), (.string x02), (.slice x03a x03l x03c)]⟩), (.agg ⟨[(.int .i64 x10), (.int .i64 x11), (.int .i64 x12), (.int .i64 x13), (.slice x14a x14l x14c)]⟩)]⟩) ∧ ∀ g7 : G, Ex g6 g7 →
  R (.tuple ⟨[(.agg ⟨[(.int .i64 x00), (.int .i64 x01), (.string x02), (.slice x03a x03l x03c)]⟩), (.agg ⟨[(.int .i64 x10), (.int .i64 x11), (.int .i64 x12), (.int .i64 x13), (.slice x14a x14l x14c)]⟩)]⟩) g7))
  (ifB (eqI n (2 : Int))
  (InI64 (a1 - b1) ∧ (CallsP Tryz.prog 81 #[(.int .i64 (a1 - b1)), (.agg ⟨[(.int .i64 s0), (.int .i64 s1), (.int .i64 s2), (.int .i64 s3), (.slice s4a s4l s4c)]⟩)] g5 fun v g8 =>
  ∃ x00_1 : Int, ∃ x01_1 : Int, ∃ x02_1 : ByteArray, ∃ x03a_1 : Option Addr, ∃ x03l_1 : Nat, ∃ x03c_1 : Nat, ∃ x10_1 : Int, ∃ x11_1 : Int, ∃ x12_1 : Int, ∃ x13_1 : Int, ∃ x14a_1 : Option Addr, ∃ x14l_1 : Nat, ∃ x14c_1 : Nat, v = (.tuple ⟨[(.agg ⟨[(.int .i64 x00_1), (.int .i64 x01_1), (.string x02_1), (.slice x03a_1 x03l_1 x03c_1)]⟩), (.agg ⟨[(.int .i64 x10_1), (.int .i64 x11_1), (.int .i64 x12_1), (.int .i64 x13_1), (.slice x14a_1 x14l_1 x14c_1)]⟩)]⟩) ∧ ∀ g9 : G, Ex g8 g9 →
  R (.tuple ⟨[(.agg ⟨[(.int .i64 x00_1), (.int .i64 x01_1), (.string x02_1), (.slice x03a_1 x03l_1 x03c_1)]⟩), (.agg ⟨[(.int .i64 x10_1), (.int .i64 x11_1), (.int .i64 x12_1), (.int .i64 x13_1), (.slice x14a_1 x14l_1 x14c_1)]⟩)]⟩) g9))
  (ifB (eqI n (3 : Int))
  (∀ g10 : G, Ex g5 g10 →
  ∀ g11 : G, Ex g10 g11 →
  (CallsP Tryz.prog 82 #[(.int .i64 a1), (.int .i64 b1)] g11 fun v g12 =>
  ∃ x_1 : Int, v = (.int .i64 x_1) ∧ ∀ g13 : G, Ex g12 g13 →
  (CallsP Tryz.prog 81 #[(.int .i64 x_1), (.agg ⟨[(.int .i64 s0), (.int .i64 s1), (.int .i64 s2), (.int .i64 s3), (.slice s4a s4l s4c)]⟩)] g13 fun v g14 =>
  ∃ x00_2 : Int, ∃ x01_2 : Int, ∃ x02_2 : ByteArray, ∃ x03a_2 : Option Addr, ∃ x03l_2 : Nat, ∃ x03c_2 : Nat, ∃ x10_2 : Int, ∃ x11_2 : Int, ∃ x12_2 : Int, ∃ x13_2 : Int, ∃ x14a_2 : Option Addr, ∃ x14l_2 : Nat, ∃ x14c_2 : Nat, v = (.tuple ⟨[(.agg ⟨[(.int .i64 x00_2), (.int .i64 x01_2), (.string x02_2), (.slice x03a_2 x03l_2 x03c_2)]⟩), (.agg ⟨[(.int .i64 x10_2), (.int .i64 x11_2), (.int .i64 x12_2), (.int .i64 x13_2), (.slice x14a_2 x14l_2 x14c_2)]⟩)]⟩) ∧ ∀ g15 : G, Ex g14 g15 →
  R (.tuple ⟨[(.agg ⟨[(.int .i64 x00_2), (.int .i64 x01_2), (.string x02_2), (.slice x03a_2 x03l_2 x03c_2)]⟩), (.agg ⟨[(.int .i64 x10_2), (.int .i64 x11_2), (.int .i64 x12_2), (.int .i64 x13_2), (.slice x14a_2 x14l_2 x14c_2)]⟩)]⟩) g15)))
  (∀ J_2 : Bool → G → Prop,
  (∀ v_1 : Bool, ∀ g16 : G, (ifB v_1
  (ifB (eqI b1 (0 : Int))
  ((CallsP Tryz.prog 54 #[(.agg ⟨[(.int .i64 s0), (.int .i64 s1), (.int .i64 s2), (.int .i64 s3), (.slice s4a s4l s4c)]⟩), (.int .i64 (2 : Int)), (.int .i64 (3 : Int))] g16 fun v g17 =>
  ∃ x0_3 : Int, ∃ x1_3 : Int, ∃ x2_3 : Int, ∃ x3_2 : Int, ∃ x4a_2 : Option Addr, ∃ x4l_2 : Nat, ∃ x4c_2 : Nat, v = (.agg ⟨[(.int .i64 x0_3), (.int .i64 x1_3), (.int .i64 x2_3), (.int .i64 x3_2), (.slice x4a_2 x4l_2 x4c_2)]⟩) ∧ ∀ g18 : G, Ex g17 g18 →
  R (.tuple ⟨[(.agg ⟨[(.int .i64 (0 : Int)), (.int .i64 (0 : Int)), (.string (bs [])), (.slice none 0 0)]⟩), (.agg ⟨[(.int .i64 x0_3), (.int .i64 x1_3), (.int .i64 x2_3), (.int .i64 x3_2), (.slice x4a_2 x4l_2 x4c_2)]⟩)]⟩) g18))
  (ifB (eqI n (4 : Int))
  (∀ g19 : G, Ex g16 g19 →
  b1 ≠ 0 ∧ InI64 (Int.tdiv a1 b1) ∧ ∀ g20 : G, Ex g19 g20 →
  (CallsP Tryz.prog 81 #[(.int .i64 (Int.tdiv a1 b1)), (.agg ⟨[(.int .i64 s0), (.int .i64 s1), (.int .i64 s2), (.int .i64 s3), (.slice s4a s4l s4c)]⟩)] g20 fun v g21 =>
  ∃ x00_3 : Int, ∃ x01_3 : Int, ∃ x02_3 : ByteArray, ∃ x03a_3 : Option Addr, ∃ x03l_3 : Nat, ∃ x03c_3 : Nat, ∃ x10_3 : Int, ∃ x11_3 : Int, ∃ x12_3 : Int, ∃ x13_3 : Int, ∃ x14a_3 : Option Addr, ∃ x14l_3 : Nat, ∃ x14c_3 : Nat, v = (.tuple ⟨[(.agg ⟨[(.int .i64 x00_3), (.int .i64 x01_3), (.string x02_3), (.slice x03a_3 x03l_3 x03c_3)]⟩), (.agg ⟨[(.int .i64 x10_3), (.int .i64 x11_3), (.int .i64 x12_3), (.int .i64 x13_3), (.slice x14a_3 x14l_3 x14c_3)]⟩)]⟩) ∧ ∀ g22 : G, Ex g21 g22 →
  R (.tuple ⟨[(.agg ⟨[(.int .i64 x00_3), (.int .i64 x01_3), (.string x02_3), (.slice x03a_3 x03l_3 x03c_3)]⟩), (.agg ⟨[(.int .i64 x10_3), (.int .i64 x11_3), (.int .i64 x12_3), (.int .i64 x13_3), (.slice x14a_3 x14l_3 x14c_3)]⟩)]⟩) g22))
  (∀ g23 : G, Ex g16 g23 →
  b1 ≠ 0 ∧ ∀ g24 : G, Ex g23 g24 →
  (CallsP Tryz.prog 81 #[(.int .i64 (Int.tmod a1 b1)), (.agg ⟨[(.int .i64 s0), (.int .i64 s1), (.int .i64 s2), (.int .i64 s3), (.slice s4a s4l s4c)]⟩)] g24 fun v g25 =>
  ∃ x00_4 : Int, ∃ x01_4 : Int, ∃ x02_4 : ByteArray, ∃ x03a_4 : Option Addr, ∃ x03l_4 : Nat, ∃ x03c_4 : Nat, ∃ x10_4 : Int, ∃ x11_4 : Int, ∃ x12_4 : Int, ∃ x13_4 : Int, ∃ x14a_4 : Option Addr, ∃ x14l_4 : Nat, ∃ x14c_4 : Nat, v = (.tuple ⟨[(.agg ⟨[(.int .i64 x00_4), (.int .i64 x01_4), (.string x02_4), (.slice x03a_4 x03l_4 x03c_4)]⟩), (.agg ⟨[(.int .i64 x10_4), (.int .i64 x11_4), (.int .i64 x12_4), (.int .i64 x13_4), (.slice x14a_4 x14l_4 x14c_4)]⟩)]⟩) ∧ ∀ g26 : G, Ex g25 g26 →
  R (.tuple ⟨[(.agg ⟨[(.int .i64 x00_4), (.int .i64 x01_4), (.string x02_4), (.slice x03a_4 x03l_4 x03c_4)]⟩), (.agg ⟨[(.int .i64 x10_4), (.int .i64 x11_4), (.int .i64 x12_4), (.int .i64 x13_4), (.slice x14a_4 x14l_4 x14c_4)]⟩)]⟩) g26))))
  (ifB (eqI n (6 : Int))
  (InI64 ((0 : Int) - a1) ∧ (CallsP Tryz.prog 81 #[(.int .i64 ((0 : Int) - a1)), (.agg ⟨[(.int .i64 s0), (.int .i64 s1), (.int .i64 s2), (.int .i64 s3), (.slice s4a s4l s4c)]⟩)] g16 fun v g27 =>
  ∃ x00_5 : Int, ∃ x01_5 : Int, ∃ x02_5 : ByteArray, ∃ x03a_5 : Option Addr, ∃ x03l_5 : Nat, ∃ x03c_5 : Nat, ∃ x10_5 : Int, ∃ x11_5 : Int, ∃ x12_5 : Int, ∃ x13_5 : Int, ∃ x14a_5 : Option Addr, ∃ x14l_5 : Nat, ∃ x14c_5 : Nat, v = (.tuple ⟨[(.agg ⟨[(.int .i64 x00_5), (.int .i64 x01_5), (.string x02_5), (.slice x03a_5 x03l_5 x03c_5)]⟩), (.agg ⟨[(.int .i64 x10_5), (.int .i64 x11_5), (.int .i64 x12_5), (.int .i64 x13_5), (.slice x14a_5 x14l_5 x14c_5)]⟩)]⟩) ∧ ∀ g28 : G, Ex g27 g28 →
  R (.tuple ⟨[(.agg ⟨[(.int .i64 x00_5), (.int .i64 x01_5), (.string x02_5), (.slice x03a_5 x03l_5 x03c_5)]⟩), (.agg ⟨[(.int .i64 x10_5), (.int .i64 x11_5), (.int .i64 x12_5), (.int .i64 x13_5), (.slice x14a_5 x14l_5 x14c_5)]⟩)]⟩) g28))
  (ifB (eqI n (7 : Int))
  (∀ g29 : G, Ex g16 g29 →
  ∀ g30 : G, Ex g29 g30 →
  (CallsP Tryz.prog 83 #[(.bool (ltI a1 b1))] g30 fun v g31 =>
  ∃ x0_4 : Int, ∃ x1_4 : Int, ∃ x2_4 : ByteArray, ∃ x3a_1 : Option Addr, ∃ x3l_1 : Nat, ∃ x3c_1 : Nat, v = (.agg ⟨[(.int .i64 x0_4), (.int .i64 x1_4), (.string x2_4), (.slice x3a_1 x3l_1 x3c_1)]⟩) ∧ ∀ g32 : G, Ex g31 g32 →
  R (.tuple ⟨[(.agg ⟨[(.int .i64 x0_4), (.int .i64 x1_4), (.string x2_4), (.slice x3a_1 x3l_1 x3c_1)]⟩), (.agg ⟨[(.int .i64 s0), (.int .i64 s1), (.int .i64 s2), (.int .i64 s3), (.slice s4a s4l s4c)]⟩)]⟩) g32))
  (ifB (eqI n (8 : Int))
  (∀ g33 : G, Ex g16 g33 →
  ∀ g34 : G, Ex g33 g34 →
  (CallsP Tryz.prog 83 #[(.bool (leI a1 b1))] g34 fun v g35 =>
  ∃ x0_5 : Int, ∃ x1_5 : Int, ∃ x2_5 : ByteArray, ∃ x3a_2 : Option Addr, ∃ x3l_2 : Nat, ∃ x3c_2 : Nat, v = (.agg ⟨[(.int .i64 x0_5), (.int .i64 x1_5), (.string x2_5), (.slice x3a_2 x3l_2 x3c_2)]⟩) ∧ ∀ g36 : G, Ex g35 g36 →
  R (.tuple ⟨[(.agg ⟨[(.int .i64 x0_5), (.int .i64 x1_5), (.string x2_5), (.slice x3a_2 x3l_2 x3c_2)]⟩), (.agg ⟨[(.int .i64 s0), (.int .i64 s1), (.int .i64 s2), (.int .i64 s3), (.slice s4a s4l s4c)]⟩)]⟩) g36))
  (ifB (eqI n (9 : Int))
  (∀ g37 : G, Ex g16 g37 →
  ∀ g38 : G, Ex g37 g38 →
  (CallsP Tryz.prog 83 #[(.bool (eqI a1 b1))] g38 fun v g39 =>
  ∃ x0_6 : Int, ∃ x1_6 : Int, ∃ x2_6 : ByteArray, ∃ x3a_3 : Option Addr, ∃ x3l_3 : Nat, ∃ x3c_3 : Nat, v = (.agg ⟨[(.int .i64 x0_6), (.int .i64 x1_6), (.string x2_6), (.slice x3a_3 x3l_3 x3c_3)]⟩) ∧ ∀ g40 : G, Ex g39 g40 →
  R (.tuple ⟨[(.agg ⟨[(.int .i64 x0_6), (.int .i64 x1_6), (.string x2_6), (.slice x3a_3 x3l_3 x3c_3)]⟩), (.agg ⟨[(.int .i64 s0), (.int .i64 s1), (.int .i64 s2), (.int .i64 s3), (.slice s4a s4l s4c)]⟩)]⟩) g40))
  (ifB (eqI n (12 : Int))
  (∀ g41 : G, Ex g16 g41 →
  ∀ g42 : G, Ex g41 g42 →
  (CallsP Tryz.prog 83 #[(.bool (strEq a2 b2))] g42 fun v g43 =>
  ∃ x0_7 : Int, ∃ x1_7 : Int, ∃ x2_7 : ByteArray, ∃ x3a_4 : Option Addr, ∃ x3l_4 : Nat, ∃ x3c_4 : Nat, v = (.agg ⟨[(.int .i64 x0_7), (.int .i64 x1_7), (.string x2_7), (.slice x3a_4 x3l_4 x3c_4)]⟩) ∧ ∀ g44 : G, Ex g43 g44 →
  R (.tuple ⟨[(.agg ⟨[(.int .i64 x0_7), (.int .i64 x1_7), (.string x2_7), (.slice x3a_4 x3l_4 x3c_4)]⟩), (.agg ⟨[(.int .i64 s0), (.int .i64 s1), (.int .i64 s2), (.int .i64 s3), (.slice s4a s4l s4c)]⟩)]⟩) g44))
  (ifB (eqI n (11 : Int))
  (∀ g45 : G, Ex g16 g45 →
  ∀ g46 : G, Ex g45 g46 →
  ∀ g47 : G, Ex g46 g47 →
  R (.tuple ⟨[(.agg ⟨[(.int .i64 (1 : Int)), (.int .i64 ((a2.size : Nat) : Int)), (.string (bs [])), (.slice none 0 0)]⟩), (.agg ⟨[(.int .i64 s0), (.int .i64 s1), (.int .i64 s2), (.int .i64 s3), (.slice s4a s4l s4c)]⟩)]⟩) g47)
  (ifB (eqI n (13 : Int))
  (∀ g48 : G, Ex g16 g48 →
  ∀ g49 : G, Ex g48 g49 →
  (CallsP Tryz.prog 84 #[(.int .i64 a1)] g49 fun v g50 =>
  ∃ x_2 : ByteArray, v = (.string x_2) ∧ ∀ g51 : G, Ex g50 g51 →
  ∀ g52 : G, Ex g51 g52 →
  R (.tuple ⟨[(.agg ⟨[(.int .i64 (2 : Int)), (.int .i64 (0 : Int)), (.string x_2), (.slice none 0 0)]⟩), (.agg ⟨[(.int .i64 s0), (.int .i64 s1), (.int .i64 s2), (.int .i64 s3), (.slice s4a s4l s4c)]⟩)]⟩) g52))
  (ifB (eqI n (10 : Int))
  (InI64 (((a2.size : Nat) : Int) + ((b2.size : Nat) : Int)) ∧ ifB (ltI (16384 : Int) (((a2.size : Nat) : Int) + ((b2.size : Nat) : Int)))
  ((CallsP Tryz.prog 54 #[(.agg ⟨[(.int .i64 s0), (.int .i64 s1), (.int .i64 s2), (.int .i64 s3), (.slice s4a s4l s4c)]⟩), (.int .i64 (2 : Int)), (.int .i64 (2 : Int))] g16 fun v g53 =>
  ∃ x0_8 : Int, ∃ x1_8 : Int, ∃ x2_8 : Int, ∃ x3_3 : Int, ∃ x4a_3 : Option Addr, ∃ x4l_3 : Nat, ∃ x4c_3 : Nat, v = (.agg ⟨[(.int .i64 x0_8), (.int .i64 x1_8), (.int .i64 x2_8), (.int .i64 x3_3), (.slice x4a_3 x4l_3 x4c_3)]⟩) ∧ ∀ g54 : G, Ex g53 g54 →
  R (.tuple ⟨[(.agg ⟨[(.int .i64 (0 : Int)), (.int .i64 (0 : Int)), (.string (bs [])), (.slice none 0 0)]⟩), (.agg ⟨[(.int .i64 x0_8), (.int .i64 x1_8), (.int .i64 x2_8), (.int .i64 x3_3), (.slice x4a_3 x4l_3 x4c_3)]⟩)]⟩) g54))
  (∀ g55 : G, Ex g16 g55 →
  a2.size + b2.size ≤ 9223372036854775807 ∧ ∀ g56 : G, Ex g55 g56 →
  ∀ g57 : G, Ex g56 g57 →
  R (.tuple ⟨[(.agg ⟨[(.int .i64 (2 : Int)), (.int .i64 (0 : Int)), (.string (a2 ++ b2)), (.slice none 0 0)]⟩), (.agg ⟨[(.int .i64 s0), (.int .i64 s1), (.int .i64 s2), (.int .i64 s3), (.slice s4a s4l s4c)]⟩)]⟩) g57))
  (ifB (leI (1000 : Int) ((s4l : Nat) : Int))
  ((CallsP Tryz.prog 54 #[(.agg ⟨[(.int .i64 s0), (.int .i64 s1), (.int .i64 s2), (.int .i64 s3), (.slice s4a s4l s4c)]⟩), (.int .i64 (2 : Int)), (.int .i64 (2 : Int))] g16 fun v g58 =>
  ∃ x0_9 : Int, ∃ x1_9 : Int, ∃ x2_9 : Int, ∃ x3_4 : Int, ∃ x4a_4 : Option Addr, ∃ x4l_4 : Nat, ∃ x4c_4 : Nat, v = (.agg ⟨[(.int .i64 x0_9), (.int .i64 x1_9), (.int .i64 x2_9), (.int .i64 x3_4), (.slice x4a_4 x4l_4 x4c_4)]⟩) ∧ ∀ g59 : G, Ex g58 g59 →
  R (.tuple ⟨[(.agg ⟨[(.int .i64 (0 : Int)), (.int .i64 (0 : Int)), (.string (bs [])), (.slice none 0 0)]⟩), (.agg ⟨[(.int .i64 x0_9), (.int .i64 x1_9), (.int .i64 x2_9), (.int .i64 x3_4), (.slice x4a_4 x4l_4 x4c_4)]⟩)]⟩) g59))
  (∀ J_3 : Int → Int → Int → Int → Option Addr → Nat → Nat → G → Prop,
  (∀ s0_1 : Int, ∀ s1_1 : Int, ∀ s2_1 : Int, ∀ s3_1 : Int, ∀ s4a_1 : Option Addr, ∀ s4l_1 : Nat, ∀ s4c_1 : Nat, ∀ g60 : G, (∀ g61 : G, Ex g60 g61 →
  ∀ g62 : G, Ex g61 g62 →
  ∀ g63 : G, Ex g62 g63 →
  R (.tuple ⟨[(.agg ⟨[(.int .i64 (3 : Int)), (.int .i64 (0 : Int)), (.string (bs [])), (.slice none 0 0)]⟩), (.agg ⟨[(.int .i64 s0_1), (.int .i64 s1_1), (.int .i64 s2_1), (.int .i64 s3_1), (.slice s4a_1 s4l_1 s4c_1)]⟩)]⟩) g63) → J_3 s0_1 s1_1 s2_1 s3_1 s4a_1 s4l_1 s4c_1 g60) →
  ∀ g64 : G, Ex g16 g64 →
  (∀ g65 : G, Ex g64 g65 →
  ∀ g66 : G, NewL g65 g66 9 [] →
  ((∀ g67 : G, Ex g66 g67 →
  ∃ xa : Option Addr, ∃ xl : Nat, ∃ xc : Nat, ∃ wo1 : World, Sem.run Tryz.prog (Builtin.append_ #[25, 25] 25 #[(.slice (some ⟨g65.w.heap.size, 0, none⟩) 0 0), (.slice s4a s4l s4c)]) g67.w = .ok (.slice xa xl xc) wo1 ∧ ∃ g68 : G, g68.w = wo1 ∧ Stp g.w.heap.size nobody g67 g68 ∧ SameB g64 g68 ∧ ∀ g69 : G, Ex g68 g69 →
  ∀ g70 : G, NewL g69 g70 9 [(.string a2)] →
  ∃ xa_1 : Option Addr, ∃ xl_1 : Nat, ∃ xc_1 : Nat, ∃ wo2 : World, Sem.run Tryz.prog (Builtin.append_ #[25, 25] 25 #[(.slice xa xl xc), (.slice (some ⟨g69.w.heap.size, 0, none⟩) 1 1)]) g70.w = .ok (.slice xa_1 xl_1 xc_1) wo2 ∧ ∃ g71 : G, g71.w = wo2 ∧ Stp g.w.heap.size nobody g70 g71 ∧ ∀ g72 : G, Ex g71 g72 →
  J_3 s0 s1 s2 s3 xa_1 xl_1 xc_1 g72) ∧ (∀ g73 : G, Ex g66 g73 →
  ∀ g74 : G, NewL g73 g74 9 [(.string a2)] →
  ∀ g75 : G, Ex g74 g75 →
  ∃ xa_2 : Option Addr, ∃ xl_2 : Nat, ∃ xc_2 : Nat, ∃ wo3 : World, Sem.run Tryz.prog (Builtin.append_ #[25, 25] 25 #[(.slice (some ⟨g65.w.heap.size, 0, none⟩) 0 0), (.slice s4a s4l s4c)]) g75.w = .ok (.slice xa_2 xl_2 xc_2) wo3 ∧ ∃ g76 : G, g76.w = wo3 ∧ Stp g.w.heap.size nobody g75 g76 ∧ SameB g64 g76 ∧ ∃ xa_3 : Option Addr, ∃ xl_3 : Nat, ∃ xc_3 : Nat, ∃ wo4 : World, Sem.run Tryz.prog (Builtin.append_ #[25, 25] 25 #[(.slice xa_2 xl_2 xc_2), (.slice (some ⟨g73.w.heap.size, 0, none⟩) 1 1)]) g76.w = .ok (.slice xa_3 xl_3 xc_3) wo4 ∧ ∃ g77 : G, g77.w = wo4 ∧ Stp g.w.heap.size nobody g76 g77 ∧ ∀ g78 : G, Ex g77 g78 →
  J_3 s0 s1 s2 s3 xa_3 xl_3 xc_3 g78)) ∧ (∀ g79 : G, Ex g66 g79 →
  ∀ g80 : G, NewL g79 g80 9 [(.string a2)] →
  ∀ g81 : G, Ex g80 g81 →
  ∃ xa_4 : Option Addr, ∃ xl_4 : Nat, ∃ xc_4 : Nat, ∃ wo5 : World, Sem.run Tryz.prog (Builtin.append_ #[25, 25] 25 #[(.slice (some ⟨g65.w.heap.size, 0, none⟩) 0 0), (.slice s4a s4l s4c)]) g81.w = .ok (.slice xa_4 xl_4 xc_4) wo5 ∧ ∃ g82 : G, g82.w = wo5 ∧ Stp g.w.heap.size nobody g81 g82 ∧ SameB g64 g82 ∧ ∃ xa_5 : Option Addr, ∃ xl_5 : Nat, ∃ xc_5 : Nat, ∃ wo6 : World, Sem.run Tryz.prog (Builtin.append_ #[25, 25] 25 #[(.slice xa_4 xl_4 xc_4), (.slice (some ⟨g79.w.heap.size, 0, none⟩) 1 1)]) g82.w = .ok (.slice xa_5 xl_5 xc_5) wo6 ∧ ∃ g83 : G, g83.w = wo6 ∧ Stp g.w.heap.size nobody g82 g83 ∧ ∀ g84 : G, Ex g83 g84 →
  J_3 s0 s1 s2 s3 xa_5 xl_5 xc_5 g84)) ∧ (((∀ g85 : G, Ex g64 g85 →
  ∀ g86 : G, NewL g85 g86 9 [] →
  (∀ g87 : G, Ex g86 g87 →
  ∃ xa_6 : Option Addr, ∃ xl_6 : Nat, ∃ xc_6 : Nat, ∃ wo7 : World, Sem.run Tryz.prog (Builtin.append_ #[25, 25] 25 #[(.slice (some ⟨g85.w.heap.size, 0, none⟩) 0 0), (.slice s4a s4l s4c)]) g87.w = .ok (.slice xa_6 xl_6 xc_6) wo7 ∧ ∃ g88 : G, g88.w = wo7 ∧ Stp g.w.heap.size nobody g87 g88 ∧ SameB g64 g88 ∧ ∀ g89 : G, Ex g88 g89 →
  ∀ g90 : G, NewL g89 g90 9 [(.string a2)] →
  ∃ xa_7 : Option Addr, ∃ xl_7 : Nat, ∃ xc_7 : Nat, ∃ wo8 : World, Sem.run Tryz.prog (Builtin.append_ #[25, 25] 25 #[(.slice xa_6 xl_6 xc_6), (.slice (some ⟨g89.w.heap.size, 0, none⟩) 1 1)]) g90.w = .ok (.slice xa_7 xl_7 xc_7) wo8 ∧ ∃ g91 : G, g91.w = wo8 ∧ Stp g.w.heap.size nobody g90 g91 ∧ ∀ g92 : G, Ex g91 g92 →
  J_3 s0 s1 s2 s3 xa_7 xl_7 xc_7 g92) ∧ (∀ g93 : G, Ex g86 g93 →
  ∀ g94 : G, NewL g93 g94 9 [(.string a2)] →
  ∀ g95 : G, Ex g94 g95 →
  ∃ xa_8 : Option Addr, ∃ xl_8 : Nat, ∃ xc_8 : Nat, ∃ wo9 : World, Sem.run Tryz.prog (Builtin.append_ #[25, 25] 25 #[(.slice (some ⟨g85.w.heap.size, 0, none⟩) 0 0), (.slice s4a s4l s4c)]) g95.w = .ok (.slice xa_8 xl_8 xc_8) wo9 ∧ ∃ g96 : G, g96.w = wo9 ∧ Stp g.w.heap.size nobody g95 g96 ∧ SameB g64 g96 ∧ ∃ xa_9 : Option Addr, ∃ xl_9 : Nat, ∃ xc_9 : Nat, ∃ wo10 : World, Sem.run Tryz.prog (Builtin.append_ #[25, 25] 25 #[(.slice xa_8 xl_8 xc_8), (.slice (some ⟨g93.w.heap.size, 0, none⟩) 1 1)]) g96.w = .ok (.slice xa_9 xl_9 xc_9) wo10 ∧ ∃ g97 : G, g97.w = wo10 ∧ Stp g.w.heap.size nobody g96 g97 ∧ ∀ g98 : G, Ex g97 g98 →
  J_3 s0 s1 s2 s3 xa_9 xl_9 xc_9 g98)) ∧ (∀ g99 : G, Ex g64 g99 →
  ∀ g100 : G, NewL g99 g100 9 [(.string a2)] →
  ∀ g101 : G, Ex g100 g101 →
  ∀ g102 : G, NewL g101 g102 9 [] →
  ∀ g103 : G, Ex g102 g103 →
  ∃ xa_10 : Option Addr, ∃ xl_10 : Nat, ∃ xc_10 : Nat, ∃ wo11 : World, Sem.run Tryz.prog (Builtin.append_ #[25, 25] 25 #[(.slice (some ⟨g101.w.heap.size, 0, none⟩) 0 0), (.slice s4a s4l s4c)]) g103.w = .ok (.slice xa_10 xl_10 xc_10) wo11 ∧ ∃ g104 : G, g104.w = wo11 ∧ Stp g.w.heap.size nobody g103 g104 ∧ SameB g64 g104 ∧ ∃ xa_11 : Option Addr, ∃ xl_11 : Nat, ∃ xc_11 : Nat, ∃ wo12 : World, Sem.run Tryz.prog (Builtin.append_ #[25, 25] 25 #[(.slice xa_10 xl_10 xc_10), (.slice (some ⟨g99.w.heap.size, 0, none⟩) 1 1)]) g104.w = .ok (.slice xa_11 xl_11 xc_11) wo12 ∧ ∃ g105 : G, g105.w = wo12 ∧ Stp g.w.heap.size nobody g104 g105 ∧ ∀ g106 : G, Ex g105 g106 →
  J_3 s0 s1 s2 s3 xa_11 xl_11 xc_11 g106)) ∧ (∀ g107 : G, Ex g64 g107 →
  ∀ g108 : G, NewL g107 g108 9 [(.string a2)] →
  Rep 1 (∀ g109 : G, Ex g108 g109 →
  ∀ g110 : G, NewL g109 g110 9 [] →
  ∀ g111 : G, Ex g110 g111 →
  ∃ xa_12 : Option Addr, ∃ xl_12 : Nat, ∃ xc_12 : Nat, ∃ wo13 : World, Sem.run Tryz.prog (Builtin.append_ #[25, 25] 25 #[(.slice (some ⟨g109.w.heap.size, 0, none⟩) 0 0), (.slice s4a s4l s4c)]) g111.w = .ok (.slice xa_12 xl_12 xc_12) wo13 ∧ ∃ g112 : G, g112.w = wo13 ∧ Stp g.w.heap.size nobody g111 g112 ∧ SameB g64 g112 ∧ ∃ xa_13 : Option Addr, ∃ xl_13 : Nat, ∃ xc_13 : Nat, ∃ wo14 : World, Sem.run Tryz.prog (Builtin.append_ #[25, 25] 25 #[(.slice xa_12 xl_12 xc_12), (.slice (some ⟨g107.w.heap.size, 0, none⟩) 1 1)]) g112.w = .ok (.slice xa_13 xl_13 xc_13) wo14 ∧ ∃ g113 : G, g113.w = wo14 ∧ Stp g.w.heap.size nobody g112 g113 ∧ ∀ g114 : G, Ex g113 g114 →
  J_3 s0 s1 s2 s3 xa_13 xl_13 xc_13 g114)))))))))))))) → J_2 v_1 g16) →
  ifB (eqI n (4 : Int))
  (J_2 true g5)
  (J_2 (eqI n (5 : Int)) g5))))) → J_1 a0 a1 a2 a3a a3l a3c b0 b1 b2 b3a b3l b3c g5) →
  ∀ g121 : G, Ex g2 g121 →
  (0 ≤ (0 : Int) ∧ (0 : Int) < ((ll : Nat) : Int)) ∧ derefP la fun ad_1 => ¬ g121.X (Addr.block (Addr.add ad_1 (Int.toNat (0 : Int) * 4))) ∧ ∃ x0_10 : Int, ∃ x1_10 : Int, ∃ x2_10 : ByteArray, ∃ x3a_5 : Option Addr, ∃ x3l_5 : Nat, ∃ x3c_5 : Nat, g121.w.cell? (Addr.add ad_1 (Int.toNat (0 : Int) * 4)) = some (.int .i64 x0_10) ∧ g121.w.cell? (Addr.add (Addr.add ad_1 (Int.toNat (0 : Int) * 4)) 1) = some (.int .i64 x1_10) ∧ g121.w.cell? (Addr.add (Addr.add ad_1 (Int.toNat (0 : Int) * 4)) 2) = some (.string x2_10) ∧ g121.w.cell? (Addr.add (Addr.add ad_1 (Int.toNat (0 : Int) * 4)) 3) = some (.slice x3a_5 x3l_5 x3c_5) ∧ InI64 (((ll : Nat) : Int) - (1 : Int)) ∧ (0 ≤ (((ll : Nat) : Int) - (1 : Int)) ∧ (((ll : Nat) : Int) - (1 : Int)) < ((ll : Nat) : Int)) ∧ derefP la fun ad_2 => ¬ g121.X (Addr.block (Addr.add ad_2 (Int.toNat (((ll : Nat) : Int) - (1 : Int)) * 4))) ∧ ∃ x0_11 : Int, ∃ x1_11 : Int, ∃ x2_11 : ByteArray, ∃ x3a_6 : Option Addr, ∃ x3l_6 : Nat, ∃ x3c_6 : Nat, g121.w.cell? (Addr.add ad_2 (Int.toNat (((ll : Nat) : Int) - (1 : Int)) * 4)) = some (.int .i64 x0_11) ∧ g121.w.cell? (Addr.add (Addr.add ad_2 (Int.toNat (((ll : Nat) : Int) - (1 : Int)) * 4)) 1) = some (.int .i64 x1_11) ∧ g121.w.cell? (Addr.add (Addr.add ad_2 (Int.toNat (((ll : Nat) : Int) - (1 : Int)) * 4)) 2) = some (.string x2_11) ∧ g121.w.cell? (Addr.add (Addr.add ad_2 (Int.toNat (((ll : Nat) : Int) - (1 : Int)) * 4)) 3) = some (.slice x3a_6 x3l_6 x3c_6) ∧ Rep 1 (∀ g122 : G, Ex g121 g122 →
  J_1 x0_10 x1_10 x2_10 x3a_5 x3l_5 x3c_5 x0_11 x1_11 x2_11 x3a_6 x3l_6 x3c_6 g122))) → J want g1) →
  ∀ g124 : G, Ex g g124 →
  (CallsP Tryz.prog 80 #[(.int .i64 n)] g124 fun v g125 =>
  ∃ x_3 : Bool, v = (.bool x_3) ∧ ifB x_3
  (J (2 : Int) g125)
  (J (1 : Int) g125))
theorem F57_eq (n : Int) (la : Option Addr) (ll : Nat) (lc : Nat) (s0 : Int) (s1 : Int) (s2 : Int) (s3 : Int) (s4a : Option Addr) (s4l : Nat) (s4c : Nat) (g : G) (R : Value → G → Prop) : fnG cfg57 199 [.cell 6 77, .cell 7 79] c57 an57 [(.int .i64 n), (.slice la ll lc), (.agg ⟨[(.int .i64 s0), (.int .i64 s1), (.int .i64 s2), (.int .i64 s3), (.slice s4a s4l s4c)]⟩)] g nobody R = F57 n la ll lc s0 s1 s2 s3 s4a s4l s4c g R := by kernel_rfl
theorem call57 (n : Int) (la : Option Addr) (ll : Nat) (lc : Nat) (s0 : Int) (s1 : Int) (s2 : Int) (s3 : Int) (s4a : Option Addr) (s4l : Nat) (s4c : Nat) (g : G) (R : Value → G → Prop) (hF : F57 n la ll lc s0 s1 s2 s3 s4a s4l s4c g R) : CallsG Tryz.prog 57 #[(.int .i64 n), (.slice la ll lc), (.agg ⟨[(.int .i64 s0), (.int .i64 s1), (.int .i64 s2), (.int .i64 s3), (.slice s4a s4l s4c)]⟩)] g nobody R :=
  fn_soundG (c := cfg57) TTok FNSok mixed Tryz.func57 (show Tryz.f57.body = some c57 by kernel_rfl) (show Tryz.f57.ntmps = 199 by kernel_rfl) (show Tryz.f57.results.toList = [.cell 6 77, .cell 7 79] by kernel_rfl) rfl ((F57_eq n la ll lc s0 s1 s2 s3 s4a s4l s4c g R ).mpr hF)

/- 58 pilaster/pilasterref44.node -/
/- 59 pilaster/pilasterref44.insert -/
/- 60 pilaster/pilasterref44.Bound -/
/- 61 pilaster/lambda.Valid -/
noncomputable def c61 : Code := match Tryz.f61.body with
  | some c => c
  | none => .skip
noncomputable def cfg61 : Cfg := ⟨Tryz.prog, TT, FNS, [1], [(1, 1)], [], TCH, false, false, none, PNF, false⟩
def an61 : AnnG := (.seq .leaf (.seq .leaf (.seq .leaf .leaf)))
def F61 (x0 : Int) (x1 : Int) (x2 : ByteArray) (x3a : Option Addr) (x3l : Nat) (x3c : Nat) (g : G) (R : Value → G → Prop) : Prop :=
  ∀ g1 : G, Ex g g1 →
  (CallsP Tryz.prog 86 #[(.agg ⟨[(.int .i64 x0), (.int .i64 x1), (.string x2), (.slice x3a x3l x3c)]⟩), (.int .i64 (20000 : Int)), (.int .i64 (1 : Int))] g1 fun v g2 =>
  ∃ x0_1 : Int, ∃ x1_1 : Bool, v = (.tuple ⟨[(.int .i64 x0_1), (.bool x1_1)]⟩) ∧ ∀ g3 : G, Ex g2 g3 →
  R (.bool x1_1) g3)
theorem F61_eq (x0 : Int) (x1 : Int) (x2 : ByteArray) (x3a : Option Addr) (x3l : Nat) (x3c : Nat) (g : G) (R : Value → G → Prop) : fnG cfg61 11 [.tmp 2] c61 an61 [(.agg ⟨[(.int .i64 x0), (.int .i64 x1), (.string x2), (.slice x3a x3l x3c)]⟩)] g nobody R = F61 x0 x1 x2 x3a x3l x3c g R := by kernel_rfl
theorem call61 (x0 : Int) (x1 : Int) (x2 : ByteArray) (x3a : Option Addr) (x3l : Nat) (x3c : Nat) (g : G) (R : Value → G → Prop) (hF : F61 x0 x1 x2 x3a x3l x3c g R) : CallsG Tryz.prog 61 #[(.agg ⟨[(.int .i64 x0), (.int .i64 x1), (.string x2), (.slice x3a x3l x3c)]⟩)] g nobody R :=
  fn_soundG (c := cfg61) TTok FNSok mixed Tryz.func61 (show Tryz.f61.body = some c61 by kernel_rfl) (show Tryz.f61.ntmps = 11 by kernel_rfl) (show Tryz.f61.results.toList = [.tmp 2] by kernel_rfl) rfl ((F61_eq x0 x1 x2 x3a x3l x3c g R ).mpr hF)

/- 62 pilaster/lambda.collect -/
noncomputable def c62 : Code := match Tryz.f62.body with
  | some c => c
  | none => .skip
noncomputable def cfg62 : Cfg := ⟨Tryz.prog, TT, FNS, [4, 7], [(4, 4), (7, 7), (9, 4), (13, 4), (19, 4), (23, 4)], [], TCH, false, false, none, PNF, false⟩
def an62 : AnnG := (.seq .leaf (.join ⟨[], [], []⟩ (.seq .leaf (.cond .leaf .leaf)) (.seq .leaf (.blk (.loop ⟨[(26, .int .i64)], [], []⟩ (.seq .leaf (.seq (.cond .leaf .leaf) (.seq (.blk (.seq .leaf (.seq .leaf (.seq (.seq .leaf (.cond .leaf .leaf)) .leaf)))) .leaf))))))))
def F62 (m : Option Nat) (x0 : Int) (x1 : Int) (x2 : ByteArray) (x3a : Option Addr) (x3l : Nat) (x3c : Nat) (depth : Int) (g : G) (M : Nat → Prop) (R : Value → G → Prop) : Prop :=
  ∀ J : G → Prop,
  (∀ g1 : G, (∃ Inv : Nat → Int → G → Prop, ((∃ m0 : Nat, Inv m0 (0 : Int) g1)) ∧
  ∀ m_1 : Nat, ∀ v_1 : Int, ∀ g2 : G, Le g1 g2 → Inv m_1 v_1 g2 →
  ifB (ltI v_1 ((x3l : Nat) : Int))
  ((0 ≤ v_1 ∧ v_1 < ((x3l : Nat) : Int)) ∧ derefP x3a fun ad => ∃ x0_1 : Int, ∃ x1_1 : Int, ∃ x2_1 : ByteArray, ∃ x3a_1 : Option Addr, ∃ x3l_1 : Nat, ∃ x3c_1 : Nat, g2.w.cell? (Addr.add ad (Int.toNat v_1 * 4)) = some (.int .i64 x0_1) ∧ g2.w.cell? (Addr.add (Addr.add ad (Int.toNat v_1 * 4)) 1) = some (.int .i64 x1_1) ∧ g2.w.cell? (Addr.add (Addr.add ad (Int.toNat v_1 * 4)) 2) = some (.string x2_1) ∧ g2.w.cell? (Addr.add (Addr.add ad (Int.toNat v_1 * 4)) 3) = some (.slice x3a_1 x3l_1 x3c_1) ∧ ∀ g3 : G, Ex g2 g3 →
  (CallsP Tryz.prog 87 #[(.agg ⟨[(.int .i64 x0), (.int .i64 x1), (.string x2), (.slice x3a x3l x3c)]⟩), (.int .i64 v_1)] g3 fun v g4 =>
  ∃ x : Bool, v = (.bool x) ∧ ifB x
  (InI64 (depth + (1 : Int)) ∧ ∃ M1 : Nat → Prop, (∀ b, b < g.w.heap.size → M1 b → M b) ∧ (CallsG Tryz.prog 62 #[(.map m), (.agg ⟨[(.int .i64 x0_1), (.int .i64 x1_1), (.string x2_1), (.slice x3a_1 x3l_1 x3c_1)]⟩), (.int .i64 (depth + (1 : Int)))] g4 M1 fun v g5 =>
  v = (.tuple ⟨[]⟩) ∧ InI64 (v_1 + (1 : Int)) ∧ (∃ m_2 : Nat, m_2 < m_1 ∧ Inv m_2 (v_1 + (1 : Int)) g5)))
  (∃ M2 : Nat → Prop, (∀ b, b < g.w.heap.size → M2 b → M b) ∧ (CallsG Tryz.prog 62 #[(.map m), (.agg ⟨[(.int .i64 x0_1), (.int .i64 x1_1), (.string x2_1), (.slice x3a_1 x3l_1 x3c_1)]⟩), (.int .i64 depth)] g4 M2 fun v g6 =>
  v = (.tuple ⟨[]⟩) ∧ InI64 (v_1 + (1 : Int)) ∧ (∃ m_2 : Nat, m_2 < m_1 ∧ Inv m_2 (v_1 + (1 : Int)) g6)))))
  (∀ g7 : G, Ex g2 g7 →
  R (.tuple ⟨[]⟩) g7)) → J g1) →
  ifB (eqI x0 (1 : Int))
  (ifB (leI depth x1)
  (InI64 (x1 - depth) ∧ ∀ g8 : G, Ex g g8 →
  ∃ wo1 : World, Sem.run Tryz.prog (Instr.mapUpdate 116 (.map m) (.int .i64 (x1 - depth)) (.bool true)) g8.w = .ok () wo1 ∧ ∃ g9 : G, g9.w = wo1 ∧ Stp g.w.heap.size M g8 g9 ∧ J g9)
  (∀ g10 : G, Ex g g10 →
  J g10))
  (∀ g11 : G, Ex g g11 →
  J g11)
theorem F62_eq (m : Option Nat) (x0 : Int) (x1 : Int) (x2 : ByteArray) (x3a : Option Addr) (x3l : Nat) (x3c : Nat) (depth : Int) (g : G) (M : Nat → Prop) (R : Value → G → Prop) : fnG cfg62 42 [] c62 an62 [(.map m), (.agg ⟨[(.int .i64 x0), (.int .i64 x1), (.string x2), (.slice x3a x3l x3c)]⟩), (.int .i64 depth)] g M R = F62 m x0 x1 x2 x3a x3l x3c depth g M R := by kernel_rfl
theorem call62 (m : Option Nat) (x0 : Int) (x1 : Int) (x2 : ByteArray) (x3a : Option Addr) (x3l : Nat) (x3c : Nat) (depth : Int) (g : G) (M : Nat → Prop) (R : Value → G → Prop) (hF : F62 m x0 x1 x2 x3a x3l x3c depth g M R) : CallsG Tryz.prog 62 #[(.map m), (.agg ⟨[(.int .i64 x0), (.int .i64 x1), (.string x2), (.slice x3a x3l x3c)]⟩), (.int .i64 depth)] g M R :=
  fn_soundG (c := cfg62) TTok FNSok mixed Tryz.func62 (show Tryz.f62.body = some c62 by kernel_rfl) (show Tryz.f62.ntmps = 42 by kernel_rfl) (show Tryz.f62.results.toList = [] by kernel_rfl) rfl ((F62_eq m x0 x1 x2 x3a x3l x3c depth g M R ).mpr hF)

/- 64 (pilaster/closure.scope).at -/
noncomputable def c64 : Code := match Tryz.f64.body with
  | some c => c
  | none => .skip
noncomputable def cfg64 : Cfg := ⟨Tryz.prog, TT, FNS, [2, 4], [(2, 2), (4, 4), (5, 2), (7, 2)], [], TCH, false, false, none, PNF, false⟩
def an64 : AnnG := (.seq .leaf (.seq .leaf .leaf))
def F64 (s0a : Option Addr) (s0l : Nat) (s0c : Nat) (s1 : Int) (n : Int) (g : G) (R : Value → G → Prop) : Prop :=
  InI64 (((s0l : Nat) : Int) - (1 : Int)) ∧ InI64 ((((s0l : Nat) : Int) - (1 : Int)) - n) ∧ (0 ≤ ((((s0l : Nat) : Int) - (1 : Int)) - n) ∧ ((((s0l : Nat) : Int) - (1 : Int)) - n) < ((s0l : Nat) : Int)) ∧ derefP s0a fun ad => ∀ g1 : G, Ex g g1 →
  ∃ x0 : Int, ∃ x1 : Int, ∃ x2 : ByteArray, ∃ x3a : Option Addr, ∃ x3l : Nat, ∃ x3c : Nat, g1.w.cell? (Addr.add ad (Int.toNat ((((s0l : Nat) : Int) - (1 : Int)) - n) * 4)) = some (.int .i64 x0) ∧ g1.w.cell? (Addr.add (Addr.add ad (Int.toNat ((((s0l : Nat) : Int) - (1 : Int)) - n) * 4)) 1) = some (.int .i64 x1) ∧ g1.w.cell? (Addr.add (Addr.add ad (Int.toNat ((((s0l : Nat) : Int) - (1 : Int)) - n) * 4)) 2) = some (.string x2) ∧ g1.w.cell? (Addr.add (Addr.add ad (Int.toNat ((((s0l : Nat) : Int) - (1 : Int)) - n) * 4)) 3) = some (.slice x3a x3l x3c) ∧ ∀ g2 : G, Ex g1 g2 →
  R (.agg ⟨[(.int .i64 x0), (.int .i64 x1), (.string x2), (.slice x3a x3l x3c)]⟩) g2
theorem F64_eq (s0a : Option Addr) (s0l : Nat) (s0c : Nat) (s1 : Int) (n : Int) (g : G) (R : Value → G → Prop) : fnG cfg64 15 [.cell 4 44] c64 an64 [(.agg ⟨[(.slice s0a s0l s0c), (.int .i64 s1)]⟩), (.int .i64 n)] g nobody R = F64 s0a s0l s0c s1 n g R := by kernel_rfl
theorem call64 (s0a : Option Addr) (s0l : Nat) (s0c : Nat) (s1 : Int) (n : Int) (g : G) (R : Value → G → Prop) (hF : F64 s0a s0l s0c s1 n g R) : CallsG Tryz.prog 64 #[(.agg ⟨[(.slice s0a s0l s0c), (.int .i64 s1)]⟩), (.int .i64 n)] g nobody R :=
  fn_soundG (c := cfg64) TTok FNSok mixed Tryz.func64 (show Tryz.f64.body = some c64 by kernel_rfl) (show Tryz.f64.ntmps = 15 by kernel_rfl) (show Tryz.f64.results.toList = [.cell 4 44] by kernel_rfl) rfl ((F64_eq s0a s0l s0c s1 n g R ).mpr hF)
end Go.Proofs.YthlcdgpemjdgnaaGreatDoor
