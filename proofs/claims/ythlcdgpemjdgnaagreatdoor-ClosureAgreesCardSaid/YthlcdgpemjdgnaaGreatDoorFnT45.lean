/- Printed by a program (wip/tools/gen2.py): for each function its condition as a plain formula, and that the formula gives the call. -/
import Derived.Test.YthlcdgpemjdgnaaGreatDoorProg
import Derived.Test.YthlcdgpemjdgnaaGreatDoorVda
namespace Go.Proofs.YthlcdgpemjdgnaaGreatDoor
open Go Go.Vc Go.RowKit
set_option maxRecDepth 100000
set_option linter.unusedVariables false
def TT : List TI := [
  ⟨0, .tuple #[], 1, 0, some (.tuple ⟨[]⟩), (.tup [])⟩,
  ⟨3, .int .i64, 1, 8, some (.int .i64 (0 : Int)), (.e (.one (.int .i64)))⟩,
  ⟨4, .bool, 1, 1, some (.bool false), (.e (.one (.bool)))⟩,
  ⟨9, .string, 1, 16, some (.string (bs [])), (.e (.one (.str)))⟩,
  ⟨22, .slice 55, 1, 24, some (.slice none 0 0), (.e (.one (.sl)))⟩,
  ⟨25, .slice 9, 1, 24, some (.slice none 0 0), (.e (.one (.sl)))⟩,
  ⟨26, .slice 28, 1, 24, some (.slice none 0 0), (.e (.one (.sl)))⟩,
  ⟨28, .struct #[{ name := "Op", type := 3, offset := 0, embedded := false, tag := "", pkgPath := "", byteOffset := 0 }, { name := "N", type := 3, offset := 1, embedded := false, tag := "", pkgPath := "", byteOffset := 8 }, { name := "S", type := 9, offset := 2, embedded := false, tag := "", pkgPath := "", byteOffset := 16 }, { name := "Names", type := 25, offset := 3, embedded := false, tag := "", pkgPath := "", byteOffset := 32 }, { name := "L", type := 26, offset := 4, embedded := false, tag := "", pkgPath := "", byteOffset := 56 }], 5, 80, some (.agg ⟨[(.int .i64 (0 : Int)), (.int .i64 (0 : Int)), (.string (bs [])), (.slice none 0 0), (.slice none 0 0)]⟩), (.e (.agg [(.int .i64), (.int .i64), (.str), (.sl), (.sl)]))⟩,
  ⟨30, .struct #[{ name := "Op", type := 3, offset := 0, embedded := false, tag := "", pkgPath := "", byteOffset := 0 }, { name := "N", type := 3, offset := 1, embedded := false, tag := "", pkgPath := "", byteOffset := 8 }, { name := "Steps", type := 3, offset := 2, embedded := false, tag := "", pkgPath := "", byteOffset := 16 }, { name := "V", type := 28, offset := 3, embedded := false, tag := "", pkgPath := "", byteOffset := 24 }, { name := "Out", type := 25, offset := 8, embedded := false, tag := "", pkgPath := "", byteOffset := 104 }], 9, 128, some (.agg ⟨[(.int .i64 (0 : Int)), (.int .i64 (0 : Int)), (.int .i64 (0 : Int)), (.int .i64 (0 : Int)), (.int .i64 (0 : Int)), (.string (bs [])), (.slice none 0 0), (.slice none 0 0), (.slice none 0 0)]⟩), (.e (.agg [(.int .i64), (.int .i64), (.int .i64), (.int .i64), (.int .i64), (.str), (.sl), (.sl), (.sl)]))⟩,
  ⟨31, .int .i64, 1, 8, some (.int .i64 (0 : Int)), (.e (.one (.int .i64)))⟩,
  ⟨32, .tuple #[30, 31], 1, 0, some (.tuple ⟨[(.agg ⟨[(.int .i64 (0 : Int)), (.int .i64 (0 : Int)), (.int .i64 (0 : Int)), (.int .i64 (0 : Int)), (.int .i64 (0 : Int)), (.string (bs [])), (.slice none 0 0), (.slice none 0 0), (.slice none 0 0)]⟩), (.int .i64 (0 : Int))]⟩), (.tup [(.agg [(.int .i64), (.int .i64), (.int .i64), (.int .i64), (.int .i64), (.str), (.sl), (.sl), (.sl)]), (.one (.int .i64))])⟩,
  ⟨39, .int .u16, 1, 2, some (.int .u16 (0 : Int)), (.e (.one (.int .u16)))⟩,
  ⟨42, .slice 44, 1, 24, some (.slice none 0 0), (.e (.one (.sl)))⟩,
  ⟨44, .struct #[{ name := "Op", type := 3, offset := 0, embedded := false, tag := "", pkgPath := "", byteOffset := 0 }, { name := "N", type := 3, offset := 1, embedded := false, tag := "", pkgPath := "", byteOffset := 8 }, { name := "S", type := 9, offset := 2, embedded := false, tag := "", pkgPath := "", byteOffset := 16 }, { name := "L", type := 42, offset := 3, embedded := false, tag := "", pkgPath := "", byteOffset := 32 }], 4, 56, some (.agg ⟨[(.int .i64 (0 : Int)), (.int .i64 (0 : Int)), (.string (bs [])), (.slice none 0 0)]⟩), (.e (.agg [(.int .i64), (.int .i64), (.str), (.sl)]))⟩,
  ⟨47, .slice 3, 1, 24, some (.slice none 0 0), (.e (.one (.sl)))⟩,
  ⟨49, .tuple #[22, 3, 31], 1, 0, some (.tuple ⟨[(.slice none 0 0), (.int .i64 (0 : Int)), (.int .i64 (0 : Int))]⟩), (.tup [(.one (.sl)), (.one (.int .i64)), (.one (.int .i64))])⟩,
  ⟨55, .struct #[{ name := "Captures", type := 3, offset := 0, embedded := false, tag := "", pkgPath := "", byteOffset := 0 }, { name := "Body", type := 44, offset := 1, embedded := false, tag := "", pkgPath := "", byteOffset := 8 }], 5, 64, some (.agg ⟨[(.int .i64 (0 : Int)), (.int .i64 (0 : Int)), (.int .i64 (0 : Int)), (.string (bs [])), (.slice none 0 0)]⟩), (.e (.agg [(.int .i64), (.int .i64), (.int .i64), (.str), (.sl)]))⟩,
  ⟨73, .func #[55] #[4] false, 1, 8, some .nilFunc, (.e (.one (.fn)))⟩,
  ⟨75, .slice 77, 1, 24, some (.slice none 0 0), (.e (.one (.sl)))⟩,
  ⟨77, .struct #[{ name := "op", type := 3, offset := 0, embedded := false, tag := "", pkgPath := "pilaster/pilasterref45", byteOffset := 0 }, { name := "n", type := 3, offset := 1, embedded := false, tag := "", pkgPath := "pilaster/pilasterref45", byteOffset := 8 }, { name := "s", type := 9, offset := 2, embedded := false, tag := "", pkgPath := "pilaster/pilasterref45", byteOffset := 16 }, { name := "l", type := 75, offset := 3, embedded := false, tag := "", pkgPath := "pilaster/pilasterref45", byteOffset := 32 }], 4, 56, some (.agg ⟨[(.int .i64 (0 : Int)), (.int .i64 (0 : Int)), (.string (bs [])), (.slice none 0 0)]⟩), (.e (.agg [(.int .i64), (.int .i64), (.str), (.sl)]))⟩,
  ⟨79, .struct #[{ name := "op", type := 3, offset := 0, embedded := false, tag := "", pkgPath := "pilaster/pilasterref45", byteOffset := 0 }, { name := "n", type := 3, offset := 1, embedded := false, tag := "", pkgPath := "pilaster/pilasterref45", byteOffset := 8 }, { name := "steps", type := 3, offset := 2, embedded := false, tag := "", pkgPath := "pilaster/pilasterref45", byteOffset := 16 }, { name := "fuel", type := 3, offset := 3, embedded := false, tag := "", pkgPath := "pilaster/pilasterref45", byteOffset := 24 }, { name := "out", type := 25, offset := 4, embedded := false, tag := "", pkgPath := "pilaster/pilasterref45", byteOffset := 32 }], 5, 56, some (.agg ⟨[(.int .i64 (0 : Int)), (.int .i64 (0 : Int)), (.int .i64 (0 : Int)), (.int .i64 (0 : Int)), (.slice none 0 0)]⟩), (.e (.agg [(.int .i64), (.int .i64), (.int .i64), (.int .i64), (.sl)]))⟩,
  ⟨80, .tuple #[77, 79], 1, 0, some (.tuple ⟨[(.agg ⟨[(.int .i64 (0 : Int)), (.int .i64 (0 : Int)), (.string (bs [])), (.slice none 0 0)]⟩), (.agg ⟨[(.int .i64 (0 : Int)), (.int .i64 (0 : Int)), (.int .i64 (0 : Int)), (.int .i64 (0 : Int)), (.slice none 0 0)]⟩)]⟩), (.tup [(.agg [(.int .i64), (.int .i64), (.str), (.sl)]), (.agg [(.int .i64), (.int .i64), (.int .i64), (.int .i64), (.sl)])])⟩,
  ⟨82, .tuple #[28, 3], 1, 0, some (.tuple ⟨[(.agg ⟨[(.int .i64 (0 : Int)), (.int .i64 (0 : Int)), (.string (bs [])), (.slice none 0 0), (.slice none 0 0)]⟩), (.int .i64 (0 : Int))]⟩), (.tup [(.agg [(.int .i64), (.int .i64), (.str), (.sl), (.sl)]), (.one (.int .i64))])⟩,
  ⟨85, .tuple #[47, 31], 1, 0, some (.tuple ⟨[(.slice none 0 0), (.int .i64 (0 : Int))]⟩), (.tup [(.one (.sl)), (.one (.int .i64))])⟩,
  ⟨87, .pointer 89, 1, 8, some (.pointer none), (.e (.one (.ptr)))⟩,
  ⟨89, .struct #[{ name := "l", type := 22, offset := 0, embedded := false, tag := "", pkgPath := "pilaster/closure", byteOffset := 0 }, { name := "full", type := 4, offset := 1, embedded := false, tag := "", pkgPath := "pilaster/closure", byteOffset := 24 }], 2, 32, some (.agg ⟨[(.slice none 0 0), (.bool false)]⟩), (.e (.agg [(.sl), (.bool)]))⟩,
  ⟨92, .struct #[{ name := "places", type := 42, offset := 0, embedded := false, tag := "", pkgPath := "pilaster/closure", byteOffset := 0 }, { name := "locals", type := 3, offset := 1, embedded := false, tag := "", pkgPath := "pilaster/closure", byteOffset := 24 }], 2, 32, some (.agg ⟨[(.slice none 0 0), (.int .i64 (0 : Int))]⟩), (.e (.agg [(.sl), (.int .i64)]))⟩,
  ⟨95, .func #[3, 3] #[4] false, 1, 8, some .nilFunc, (.e (.one (.fn)))⟩,
  ⟨111, .tuple #[75, 79], 1, 0, some (.tuple ⟨[(.slice none 0 0), (.agg ⟨[(.int .i64 (0 : Int)), (.int .i64 (0 : Int)), (.int .i64 (0 : Int)), (.int .i64 (0 : Int)), (.slice none 0 0)]⟩)]⟩), (.tup [(.one (.sl)), (.agg [(.int .i64), (.int .i64), (.int .i64), (.int .i64), (.sl)])])⟩,
  ⟨116, .map 3 4, 1, 8, some (.map none), (.e (.one (.map)))⟩,
  ⟨122, .tuple #[3, 3], 1, 0, some (.tuple ⟨[(.int .i64 (0 : Int)), (.int .i64 (0 : Int))]⟩), (.tup [(.one (.int .i64)), (.one (.int .i64))])⟩,
  ⟨124, .pointer 126, 1, 8, some (.pointer none), (.e (.one (.ptr)))⟩,
  ⟨126, .struct #[{ name := "captures", type := 3, offset := 0, embedded := false, tag := "", pkgPath := "pilaster/closure", byteOffset := 0 }, { name := "closures", type := 95, offset := 1, embedded := false, tag := "", pkgPath := "pilaster/closure", byteOffset := 8 }], 2, 16, some (.agg ⟨[(.int .i64 (0 : Int)), .nilFunc]⟩), (.e (.agg [(.int .i64), (.fn)]))⟩,
  ⟨145, .tuple #[3, 4], 1, 0, some (.tuple ⟨[(.int .i64 (0 : Int)), (.bool false)]⟩), (.tup [(.one (.int .i64)), (.one (.bool))])⟩]
theorem TTok : TOk Tryz.prog TT := tok_of (by kernel_rfl)
def FNS : List Nat := [6, 7, 8, 9, 10, 11, 12, 13, 14, 15, 16, 17, 18, 19, 20, 21, 22, 23, 28, 29, 30, 31, 32, 33, 34, 35, 36, 37, 38, 40, 41, 43, 47, 48, 49, 52, 53, 54, 55, 56, 57, 58, 59, 60, 61, 62, 63, 64, 65, 66, 67, 68, 69, 70, 78, 79, 80, 81, 82, 83, 84, 85, 86, 87, 90, 91, 92, 103, 115, 120, 121]
theorem FNSok : FOk Tryz.prog FNS := fok_of (by kernel_rfl)
theorem mixed : Tryz.prog.follows .mixedOrders = true := by kernel_rfl
def TCH : List Nat := [37, 62, 63, 65]
def PNF : List Nat := []
noncomputable def c3 : Code := match Tryz.f3.body with
  | some c => c
  | none => .skip
noncomputable def c4 : Code := match Tryz.f4.body with
  | some c => c
  | none => .skip
noncomputable def c5 : Code := match Tryz.f5.body with
  | some c => c
  | none => .skip
noncomputable def cfg5 : Cfg := ⟨Tryz.prog, TT, FNS, [1, 6, 8], [(1, 1), (6, 6), (8, 8), (60, 6), (64, 8), (68, 6), (72, 6), (74, 8), (79, 8), (81, 6)], [], TCH, false, false, none, PNF, false⟩
def an5 : AnnG := (.seq .leaf (.join ⟨[], [], []⟩ (.seq .leaf (.cond (.seq .leaf .leaf) .leaf)) (.seq .leaf (.join ⟨[], [], []⟩ (.seq .leaf (.cond (.seq .leaf .leaf) .leaf)) (.seq .leaf (.seq .leaf (.join ⟨[], [], []⟩ (.seq .leaf (.cond (.seq .leaf .leaf) .leaf)) (.seq (.join ⟨[(67, .bool)], [], []⟩ .leaf (.cond (.seq .leaf .leaf) .leaf)) (.seq .leaf .leaf)))))))))
def F5 (x0 : Int) (x1 : Int) (x2 : ByteArray) (x3a : Option Addr) (x3l : Nat) (x3c : Nat) (g : G) (R : Value → G → Prop) : Prop :=
  ∀ J : G → Prop,
  (∀ g1 : G, ((CallsP Tryz.prog 17 #[(.agg ⟨[(.int .i64 x0), (.int .i64 x1), (.string x2), (.slice x3a x3l x3c)]⟩)] g1 fun v g2 =>
  ∃ (x0a : Option Addr) (x0l x0c : Nat) (x1_1 x2_1 : Int), v = (.tuple ⟨[(.slice x0a x0l x0c), (.int .i64 x1_1), (.int .i64 x2_1)]⟩) ∧ ∀ J_1 : G → Prop,
  (∀ g3 : G, ((CallsP Tryz.prog 19 #[(.agg ⟨[(.int .i64 x0), (.int .i64 x1), (.string x2), (.slice x3a x3l x3c)]⟩), (.int .i64 (10000 : Int))] g3 fun v g4 =>
  ∃ (x00 x01 x02 x03 x04 : Int) (x05 : ByteArray) (x06a : Option Addr) (x06l x06c : Nat) (x07a : Option Addr) (x07l x07c : Nat) (x08a : Option Addr) (x08l x08c : Nat) (x1_2 : Int), v = (.tuple ⟨[(.agg ⟨[(.int .i64 x00), (.int .i64 x01), (.int .i64 x02), (.int .i64 x03), (.int .i64 x04), (.string x05), (.slice x06a x06l x06c), (.slice x07a x07l x07c), (.slice x08a x08l x08c)]⟩), (.int .i64 x1_2)]⟩) ∧ ∀ g5 : G, Ex g4 g5 →
  (CallsP Tryz.prog 8 #[(.slice x0a x0l x0c), (.int .i64 x1_1), (.int .i64 (20000 : Int))] g5 fun v g6 =>
  ∃ (x00_1 x01_1 x02_1 x03_1 x04_1 : Int) (x05_1 : ByteArray) (x06a_1 : Option Addr) (x06l_1 x06c_1 : Nat) (x07a_1 : Option Addr) (x07l_1 x07c_1 : Nat) (x08a_1 : Option Addr) (x08l_1 x08c_1 : Nat) (x1_3 : Int), v = (.tuple ⟨[(.agg ⟨[(.int .i64 x00_1), (.int .i64 x01_1), (.int .i64 x02_1), (.int .i64 x03_1), (.int .i64 x04_1), (.string x05_1), (.slice x06a_1 x06l_1 x06c_1), (.slice x07a_1 x07l_1 x07c_1), (.slice x08a_1 x08l_1 x08c_1)]⟩), (.int .i64 x1_3)]⟩) ∧ ∀ J_2 : G → Prop,
  (∀ g7 : G, (∀ J_3 : Bool → G → Prop,
  (∀ (v_1 : Bool) (g8 : G), (ifB v_1
  (ifB (eqI x00 (3 : Int))
  ((CallsP Tryz.prog 13 #[(.slice x08a x08l x08c), (.slice x08a_1 x08l_1 x08c_1)] g8 fun v g9 =>
  ∃ x : Bool, v = (.bool x) ∧ ifB x
  (∀ g10 : G, Ex g9 g10 →
  R (.bool true) g10)
  ((CallsP Tryz.prog 13 #[(.slice x08a_1 x08l_1 x08c_1), (.slice x08a x08l x08c)] g9 fun v g11 =>
  ∃ x_1 : Bool, v = (.bool x_1) ∧ ∀ g12 : G, Ex g11 g12 →
  R (.bool x_1) g12))))
  ((CallsP Tryz.prog 13 #[(.slice x08a_1 x08l_1 x08c_1), (.slice x08a x08l x08c)] g8 fun v g13 =>
  ∃ x_2 : Bool, v = (.bool x_2) ∧ ∀ g14 : G, Ex g13 g14 →
  R (.bool x_2) g14)))
  ((CallsP Tryz.prog 20 #[(.agg ⟨[(.int .i64 x00), (.int .i64 x01), (.int .i64 x02), (.int .i64 x03), (.int .i64 x04), (.string x05), (.slice x06a x06l x06c), (.slice x07a x07l x07c), (.slice x08a x08l x08c)]⟩), (.agg ⟨[(.int .i64 x00_1), (.int .i64 x01_1), (.int .i64 x02_1), (.int .i64 x03_1), (.int .i64 x04_1), (.string x05_1), (.slice x06a_1 x06l_1 x06c_1), (.slice x07a_1 x07l_1 x07c_1), (.slice x08a_1 x08l_1 x08c_1)]⟩)] g8 fun v g15 =>
  ∃ x_3 : Bool, v = (.bool x_3) ∧ ∀ g16 : G, Ex g15 g16 →
  R (.bool x_3) g16))) → J_3 v_1 g8) →
  ifB (eqI x00 (3 : Int))
  (J_3 true g7)
  (J_3 (eqI x00_1 (3 : Int)) g7)) → J_2 g7) →
  ifB (!eqI x1_2 (0 : Int))
  (∀ g17 : G, Ex g6 g17 →
  R (.bool false) g17)
  (ifB (!eqI x1_3 (0 : Int))
  (∀ g18 : G, Ex g6 g18 →
  R (.bool false) g18)
  (∀ g19 : G, Ex g6 g19 →
  J_2 g19))))) → J_1 g3) →
  ifB (!eqI x2_1 (0 : Int))
  (∀ g20 : G, Ex g2 g20 →
  R (.bool false) g20)
  ((CallsP Tryz.prog 18 #[(.slice x0a x0l x0c), (.int .i64 x1_1)] g2 fun v g21 =>
  ∃ x_4 : Bool, v = (.bool x_4) ∧ ifB (!x_4)
  (∀ g22 : G, Ex g21 g22 →
  R (.bool false) g22)
  (J_1 g21))))) → J g1) →
  ∀ g23 : G, Ex g g23 →
  (CallsP Tryz.prog 6 #[] g23 fun v g24 =>
  ∃ x_5 : Bool, v = (.bool x_5) ∧ ifB (!x_5)
  ((CallsP Tryz.prog 6 #[] g24 fun v g25 =>
  ∃ x_6 : Bool, v = (.bool x_6) ∧ ∀ g26 : G, Ex g25 g26 →
  R (.bool x_6) g26))
  ((CallsP Tryz.prog 14 #[(.agg ⟨[(.int .i64 x0), (.int .i64 x1), (.string x2), (.slice x3a x3l x3c)]⟩), (.int .i64 (200 : Int)), (.int .i64 (1 : Int))] g24 fun v g27 =>
  ∃ x_7 : Int, v = (.int .i64 x_7) ∧ ifB (leI (200 : Int) x_7)
  ((CallsP Tryz.prog 6 #[] g27 fun v g28 =>
  ∃ x_8 : Bool, v = (.bool x_8) ∧ ∀ g29 : G, Ex g28 g29 →
  R (.bool x_8) g29))
  ((CallsP Tryz.prog 15 #[(.agg ⟨[(.int .i64 x0), (.int .i64 x1), (.string x2), (.slice x3a x3l x3c)]⟩)] g27 fun v g30 =>
  ∃ x_9 : Bool, v = (.bool x_9) ∧ ifB (!x_9)
  ((CallsP Tryz.prog 6 #[] g30 fun v g31 =>
  ∃ x_10 : Bool, v = (.bool x_10) ∧ ∀ g32 : G, Ex g31 g32 →
  R (.bool x_10) g32))
  ((CallsP Tryz.prog 16 #[(.agg ⟨[(.int .i64 x0), (.int .i64 x1), (.string x2), (.slice x3a x3l x3c)]⟩)] g30 fun v g33 =>
  ∃ (xa : Option Addr) (xl xc : Nat), v = (.slice xa xl xc) ∧ ifB (ltI (0 : Int) ((xl : Nat) : Int))
  ((CallsP Tryz.prog 6 #[] g33 fun v g34 =>
  ∃ x_11 : Bool, v = (.bool x_11) ∧ ∀ g35 : G, Ex g34 g35 →
  R (.bool x_11) g35))
  (J g33))))))))
theorem F5_eq (x0 : Int) (x1 : Int) (x2 : ByteArray) (x3a : Option Addr) (x3l : Nat) (x3c : Nat) (g : G) (R : Value → G → Prop) : fnG cfg5 88 [.tmp 2] c5 an5 [(.agg ⟨[(.int .i64 x0), (.int .i64 x1), (.string x2), (.slice x3a x3l x3c)]⟩)] g nobody R = F5 x0 x1 x2 x3a x3l x3c g R := by kernel_rfl
theorem call5 (x0 : Int) (x1 : Int) (x2 : ByteArray) (x3a : Option Addr) (x3l : Nat) (x3c : Nat) (g : G) (R : Value → G → Prop) (hF : F5 x0 x1 x2 x3a x3l x3c g R) : CallsG Tryz.prog 5 #[(.agg ⟨[(.int .i64 x0), (.int .i64 x1), (.string x2), (.slice x3a x3l x3c)]⟩)] g nobody R :=
  fn_soundG (c := cfg5) TTok FNSok mixed Tryz.func5 (show Tryz.f5.body = some c5 by kernel_rfl) (show Tryz.f5.ntmps = 88 by kernel_rfl) (show Tryz.f5.results.toList = [.tmp 2] by kernel_rfl) rfl ((F5_eq x0 x1 x2 x3a x3l x3c g R ).mpr hF)
noncomputable def c6 : Code := match Tryz.f6.body with
  | some c => c
  | none => .skip
noncomputable def cfg6 : Cfg := ⟨Tryz.prog, TT, FNS, [], [], [], TCH, false, false, none, PNF, false⟩
def an6 : AnnG := (.seq .leaf (.seq .leaf (.seq .leaf .leaf)))
def F6 (g : G) (R : Value → G → Prop) : Prop :=
  (CallsP Tryz.prog 21 #[(.int .i64 (1 : Int)), (.int .i64 (1 : Int)), (.slice none 0 0)] g fun v g1 =>
  ∃ (x0 x1 : Int) (x2 : ByteArray) (x3a : Option Addr) (x3l x3c : Nat), v = (.agg ⟨[(.int .i64 x0), (.int .i64 x1), (.string x2), (.slice x3a x3l x3c)]⟩) ∧ ∀ g2 : G, NewL g1 g2 44 [(.int .i64 x0), (.int .i64 x1), (.string x2), (.slice x3a x3l x3c)] →
  (CallsP Tryz.prog 21 #[(.int .i64 (4 : Int)), (.int .i64 (0 : Int)), (.slice (some ⟨g1.w.heap.size, 0, none⟩) 1 1)] g2 fun v g3 =>
  ∃ (x0_1 x1_1 : Int) (x2_1 : ByteArray) (x3a_1 : Option Addr) (x3l_1 x3c_1 : Nat), v = (.agg ⟨[(.int .i64 x0_1), (.int .i64 x1_1), (.string x2_1), (.slice x3a_1 x3l_1 x3c_1)]⟩) ∧ ∀ g4 : G, NewL g3 g4 44 [(.int .i64 x0_1), (.int .i64 x1_1), (.string x2_1), (.slice x3a_1 x3l_1 x3c_1)] →
  (CallsP Tryz.prog 21 #[(.int .i64 (4 : Int)), (.int .i64 (0 : Int)), (.slice (some ⟨g3.w.heap.size, 0, none⟩) 1 1)] g4 fun v g5 =>
  ∃ (x0_2 x1_2 : Int) (x2_2 : ByteArray) (x3a_2 : Option Addr) (x3l_2 x3c_2 : Nat), v = (.agg ⟨[(.int .i64 x0_2), (.int .i64 x1_2), (.string x2_2), (.slice x3a_2 x3l_2 x3c_2)]⟩) ∧ (CallsP Tryz.prog 17 #[(.agg ⟨[(.int .i64 x0_2), (.int .i64 x1_2), (.string x2_2), (.slice x3a_2 x3l_2 x3c_2)]⟩)] g5 fun v g6 =>
  ∃ (x0a : Option Addr) (x0l x0c : Nat) (x1_3 x2_3 : Int), v = (.tuple ⟨[(.slice x0a x0l x0c), (.int .i64 x1_3), (.int .i64 x2_3)]⟩) ∧ ifB (eqI x2_3 (0 : Int))
  (ifB (eqI x1_3 (0 : Int))
  ((CallsP Tryz.prog 21 #[(.int .i64 (24 : Int)), (.int .i64 (1 : Int)), (.slice none 0 0)] g6 fun v g7 =>
  ∃ (x0_3 x1_4 : Int) (x2_4 : ByteArray) (x3a_3 : Option Addr) (x3l_3 x3c_3 : Nat), v = (.agg ⟨[(.int .i64 x0_3), (.int .i64 x1_4), (.string x2_4), (.slice x3a_3 x3l_3 x3c_3)]⟩) ∧ (CallsP Tryz.prog 21 #[(.int .i64 (21 : Int)), (.int .i64 (0 : Int)), (.slice none 0 0)] g7 fun v g8 =>
  ∃ (x0_4 x1_5 : Int) (x2_5 : ByteArray) (x3a_4 : Option Addr) (x3l_4 x3c_4 : Nat), v = (.agg ⟨[(.int .i64 x0_4), (.int .i64 x1_5), (.string x2_5), (.slice x3a_4 x3l_4 x3c_4)]⟩) ∧ ∀ g9 : G, NewL g8 g9 44 [(.int .i64 x0_4), (.int .i64 x1_5), (.string x2_5), (.slice x3a_4 x3l_4 x3c_4)] →
  (CallsP Tryz.prog 21 #[(.int .i64 (24 : Int)), (.int .i64 (2 : Int)), (.slice (some ⟨g8.w.heap.size, 0, none⟩) 1 1)] g9 fun v g10 =>
  ∃ (x0_5 x1_6 : Int) (x2_6 : ByteArray) (x3a_5 : Option Addr) (x3l_5 x3c_5 : Nat), v = (.agg ⟨[(.int .i64 x0_5), (.int .i64 x1_6), (.string x2_6), (.slice x3a_5 x3l_5 x3c_5)]⟩) ∧ (CallsP Tryz.prog 21 #[(.int .i64 (23 : Int)), (.int .i64 (0 : Int)), (.slice none 0 0)] g10 fun v g11 =>
  ∃ (x0_6 x1_7 : Int) (x2_7 : ByteArray) (x3a_6 : Option Addr) (x3l_6 x3c_6 : Nat), v = (.agg ⟨[(.int .i64 x0_6), (.int .i64 x1_7), (.string x2_7), (.slice x3a_6 x3l_6 x3c_6)]⟩) ∧ ∀ g12 : G, NewL g11 g12 55 [(.int .i64 (0 : Int)), (.int .i64 x0_3), (.int .i64 x1_4), (.string x2_4), (.slice x3a_3 x3l_3 x3c_3), (.int .i64 (0 : Int)), (.int .i64 x0_5), (.int .i64 x1_6), (.string x2_6), (.slice x3a_5 x3l_5 x3c_5), (.int .i64 (1 : Int)), (.int .i64 x0_6), (.int .i64 x1_7), (.string x2_7), (.slice x3a_6 x3l_6 x3c_6)] →
  (CallsP Tryz.prog 22 #[(.slice x0a x0l x0c), (.slice (some ⟨g11.w.heap.size, 0, none⟩) 3 3)] g12 fun v g13 =>
  ∃ x : Bool, v = (.bool x) ∧ ∀ g14 : G, Ex g13 g14 →
  R (.bool x) g14))))))
  (∀ g15 : G, Ex g6 g15 →
  R (.bool false) g15))
  (∀ g16 : G, Ex g6 g16 →
  R (.bool false) g16)))))
theorem F6_eq (g : G) (R : Value → G → Prop) : fnG cfg6 33 [.tmp 0] c6 an6 [] g nobody R = F6 g R := by kernel_rfl
theorem call6 (g : G) (R : Value → G → Prop) (hF : F6 g R) : CallsG Tryz.prog 6 #[] g nobody R :=
  fn_soundG (c := cfg6) TTok FNSok mixed Tryz.func6 (show Tryz.f6.body = some c6 by kernel_rfl) (show Tryz.f6.ntmps = 33 by kernel_rfl) (show Tryz.f6.results.toList = [.tmp 0] by kernel_rfl) rfl ((F6_eq g R ).mpr hF)
noncomputable def c7 : Code := match Tryz.f7.body with
  | some c => c
  | none => .skip
noncomputable def c11 : Code := match Tryz.f11.body with
  | some c => c
  | none => .skip
noncomputable def c12 : Code := match Tryz.f12.body with
  | some c => c
  | none => .skip
noncomputable def c13 : Code := match Tryz.f13.body with
  | some c => c
  | none => .skip
noncomputable def cfg13 : Cfg := ⟨Tryz.prog, TT, FNS, [], [], [], TCH, false, false, none, PNF, false⟩
def an13 : AnnG := (.seq .leaf (.seq .leaf .leaf))
def F13 (aa : Option Addr) (al : Nat) (ac : Nat) (ba : Option Addr) (bl : Nat) (bc : Nat) (g : G) (R : Value → G → Prop) : Prop :=
  ifB (leI ((al : Nat) : Int) ((bl : Nat) : Int))
  ((0 ≤ ((al : Nat) : Int) ∧ ((al : Nat) : Int) ≤ ((bc : Nat) : Int)) ∧ (CallsP Tryz.prog 33 #[(.slice aa al ac), (.slice (slAddr ba bc 0 1) ((Int.toNat ((al : Nat) : Int)) - 0) (bc - 0))] g fun v g1 =>
  ∃ x : Bool, v = (.bool x) ∧ ∀ g2 : G, Ex g1 g2 →
  R (.bool x) g2))
  (∀ g3 : G, Ex g g3 →
  R (.bool false) g3)
theorem F13_eq (aa : Option Addr) (al : Nat) (ac : Nat) (ba : Option Addr) (bl : Nat) (bc : Nat) (g : G) (R : Value → G → Prop) : fnG cfg13 18 [.tmp 4] c13 an13 [(.slice aa al ac), (.slice ba bl bc)] g nobody R = F13 aa al ac ba bl bc g R := by kernel_rfl
theorem call13 (aa : Option Addr) (al : Nat) (ac : Nat) (ba : Option Addr) (bl : Nat) (bc : Nat) (g : G) (R : Value → G → Prop) (hF : F13 aa al ac ba bl bc g R) : CallsG Tryz.prog 13 #[(.slice aa al ac), (.slice ba bl bc)] g nobody R :=
  fn_soundG (c := cfg13) TTok FNSok mixed Tryz.func13 (show Tryz.f13.body = some c13 by kernel_rfl) (show Tryz.f13.ntmps = 18 by kernel_rfl) (show Tryz.f13.results.toList = [.tmp 4] by kernel_rfl) rfl ((F13_eq aa al ac ba bl bc g R ).mpr hF)
noncomputable def c14 : Code := match Tryz.f14.body with
  | some c => c
  | none => .skip
noncomputable def cfg14 : Cfg := ⟨Tryz.prog, TT, FNS, [3, 9], [(3, 3), (9, 9), (13, 3), (18, 3), (25, 3), (31, 3)], [], TCH, false, false, none, PNF, false⟩
def an14 : AnnG := (.seq .leaf (.join ⟨[], [], []⟩ (.seq .leaf (.cond (.seq .leaf .leaf) .leaf)) (.seq .leaf (.seq (.seq .leaf (.blk (.loop ⟨[(7, .int .i64), (34, .int .i64)], [], []⟩ (.seq .leaf (.seq (.cond .leaf .leaf) (.seq (.blk (.seq .leaf (.seq (.seq .leaf (.cond (.seq .leaf .leaf) .leaf)) .leaf))) .leaf)))))) (.seq .leaf .leaf)))))
def F14 (x0 : Int) (x1 : Int) (x2 : ByteArray) (x3a : Option Addr) (x3l : Nat) (x3c : Nat) (most : Int) (depth : Int) (g : G) (R : Value → G → Prop) : Prop :=
  ∀ J : G → Prop,
  (∀ g1 : G, (∃ Inv : Nat → Int → Int → G → Prop, ((∃ m0 : Nat, Inv m0 (1 : Int) (0 : Int) g1)) ∧
  ∀ (m : Nat) (n v_1 : Int) (g2 : G), Le g1 g2 → Inv m n v_1 g2 →
  ifB (ltI v_1 ((x3l : Nat) : Int))
  ((0 ≤ v_1 ∧ v_1 < ((x3l : Nat) : Int)) ∧ derefP x3a fun ad => ∃ (x0_1 x1_1 : Int) (x2_1 : ByteArray) (x3a_1 : Option Addr) (x3l_1 x3c_1 : Nat), g2.w.cell? (Addr.add ad (Int.toNat v_1 * 4)) = some (.int .i64 x0_1) ∧ g2.w.cell? (Addr.add (Addr.add ad (Int.toNat v_1 * 4)) 1) = some (.int .i64 x1_1) ∧ g2.w.cell? (Addr.add (Addr.add ad (Int.toNat v_1 * 4)) 2) = some (.string x2_1) ∧ g2.w.cell? (Addr.add (Addr.add ad (Int.toNat v_1 * 4)) 3) = some (.slice x3a_1 x3l_1 x3c_1) ∧ ifB (leI most n)
  (∀ g3 : G, Ex g2 g3 →
  R (.int .i64 most) g3)
  (InI64 (most - n) ∧ InI64 (depth + (1 : Int)) ∧ ∀ g4 : G, Ex g2 g4 →
  (CallsP Tryz.prog 14 #[(.agg ⟨[(.int .i64 x0_1), (.int .i64 x1_1), (.string x2_1), (.slice x3a_1 x3l_1 x3c_1)]⟩), (.int .i64 (most - n)), (.int .i64 (depth + (1 : Int)))] g4 fun v g5 =>
  ∃ x : Int, v = (.int .i64 x) ∧ InI64 (n + x) ∧ InI64 (v_1 + (1 : Int)) ∧ (∃ m_1 : Nat, m_1 < m ∧ Inv m_1 (n + x) (v_1 + (1 : Int)) g5))))
  (∀ g6 : G, Ex g2 g6 →
  R (.int .i64 (minI n most)) g6)) → J g1) →
  ifB (ltI (250 : Int) depth)
  (∀ g7 : G, Ex g g7 →
  R (.int .i64 most) g7)
  (ifB (ltI (300 : Int) ((x2.size : Nat) : Int))
  (ifB (leI ((x2.size : Nat) : Int) (16384 : Int))
  (∀ g8 : G, Ex g g8 →
  R (.int .i64 most) g8)
  (ifB (ltI (16484 : Int) ((x2.size : Nat) : Int))
  (∀ g9 : G, Ex g g9 →
  R (.int .i64 most) g9)
  (∀ g10 : G, Ex g g10 →
  J g10)))
  (ifB (ltI (16484 : Int) ((x2.size : Nat) : Int))
  (∀ g11 : G, Ex g g11 →
  R (.int .i64 most) g11)
  (∀ g12 : G, Ex g g12 →
  J g12)))
theorem F14_eq (x0 : Int) (x1 : Int) (x2 : ByteArray) (x3a : Option Addr) (x3l : Nat) (x3c : Nat) (most : Int) (depth : Int) (g : G) (R : Value → G → Prop) : fnG cfg14 55 [.tmp 6] c14 an14 [(.agg ⟨[(.int .i64 x0), (.int .i64 x1), (.string x2), (.slice x3a x3l x3c)]⟩), (.int .i64 most), (.int .i64 depth)] g nobody R = F14 x0 x1 x2 x3a x3l x3c most depth g R := by kernel_rfl
theorem call14 (x0 : Int) (x1 : Int) (x2 : ByteArray) (x3a : Option Addr) (x3l : Nat) (x3c : Nat) (most : Int) (depth : Int) (g : G) (R : Value → G → Prop) (hF : F14 x0 x1 x2 x3a x3l x3c most depth g R) : CallsG Tryz.prog 14 #[(.agg ⟨[(.int .i64 x0), (.int .i64 x1), (.string x2), (.slice x3a x3l x3c)]⟩), (.int .i64 most), (.int .i64 depth)] g nobody R :=
  fn_soundG (c := cfg14) TTok FNSok mixed Tryz.func14 (show Tryz.f14.body = some c14 by kernel_rfl) (show Tryz.f14.ntmps = 55 by kernel_rfl) (show Tryz.f14.results.toList = [.tmp 6] by kernel_rfl) rfl ((F14_eq x0 x1 x2 x3a x3l x3c most depth g R ).mpr hF)
noncomputable def c15 : Code := match Tryz.f15.body with
  | some c => c
  | none => .skip
noncomputable def cfg15 : Cfg := ⟨Tryz.prog, TT, FNS, [1], [(1, 1)], [], TCH, false, false, none, PNF, false⟩
def an15 : AnnG := (.seq .leaf (.seq .leaf .leaf))
def F15 (x0 : Int) (x1 : Int) (x2 : ByteArray) (x3a : Option Addr) (x3l : Nat) (x3c : Nat) (g : G) (R : Value → G → Prop) : Prop :=
  ∀ g1 : G, Ex g g1 →
  (CallsP Tryz.prog 34 #[(.agg ⟨[(.int .i64 x0), (.int .i64 x1), (.string x2), (.slice x3a x3l x3c)]⟩), (.int .i64 (20000 : Int)), (.int .i64 (400 : Int))] g1 fun v g2 =>
  ∃ x : Int, v = (.int .i64 x) ∧ ∀ g3 : G, Ex g2 g3 →
  R (.bool (leI (0 : Int) x)) g3)
theorem F15_eq (x0 : Int) (x1 : Int) (x2 : ByteArray) (x3a : Option Addr) (x3l : Nat) (x3c : Nat) (g : G) (R : Value → G → Prop) : fnG cfg15 6 [.tmp 2] c15 an15 [(.agg ⟨[(.int .i64 x0), (.int .i64 x1), (.string x2), (.slice x3a x3l x3c)]⟩)] g nobody R = F15 x0 x1 x2 x3a x3l x3c g R := by kernel_rfl
theorem call15 (x0 : Int) (x1 : Int) (x2 : ByteArray) (x3a : Option Addr) (x3l : Nat) (x3c : Nat) (g : G) (R : Value → G → Prop) (hF : F15 x0 x1 x2 x3a x3l x3c g R) : CallsG Tryz.prog 15 #[(.agg ⟨[(.int .i64 x0), (.int .i64 x1), (.string x2), (.slice x3a x3l x3c)]⟩)] g nobody R :=
  fn_soundG (c := cfg15) TTok FNSok mixed Tryz.func15 (show Tryz.f15.body = some c15 by kernel_rfl) (show Tryz.f15.ntmps = 6 by kernel_rfl) (show Tryz.f15.results.toList = [.tmp 2] by kernel_rfl) rfl ((F15_eq x0 x1 x2 x3a x3l x3c g R ).mpr hF)
noncomputable def c16 : Code := match Tryz.f16.body with
  | some c => c
  | none => .skip
noncomputable def cfg16 : Cfg := ⟨Tryz.prog, TT, FNS, [1], [(1, 1)], [], TCH, false, false, none, PNF, false⟩
def an16 : AnnG := (.seq .leaf (.seq .leaf .leaf))
def F16 (x0 : Int) (x1 : Int) (x2 : ByteArray) (x3a : Option Addr) (x3l : Nat) (x3c : Nat) (g : G) (R : Value → G → Prop) : Prop :=
  ∀ g1 : G, Ex g g1 →
  (CallsP Tryz.prog 35 #[(.agg ⟨[(.int .i64 x0), (.int .i64 x1), (.string x2), (.slice x3a x3l x3c)]⟩), (.int .i64 (0 : Int)), (.slice none 0 0)] g1 fun v g2 =>
  ∃ (xa : Option Addr) (xl xc : Nat), v = (.slice xa xl xc) ∧ ∀ g3 : G, Ex g2 g3 →
  R (.slice xa xl xc) g3)
theorem F16_eq (x0 : Int) (x1 : Int) (x2 : ByteArray) (x3a : Option Addr) (x3l : Nat) (x3c : Nat) (g : G) (R : Value → G → Prop) : fnG cfg16 5 [.tmp 2] c16 an16 [(.agg ⟨[(.int .i64 x0), (.int .i64 x1), (.string x2), (.slice x3a x3l x3c)]⟩)] g nobody R = F16 x0 x1 x2 x3a x3l x3c g R := by kernel_rfl
theorem call16 (x0 : Int) (x1 : Int) (x2 : ByteArray) (x3a : Option Addr) (x3l : Nat) (x3c : Nat) (g : G) (R : Value → G → Prop) (hF : F16 x0 x1 x2 x3a x3l x3c g R) : CallsG Tryz.prog 16 #[(.agg ⟨[(.int .i64 x0), (.int .i64 x1), (.string x2), (.slice x3a x3l x3c)]⟩)] g nobody R :=
  fn_soundG (c := cfg16) TTok FNSok mixed Tryz.func16 (show Tryz.f16.body = some c16 by kernel_rfl) (show Tryz.f16.ntmps = 5 by kernel_rfl) (show Tryz.f16.results.toList = [.tmp 2] by kernel_rfl) rfl ((F16_eq x0 x1 x2 x3a x3l x3c g R ).mpr hF)
noncomputable def c17 : Code := match Tryz.f17.body with
  | some c => c
  | none => .skip
noncomputable def cfg17 : Cfg := ⟨Tryz.prog, TT, FNS, [1, 8], [(1, 1), (8, 8)], [22], TCH, false, false, none, PNF, false⟩
def an17 : AnnG := (.seq .leaf (.seq .leaf (.join ⟨[], [], []⟩ (.seq .leaf (.cond (.seq .leaf .leaf) .leaf)) (.seq .leaf (.seq .leaf (.join ⟨[], [], []⟩ (.seq .leaf (.cond (.seq .leaf .leaf) .leaf)) (.seq (.tree 5 (.quiet 0 (.quiet 1 (.quiet 2 (.quiet 3 (.quiet 4 .fin)))))) (.seq (.seq .leaf (.cond (.seq .leaf .leaf) .leaf)) (.seq .leaf .leaf)))))))))
def F17 (x0 : Int) (x1 : Int) (x2 : ByteArray) (x3a : Option Addr) (x3l : Nat) (x3c : Nat) (g : G) (R : Value → G → Prop) : Prop :=
  ∀ g1 : G, Ex g g1 →
  (CallsP Tryz.prog 36 #[(.agg ⟨[(.int .i64 x0), (.int .i64 x1), (.string x2), (.slice x3a x3l x3c)]⟩)] g1 fun v g2 =>
  ∃ (x0a : Option Addr) (x0l x0c : Nat) (x1_1 : Int), v = (.tuple ⟨[(.slice x0a x0l x0c), (.int .i64 x1_1)]⟩) ∧ ∀ J : G → Prop,
  (∀ g3 : G, (∀ g4 : G, NewD g3 g4 55 [(.int .i64 (0 : Int)), (.int .i64 (0 : Int)), (.int .i64 (0 : Int)), (.string (bs [])), (.slice none 0 0)] →
  ∀ g5 : G, NewD g4 g5 89 ([(.slice (some ⟨g3.w.heap.size, 0, none⟩) 1 1), (.bool false)] : List Value) →
  ∃ M1 : Nat → Prop, (∀ b, b < g.w.heap.size → M1 b → nobody b) ∧ (CallsG Tryz.prog 37 #[(.pointer (some ⟨g4.w.heap.size, 0, none⟩)), (.agg ⟨[(.int .i64 x0), (.int .i64 x1), (.string x2), (.slice x3a x3l x3c)]⟩), (.agg ⟨[(.slice none 0 0), (.int .i64 (1 : Int))]⟩)] g5 M1 fun v g6 =>
  ∃ (x0_1 x1_2 : Int) (x2_1 : ByteArray) (x3a_1 : Option Addr) (x3l_1 x3c_1 : Nat), v = (.agg ⟨[(.int .i64 x0_1), (.int .i64 x1_2), (.string x2_1), (.slice x3a_1 x3l_1 x3c_1)]⟩) ∧ ∀ J_1 : G → Prop,
  (∀ g7 : G, (∀ g8 : G, Ex g7 g8 →
  ∃ (xa : Option Addr) (xl xc : Nat), g8.w.cell? ⟨g4.w.heap.size, 0, none⟩ = some (.slice xa xl xc) ∧ (0 ≤ (0 : Int) ∧ (0 : Int) < ((xl : Nat) : Int)) ∧ derefP xa fun ad => stOk g8.w (Addr.add (Addr.add ad (Int.toNat (0 : Int) * 5)) 1) 4 ∧ ¬ g8.X (Addr.block (Addr.add (Addr.add ad (Int.toNat (0 : Int) * 5)) 1)) ∧ mutAt g8 (Addr.add (Addr.add ad (Int.toNat (0 : Int) * 5)) 1) 4 ∧ ((Addr.block (Addr.add (Addr.add ad (Int.toNat (0 : Int) * 5)) 1)) < g.w.heap.size → nobody (Addr.block (Addr.add (Addr.add ad (Int.toNat (0 : Int) * 5)) 1))) ∧ ∀ g9 : G, StG false g8 (Addr.add (Addr.add ad (Int.toNat (0 : Int) * 5)) 1) [(.int .i64 x0_1), (.int .i64 x1_2), (.string x2_1), (.slice x3a_1 x3l_1 x3c_1)] g9 →
  ∃ (xa_1 : Option Addr) (xl_1 xc_1 : Nat), g9.w.cell? ⟨g4.w.heap.size, 0, none⟩ = some (.slice xa_1 xl_1 xc_1) ∧ (CallsP Tryz.prog 38 #[(.slice xa_1 xl_1 xc_1), (.func (.func 39) #[] #[])] g9 fun v g10 =>
  ∃ x : Bool, v = (.bool x) ∧ ifB x
  (∀ g11 : G, Ex g10 g11 →
  R (.tuple ⟨[(.slice none 0 0), (.int .i64 (0 : Int)), (.int .i64 (5 : Int))]⟩) g11)
  (∃ (xa_2 : Option Addr) (xl_2 xc_2 : Nat), g10.w.cell? ⟨g4.w.heap.size, 0, none⟩ = some (.slice xa_2 xl_2 xc_2) ∧ ∀ g12 : G, Ex g10 g12 →
  R (.tuple ⟨[(.slice xa_2 xl_2 xc_2), (.int .i64 (0 : Int)), (.int .i64 (0 : Int))]⟩) g12))) → J_1 g7) →
  ∀ g13 : G, Ex g6 g13 →
  ∃ x_1 : Bool, g13.w.cell? (Addr.add ⟨g4.w.heap.size, 0, none⟩ 1) = some (.bool x_1) ∧ ifB x_1
  (∀ g14 : G, Ex g13 g14 →
  R (.tuple ⟨[(.slice none 0 0), (.int .i64 (0 : Int)), (.int .i64 (5 : Int))]⟩) g14)
  (∃ (xa_3 : Option Addr) (xl_3 xc_3 : Nat), g13.w.cell? ⟨g4.w.heap.size, 0, none⟩ = some (.slice xa_3 xl_3 xc_3) ∧ ifB (ltI (4096 : Int) ((xl_3 : Nat) : Int))
  (∀ g15 : G, Ex g13 g15 →
  R (.tuple ⟨[(.slice none 0 0), (.int .i64 (0 : Int)), (.int .i64 (5 : Int))]⟩) g15)
  (J_1 g13)))) → J g3) →
  ifB (!eqI x1_1 (0 : Int))
  (∀ g16 : G, Ex g2 g16 →
  R (.tuple ⟨[(.slice none 0 0), (.int .i64 (0 : Int)), (.int .i64 (1 : Int))]⟩) g16)
  (ifB (ltI (0 : Int) ((x0l : Nat) : Int))
  (∀ g17 : G, Ex g2 g17 →
  R (.tuple ⟨[(.slice none 0 0), (.int .i64 (0 : Int)), (.int .i64 (1 : Int))]⟩) g17)
  (J g2)))
theorem F17_eq (x0 : Int) (x1 : Int) (x2 : ByteArray) (x3a : Option Addr) (x3l : Nat) (x3c : Nat) (g : G) (R : Value → G → Prop) : fnG cfg17 57 [.tmp 2, .tmp 3, .tmp 4] c17 an17 [(.agg ⟨[(.int .i64 x0), (.int .i64 x1), (.string x2), (.slice x3a x3l x3c)]⟩)] g nobody R = F17 x0 x1 x2 x3a x3l x3c g R := by kernel_rfl
theorem call17 (x0 : Int) (x1 : Int) (x2 : ByteArray) (x3a : Option Addr) (x3l : Nat) (x3c : Nat) (g : G) (R : Value → G → Prop) (hF : F17 x0 x1 x2 x3a x3l x3c g R) : CallsG Tryz.prog 17 #[(.agg ⟨[(.int .i64 x0), (.int .i64 x1), (.string x2), (.slice x3a x3l x3c)]⟩)] g nobody R :=
  fn_soundG (c := cfg17) TTok FNSok mixed Tryz.func17 (show Tryz.f17.body = some c17 by kernel_rfl) (show Tryz.f17.ntmps = 57 by kernel_rfl) (show Tryz.f17.results.toList = [.tmp 2, .tmp 3, .tmp 4] by kernel_rfl) rfl ((F17_eq x0 x1 x2 x3a x3l x3c g R ).mpr hF)
noncomputable def c18 : Code := match Tryz.f18.body with
  | some c => c
  | none => .skip
noncomputable def cfg18 : Cfg := ⟨Tryz.prog, TT, FNS, [], [], [2], TCH, false, false, none, PNF, false⟩
def an18 : AnnG := (.seq .leaf (.join ⟨[], [], []⟩ (.seq .leaf (.cond (.seq .leaf .leaf) .leaf)) (.seq .leaf .leaf)))
def F18 (la : Option Addr) (ll : Nat) (lc : Nat) (main : Int) (g : G) (R : Value → G → Prop) : Prop :=
  ∀ g1 : G, NewL g g1 22 ([(.slice la ll lc)] : List Value) →
  ∀ J : G → Prop,
  (∀ g2 : G, (∃ (la_1 : Option Addr) (ll_1 lc_1 : Nat), g2.w.cell? ⟨g.w.heap.size, 0, none⟩ = some (.slice la_1 ll_1 lc_1) ∧ (CallsP Tryz.prog 38 #[(.slice la_1 ll_1 lc_1), (.func (.func 42) #[] ⟨[(.pointer (some ⟨g.w.heap.size, 0, none⟩))]⟩)] g2 fun v g3 =>
  ∃ x : Bool, v = (.bool x) ∧ ∀ g4 : G, Ex g3 g4 →
  R (.bool (!x)) g4)) → J g2) →
  ∃ (la_2 : Option Addr) (ll_2 lc_2 : Nat), g1.w.cell? ⟨g.w.heap.size, 0, none⟩ = some (.slice la_2 ll_2 lc_2) ∧ (CallsP Tryz.prog 41 #[(.int .i64 ((ll_2 : Nat) : Int)), (.int .i64 (1 : Int)), (.int .i64 (4096 : Int))] g1 fun v g5 =>
  ∃ x_1 : Bool, v = (.bool x_1) ∧ ifB (!x_1)
  (∀ g6 : G, Ex g5 g6 →
  R (.bool false) g6)
  (∃ (la_3 : Option Addr) (ll_3 lc_3 : Nat), g5.w.cell? ⟨g.w.heap.size, 0, none⟩ = some (.slice la_3 ll_3 lc_3) ∧ InI64 (((ll_3 : Nat) : Int) - (1 : Int)) ∧ (CallsP Tryz.prog 41 #[(.int .i64 main), (.int .i64 (0 : Int)), (.int .i64 (((ll_3 : Nat) : Int) - (1 : Int)))] g5 fun v g7 =>
  ∃ x_2 : Bool, v = (.bool x_2) ∧ ifB (!x_2)
  (∀ g8 : G, Ex g7 g8 →
  R (.bool false) g8)
  (∃ (la_4 : Option Addr) (ll_4 lc_4 : Nat), g7.w.cell? ⟨g.w.heap.size, 0, none⟩ = some (.slice la_4 ll_4 lc_4) ∧ (0 ≤ main ∧ main < ((ll_4 : Nat) : Int)) ∧ derefP la_4 fun ad => ∃ x_3 : Int, g7.w.cell? (Addr.add ad (Int.toNat main * 5)) = some (.int .i64 x_3) ∧ ifB (!eqI x_3 (0 : Int))
  (∀ g9 : G, Ex g7 g9 →
  R (.bool false) g9)
  (J g7)))))
theorem F18_eq (la : Option Addr) (ll : Nat) (lc : Nat) (main : Int) (g : G) (R : Value → G → Prop) : fnG cfg18 29 [.tmp 4] c18 an18 [(.slice la ll lc), (.int .i64 main)] g nobody R = F18 la ll lc main g R := by kernel_rfl
theorem call18 (la : Option Addr) (ll : Nat) (lc : Nat) (main : Int) (g : G) (R : Value → G → Prop) (hF : F18 la ll lc main g R) : CallsG Tryz.prog 18 #[(.slice la ll lc), (.int .i64 main)] g nobody R :=
  fn_soundG (c := cfg18) TTok FNSok mixed Tryz.func18 (show Tryz.f18.body = some c18 by kernel_rfl) (show Tryz.f18.ntmps = 29 by kernel_rfl) (show Tryz.f18.results.toList = [.tmp 4] by kernel_rfl) rfl ((F18_eq la ll lc main g R ).mpr hF)
noncomputable def c20 : Code := match Tryz.f20.body with
  | some c => c
  | none => .skip
noncomputable def cfg20 : Cfg := ⟨Tryz.prog, TT, FNS, [2, 3], [(2, 2), (3, 3), (5, 2), (7, 3), (11, 2), (13, 3), (18, 2), (20, 3), (25, 2), (27, 3)], [], TCH, false, false, none, PNF, false⟩
def an20 : AnnG := (.seq .leaf (.seq .leaf .leaf))
def F20 (a0 : Int) (a1 : Int) (a2 : Int) (a3 : Int) (a4 : Int) (a5 : ByteArray) (a6a : Option Addr) (a6l : Nat) (a6c : Nat) (a7a : Option Addr) (a7l : Nat) (a7c : Nat) (a8a : Option Addr) (a8l : Nat) (a8c : Nat) (b0 : Int) (b1 : Int) (b2 : Int) (b3 : Int) (b4 : Int) (b5 : ByteArray) (b6a : Option Addr) (b6l : Nat) (b6c : Nat) (b7a : Option Addr) (b7l : Nat) (b7c : Nat) (b8a : Option Addr) (b8l : Nat) (b8c : Nat) (g : G) (R : Value → G → Prop) : Prop :=
  ifB (eqI a0 b0)
  (ifB (eqI a1 b1)
  (∀ g1 : G, Ex g g1 →
  (CallsP Tryz.prog 47 #[(.agg ⟨[(.int .i64 a3), (.int .i64 a4), (.string a5), (.slice a6a a6l a6c), (.slice a7a a7l a7c)]⟩), (.agg ⟨[(.int .i64 b3), (.int .i64 b4), (.string b5), (.slice b6a b6l b6c), (.slice b7a b7l b7c)]⟩)] g1 fun v g2 =>
  ∃ x : Bool, v = (.bool x) ∧ ifB x
  ((CallsP Tryz.prog 48 #[(.slice a8a a8l a8c), (.slice b8a b8l b8c)] g2 fun v g3 =>
  ∃ x_1 : Bool, v = (.bool x_1) ∧ ∀ g4 : G, Ex g3 g4 →
  R (.bool x_1) g4))
  (∀ g5 : G, Ex g2 g5 →
  R (.bool false) g5)))
  (∀ g6 : G, Ex g g6 →
  R (.bool false) g6))
  (∀ g7 : G, Ex g g7 →
  R (.bool false) g7)
theorem F20_eq (a0 : Int) (a1 : Int) (a2 : Int) (a3 : Int) (a4 : Int) (a5 : ByteArray) (a6a : Option Addr) (a6l : Nat) (a6c : Nat) (a7a : Option Addr) (a7l : Nat) (a7c : Nat) (a8a : Option Addr) (a8l : Nat) (a8c : Nat) (b0 : Int) (b1 : Int) (b2 : Int) (b3 : Int) (b4 : Int) (b5 : ByteArray) (b6a : Option Addr) (b6l : Nat) (b6c : Nat) (b7a : Option Addr) (b7l : Nat) (b7c : Nat) (b8a : Option Addr) (b8l : Nat) (b8c : Nat) (g : G) (R : Value → G → Prop) : fnG cfg20 31 [.tmp 4] c20 an20 [(.agg ⟨[(.int .i64 a0), (.int .i64 a1), (.int .i64 a2), (.int .i64 a3), (.int .i64 a4), (.string a5), (.slice a6a a6l a6c), (.slice a7a a7l a7c), (.slice a8a a8l a8c)]⟩), (.agg ⟨[(.int .i64 b0), (.int .i64 b1), (.int .i64 b2), (.int .i64 b3), (.int .i64 b4), (.string b5), (.slice b6a b6l b6c), (.slice b7a b7l b7c), (.slice b8a b8l b8c)]⟩)] g nobody R = F20 a0 a1 a2 a3 a4 a5 a6a a6l a6c a7a a7l a7c a8a a8l a8c b0 b1 b2 b3 b4 b5 b6a b6l b6c b7a b7l b7c b8a b8l b8c g R := by kernel_rfl
theorem call20 (a0 : Int) (a1 : Int) (a2 : Int) (a3 : Int) (a4 : Int) (a5 : ByteArray) (a6a : Option Addr) (a6l : Nat) (a6c : Nat) (a7a : Option Addr) (a7l : Nat) (a7c : Nat) (a8a : Option Addr) (a8l : Nat) (a8c : Nat) (b0 : Int) (b1 : Int) (b2 : Int) (b3 : Int) (b4 : Int) (b5 : ByteArray) (b6a : Option Addr) (b6l : Nat) (b6c : Nat) (b7a : Option Addr) (b7l : Nat) (b7c : Nat) (b8a : Option Addr) (b8l : Nat) (b8c : Nat) (g : G) (R : Value → G → Prop) (hF : F20 a0 a1 a2 a3 a4 a5 a6a a6l a6c a7a a7l a7c a8a a8l a8c b0 b1 b2 b3 b4 b5 b6a b6l b6c b7a b7l b7c b8a b8l b8c g R) : CallsG Tryz.prog 20 #[(.agg ⟨[(.int .i64 a0), (.int .i64 a1), (.int .i64 a2), (.int .i64 a3), (.int .i64 a4), (.string a5), (.slice a6a a6l a6c), (.slice a7a a7l a7c), (.slice a8a a8l a8c)]⟩), (.agg ⟨[(.int .i64 b0), (.int .i64 b1), (.int .i64 b2), (.int .i64 b3), (.int .i64 b4), (.string b5), (.slice b6a b6l b6c), (.slice b7a b7l b7c), (.slice b8a b8l b8c)]⟩)] g nobody R :=
  fn_soundG (c := cfg20) TTok FNSok mixed Tryz.func20 (show Tryz.f20.body = some c20 by kernel_rfl) (show Tryz.f20.ntmps = 31 by kernel_rfl) (show Tryz.f20.results.toList = [.tmp 4] by kernel_rfl) rfl ((F20_eq a0 a1 a2 a3 a4 a5 a6a a6l a6c a7a a7l a7c a8a a8l a8c b0 b1 b2 b3 b4 b5 b6a b6l b6c b7a b7l b7c b8a b8l b8c g R ).mpr hF)
noncomputable def c21 : Code := match Tryz.f21.body with
  | some c => c
  | none => .skip
noncomputable def cfg21 : Cfg := ⟨Tryz.prog, TT, FNS, [6], [(6, 6)], [], TCH, false, false, none, PNF, false⟩
def an21 : AnnG := (.seq .leaf (.seq .leaf .leaf))
def F21 (op : Int) (n : Int) (la : Option Addr) (ll : Nat) (lc : Nat) (g : G) (R : Value → G → Prop) : Prop :=
  ∀ g1 : G, Ex g g1 →
  ∀ g2 : G, Ex g1 g2 →
  R (.agg ⟨[(.int .i64 op), (.int .i64 n), (.string (bs [])), (.slice la ll lc)]⟩) g2
theorem F21_eq (op : Int) (n : Int) (la : Option Addr) (ll : Nat) (lc : Nat) (g : G) (R : Value → G → Prop) : fnG cfg21 11 [.cell 6 44] c21 an21 [(.int .i64 op), (.int .i64 n), (.slice la ll lc)] g nobody R = F21 op n la ll lc g R := by kernel_rfl
theorem call21 (op : Int) (n : Int) (la : Option Addr) (ll : Nat) (lc : Nat) (g : G) (R : Value → G → Prop) (hF : F21 op n la ll lc g R) : CallsG Tryz.prog 21 #[(.int .i64 op), (.int .i64 n), (.slice la ll lc)] g nobody R :=
  fn_soundG (c := cfg21) TTok FNSok mixed Tryz.func21 (show Tryz.f21.body = some c21 by kernel_rfl) (show Tryz.f21.ntmps = 11 by kernel_rfl) (show Tryz.f21.results.toList = [.cell 6 44] by kernel_rfl) rfl ((F21_eq op n la ll lc g R ).mpr hF)
noncomputable def c22 : Code := match Tryz.f22.body with
  | some c => c
  | none => .skip
noncomputable def cfg22 : Cfg := ⟨Tryz.prog, TT, FNS, [], [], [], TCH, false, false, none, PNF, false⟩
def an22 : AnnG := (.seq .leaf (.seq (.seq .leaf (.cond (.seq .leaf .leaf) .leaf)) (.seq (.seq .leaf (.blk (.loop ⟨[(5, .int .i64)], [], []⟩ (.seq (.seq .leaf (.cond .leaf .leaf)) (.seq (.blk (.seq (.tree 22 (.quiet 0 (.quiet 1 (.quiet 2 (.quiet 3 (.quiet 4 (.quiet 5 (.quiet 6 (.quiet 7 (.quiet 8 (.quiet 9 (.quiet 10 (.quiet 11 (.quiet 12 (.quiet 13 (.quiet 14 (.quiet 15 (.quiet 16 (.quiet 17 (.quiet 18 (.quiet 19 (.quiet 20 (.quiet 21 .fin))))))))))))))))))))))) (.cond (.seq .leaf .leaf) .leaf))) .leaf))))) (.seq .leaf .leaf))))
def F22 (aa : Option Addr) (al : Nat) (ac : Nat) (ba : Option Addr) (bl : Nat) (bc : Nat) (g : G) (R : Value → G → Prop) : Prop :=
  ifB (!eqI ((al : Nat) : Int) ((bl : Nat) : Int))
  (∀ g1 : G, Ex g g1 →
  R (.bool false) g1)
  (∃ Inv : Nat → Int → G → Prop, ((∃ m0 : Nat, Inv m0 (0 : Int) g)) ∧
  ∀ (m : Nat) (i : Int) (g2 : G), Le g g2 → Inv m i g2 →
  ifB (ltI i ((al : Nat) : Int))
  (∀ g3 : G, Ex g2 g3 →
  (0 ≤ i ∧ i < ((al : Nat) : Int)) ∧ derefP aa fun ad => ∃ x : Int, g3.w.cell? (Addr.add ad (Int.toNat i * 5)) = some (.int .i64 x) ∧ (0 ≤ i ∧ i < ((bl : Nat) : Int)) ∧ derefP ba fun ad_1 => ∃ x_1 : Int, g3.w.cell? (Addr.add ad_1 (Int.toNat i * 5)) = some (.int .i64 x_1) ∧ ifB (!eqI x x_1)
  (∀ g4 : G, Ex g3 g4 →
  R (.bool false) g4)
  ((0 ≤ i ∧ i < ((al : Nat) : Int)) ∧ derefP aa fun ad_2 => ∃ (x0 x1 : Int) (x2 : ByteArray) (x3a : Option Addr) (x3l x3c : Nat), g3.w.cell? (Addr.add (Addr.add ad_2 (Int.toNat i * 5)) 1) = some (.int .i64 x0) ∧ g3.w.cell? (Addr.add (Addr.add (Addr.add ad_2 (Int.toNat i * 5)) 1) 1) = some (.int .i64 x1) ∧ g3.w.cell? (Addr.add (Addr.add (Addr.add ad_2 (Int.toNat i * 5)) 1) 2) = some (.string x2) ∧ g3.w.cell? (Addr.add (Addr.add (Addr.add ad_2 (Int.toNat i * 5)) 1) 3) = some (.slice x3a x3l x3c) ∧ (0 ≤ i ∧ i < ((bl : Nat) : Int)) ∧ derefP ba fun ad_3 => ∃ (x0_1 x1_1 : Int) (x2_1 : ByteArray) (x3a_1 : Option Addr) (x3l_1 x3c_1 : Nat), g3.w.cell? (Addr.add (Addr.add ad_3 (Int.toNat i * 5)) 1) = some (.int .i64 x0_1) ∧ g3.w.cell? (Addr.add (Addr.add (Addr.add ad_3 (Int.toNat i * 5)) 1) 1) = some (.int .i64 x1_1) ∧ g3.w.cell? (Addr.add (Addr.add (Addr.add ad_3 (Int.toNat i * 5)) 1) 2) = some (.string x2_1) ∧ g3.w.cell? (Addr.add (Addr.add (Addr.add ad_3 (Int.toNat i * 5)) 1) 3) = some (.slice x3a_1 x3l_1 x3c_1) ∧ (CallsP Tryz.prog 49 #[(.agg ⟨[(.int .i64 x0), (.int .i64 x1), (.string x2), (.slice x3a x3l x3c)]⟩), (.agg ⟨[(.int .i64 x0_1), (.int .i64 x1_1), (.string x2_1), (.slice x3a_1 x3l_1 x3c_1)]⟩)] g3 fun v g5 =>
  ∃ x_2 : Bool, v = (.bool x_2) ∧ ifB (!x_2)
  (∀ g6 : G, Ex g5 g6 →
  R (.bool false) g6)
  (InI64 (i + (1 : Int)) ∧ (∃ m_1 : Nat, m_1 < m ∧ Inv m_1 (i + (1 : Int)) g5)))))
  (∀ g7 : G, Ex g2 g7 →
  R (.bool true) g7))
theorem F22_eq (aa : Option Addr) (al : Nat) (ac : Nat) (ba : Option Addr) (bl : Nat) (bc : Nat) (g : G) (R : Value → G → Prop) : fnG cfg22 42 [.tmp 4] c22 an22 [(.slice aa al ac), (.slice ba bl bc)] g nobody R = F22 aa al ac ba bl bc g R := by kernel_rfl
theorem call22 (aa : Option Addr) (al : Nat) (ac : Nat) (ba : Option Addr) (bl : Nat) (bc : Nat) (g : G) (R : Value → G → Prop) (hF : F22 aa al ac ba bl bc g R) : CallsG Tryz.prog 22 #[(.slice aa al ac), (.slice ba bl bc)] g nobody R :=
  fn_soundG (c := cfg22) TTok FNSok mixed Tryz.func22 (show Tryz.f22.body = some c22 by kernel_rfl) (show Tryz.f22.ntmps = 42 by kernel_rfl) (show Tryz.f22.results.toList = [.tmp 4] by kernel_rfl) rfl ((F22_eq aa al ac ba bl bc g R ).mpr hF)
noncomputable def c33 : Code := match Tryz.f33.body with
  | some c => c
  | none => .skip
noncomputable def cfg33 : Cfg := ⟨Tryz.prog, TT, FNS, [], [], [], TCH, false, false, none, PNF, false⟩
def an33 : AnnG := (.seq .leaf (.seq (.seq .leaf (.cond (.seq .leaf .leaf) .leaf)) (.seq (.seq .leaf (.blk (.loop ⟨[(13, .int .i64)], [], []⟩ (.seq .leaf (.seq (.cond .leaf .leaf) (.seq (.blk (.seq .leaf (.seq (.tree 8 (.quiet 0 (.quiet 1 (.quiet 2 (.quiet 3 (.quiet 4 (.quiet 5 (.quiet 6 (.quiet 7 .fin))))))))) (.cond (.seq .leaf .leaf) .leaf)))) .leaf)))))) (.seq .leaf .leaf))))
def F33 (s1a : Option Addr) (s1l : Nat) (s1c : Nat) (s2a : Option Addr) (s2l : Nat) (s2c : Nat) (g : G) (R : Value → G → Prop) : Prop :=
  ifB (!eqI ((s1l : Nat) : Int) ((s2l : Nat) : Int))
  (∀ g1 : G, Ex g g1 →
  R (.bool false) g1)
  (∃ Inv : Nat → Int → G → Prop, ((∃ m0 : Nat, Inv m0 (0 : Int) g)) ∧
  ∀ (m : Nat) (v_1 : Int) (g2 : G), Le g g2 → Inv m v_1 g2 →
  ifB (ltI v_1 ((s1l : Nat) : Int))
  (∀ g3 : G, Ex g2 g3 →
  (0 ≤ v_1 ∧ v_1 < ((s1l : Nat) : Int)) ∧ derefP s1a fun ad => ∃ x : ByteArray, g3.w.cell? (Addr.add ad (Int.toNat v_1 * 1)) = some (.string x) ∧ (0 ≤ v_1 ∧ v_1 < ((s2l : Nat) : Int)) ∧ derefP s2a fun ad_1 => ∃ x_1 : ByteArray, g3.w.cell? (Addr.add ad_1 (Int.toNat v_1 * 1)) = some (.string x_1) ∧ ifB (!strEq x x_1)
  (∀ g4 : G, Ex g3 g4 →
  R (.bool false) g4)
  (InI64 (v_1 + (1 : Int)) ∧ (∃ m_1 : Nat, m_1 < m ∧ Inv m_1 (v_1 + (1 : Int)) g3)))
  (∀ g5 : G, Ex g2 g5 →
  R (.bool true) g5))
theorem F33_eq (s1a : Option Addr) (s1l : Nat) (s1c : Nat) (s2a : Option Addr) (s2l : Nat) (s2c : Nat) (g : G) (R : Value → G → Prop) : fnG cfg33 26 [.tmp 4] c33 an33 [(.slice s1a s1l s1c), (.slice s2a s2l s2c)] g nobody R = F33 s1a s1l s1c s2a s2l s2c g R := by kernel_rfl
theorem call33 (s1a : Option Addr) (s1l : Nat) (s1c : Nat) (s2a : Option Addr) (s2l : Nat) (s2c : Nat) (g : G) (R : Value → G → Prop) (hF : F33 s1a s1l s1c s2a s2l s2c g R) : CallsG Tryz.prog 33 #[(.slice s1a s1l s1c), (.slice s2a s2l s2c)] g nobody R :=
  fn_soundG (c := cfg33) TTok FNSok mixed Tryz.func33 (show Tryz.f33.body = some c33 by kernel_rfl) (show Tryz.f33.ntmps = 26 by kernel_rfl) (show Tryz.f33.results.toList = [.tmp 4] by kernel_rfl) rfl ((F33_eq s1a s1l s1c s2a s2l s2c g R ).mpr hF)
noncomputable def c34 : Code := match Tryz.f34.body with
  | some c => c
  | none => .skip
noncomputable def cfg34 : Cfg := ⟨Tryz.prog, TT, FNS, [3], [(3, 3), (22, 3), (32, 3)], [], TCH, false, false, none, PNF, false⟩
def an34 : AnnG := (.seq .leaf (.join ⟨[], [], []⟩ (.seq .leaf (.cond (.seq .leaf .leaf) .leaf)) (.seq .leaf (.seq (.seq .leaf (.blk (.loop ⟨[(1, .int .i64), (7, .int .i64)], [], []⟩ (.join ⟨[], [], []⟩ (.seq .leaf (.cond .leaf .leaf)) (.seq (.blk .leaf) .leaf))))) (.seq .leaf .leaf)))))
def F34 (x0 : Int) (x1 : Int) (x2 : ByteArray) (x3a : Option Addr) (x3l : Nat) (x3c : Nat) (left : Int) (depth : Int) (g : G) (R : Value → G → Prop) : Prop :=
  ∀ J : G → Prop,
  (∀ g1 : G, (InI64 (left - (1 : Int)) ∧ ∃ Inv : Nat → Int → Int → G → Prop, ((∃ m0 : Nat, Inv m0 (left - (1 : Int)) (0 : Int) g1)) ∧
  ∀ (m : Nat) (left_1 i : Int) (g2 : G), Le g1 g2 → Inv m left_1 i g2 →
  ∀ J_1 : G → Prop,
  (∀ g3 : G, ((0 ≤ i ∧ i < ((x3l : Nat) : Int)) ∧ derefP x3a fun ad => ∃ (x0_1 x1_1 : Int) (x2_1 : ByteArray) (x3a_1 : Option Addr) (x3l_1 x3c_1 : Nat), g3.w.cell? (Addr.add ad (Int.toNat i * 4)) = some (.int .i64 x0_1) ∧ g3.w.cell? (Addr.add (Addr.add ad (Int.toNat i * 4)) 1) = some (.int .i64 x1_1) ∧ g3.w.cell? (Addr.add (Addr.add ad (Int.toNat i * 4)) 2) = some (.string x2_1) ∧ g3.w.cell? (Addr.add (Addr.add ad (Int.toNat i * 4)) 3) = some (.slice x3a_1 x3l_1 x3c_1) ∧ InI64 (depth - (1 : Int)) ∧ (CallsP Tryz.prog 34 #[(.agg ⟨[(.int .i64 x0_1), (.int .i64 x1_1), (.string x2_1), (.slice x3a_1 x3l_1 x3c_1)]⟩), (.int .i64 left_1), (.int .i64 (depth - (1 : Int)))] g3 fun v g4 =>
  ∃ left_2 : Int, v = (.int .i64 left_2) ∧ InI64 (i + (1 : Int)) ∧ (∃ m_1 : Nat, m_1 < m ∧ Inv m_1 left_2 (i + (1 : Int)) g4))) → J_1 g3) →
  ifB (ltI i ((x3l : Nat) : Int))
  (ifB (leI (0 : Int) left_1)
  (J_1 g2)
  (∀ g5 : G, Ex g2 g5 →
  R (.int .i64 left_1) g5))
  (∀ g6 : G, Ex g2 g6 →
  R (.int .i64 left_1) g6)) → J g1) →
  ifB (ltI left (1 : Int))
  (∀ g7 : G, Ex g g7 →
  R (.int .i64 (-1 : Int)) g7)
  (ifB (ltI depth (1 : Int))
  (∀ g8 : G, Ex g g8 →
  R (.int .i64 (-1 : Int)) g8)
  (∀ g9 : G, Ex g g9 →
  (CallsP Tryz.prog 58 #[(.agg ⟨[(.int .i64 x0), (.int .i64 x1), (.string x2), (.slice x3a x3l x3c)]⟩)] g9 fun v g10 =>
  ∃ x : Bool, v = (.bool x) ∧ ifB (!x)
  (∀ g11 : G, Ex g10 g11 →
  R (.int .i64 (-1 : Int)) g11)
  (J g10))))
theorem F34_eq (x0 : Int) (x1 : Int) (x2 : ByteArray) (x3a : Option Addr) (x3l : Nat) (x3c : Nat) (left : Int) (depth : Int) (g : G) (R : Value → G → Prop) : fnG cfg34 42 [.tmp 6] c34 an34 [(.agg ⟨[(.int .i64 x0), (.int .i64 x1), (.string x2), (.slice x3a x3l x3c)]⟩), (.int .i64 left), (.int .i64 depth)] g nobody R = F34 x0 x1 x2 x3a x3l x3c left depth g R := by kernel_rfl
theorem call34 (x0 : Int) (x1 : Int) (x2 : ByteArray) (x3a : Option Addr) (x3l : Nat) (x3c : Nat) (left : Int) (depth : Int) (g : G) (R : Value → G → Prop) (hF : F34 x0 x1 x2 x3a x3l x3c left depth g R) : CallsG Tryz.prog 34 #[(.agg ⟨[(.int .i64 x0), (.int .i64 x1), (.string x2), (.slice x3a x3l x3c)]⟩), (.int .i64 left), (.int .i64 depth)] g nobody R :=
  fn_soundG (c := cfg34) TTok FNSok mixed Tryz.func34 (show Tryz.f34.body = some c34 by kernel_rfl) (show Tryz.f34.ntmps = 42 by kernel_rfl) (show Tryz.f34.results.toList = [.tmp 6] by kernel_rfl) rfl ((F34_eq x0 x1 x2 x3a x3l x3c left depth g R ).mpr hF)
noncomputable def c35 : Code := match Tryz.f35.body with
  | some c => c
  | none => .skip
noncomputable def cfg35 : Cfg := ⟨Tryz.prog, TT, FNS, [3], [(3, 3), (8, 3), (12, 3), (18, 3), (24, 3), (30, 3)], [], TCH, false, false, none, PNF, false⟩
def an35 : AnnG := (.seq .leaf (.seq (.join ⟨[(16, .bool)], [], []⟩ .leaf (.cond (.seq .leaf .leaf) .leaf)) (.seq (.seq .leaf (.blk (.loop ⟨[(2, .sl), (7, .int .i64)], [], []⟩ (.seq (.seq .leaf (.cond .leaf .leaf)) (.seq (.blk (.tree 11 (.quiet 0 (.quiet 1 (.quiet 2 (.quiet 3 (.quiet 4 (.quiet 5 (.quiet 6 (.quiet 7 (.quiet 10 (.eff 8 (.quiet 9 .fin) .fin)))))))))))) .leaf))))) (.seq .leaf .leaf))))
def F35 (x0 : Int) (x1 : Int) (x2 : ByteArray) (x3a : Option Addr) (x3l : Nat) (x3c : Nat) (under : Int) (la : Option Addr) (ll : Nat) (lc : Nat) (g : G) (R : Value → G → Prop) : Prop :=
  ∀ J : Bool → G → Prop,
  (∀ (v_1 : Bool) (g1 : G), (ifB v_1
  (InI64 (x1 - under) ∧ (CallsP Tryz.prog 59 #[(.slice la ll lc), (.int .i64 (x1 - under))] g1 fun v g2 =>
  ∃ (xa : Option Addr) (xl xc : Nat), v = (.slice xa xl xc) ∧ ∀ g3 : G, Ex g2 g3 →
  R (.slice xa xl xc) g3))
  (∃ Inv : Nat → Option Addr → Nat → Nat → Int → G → Prop, ((∃ m0 : Nat, Inv m0 la ll lc (0 : Int) g1)) ∧
  ∀ (m : Nat) (la_1 : Option Addr) (ll_1 lc_1 : Nat) (i : Int) (g4 : G), Le g1 g4 → Inv m la_1 ll_1 lc_1 i g4 →
  ifB (ltI i ((x3l : Nat) : Int))
  (∀ g5 : G, Ex g4 g5 →
  (0 ≤ i ∧ i < ((x3l : Nat) : Int)) ∧ derefP x3a fun ad => ∃ (x0_1 x1_1 : Int) (x2_1 : ByteArray) (x3a_1 : Option Addr) (x3l_1 x3c_1 : Nat), g5.w.cell? (Addr.add ad (Int.toNat i * 4)) = some (.int .i64 x0_1) ∧ g5.w.cell? (Addr.add (Addr.add ad (Int.toNat i * 4)) 1) = some (.int .i64 x1_1) ∧ g5.w.cell? (Addr.add (Addr.add ad (Int.toNat i * 4)) 2) = some (.string x2_1) ∧ g5.w.cell? (Addr.add (Addr.add ad (Int.toNat i * 4)) 3) = some (.slice x3a_1 x3l_1 x3c_1) ∧ (CallsP Tryz.prog 60 #[(.agg ⟨[(.int .i64 x0), (.int .i64 x1), (.string x2), (.slice x3a x3l x3c)]⟩), (.int .i64 i)] g5 fun v g6 =>
  ∃ x : Int, v = (.int .i64 x) ∧ InI64 (under + x) ∧ (CallsP Tryz.prog 35 #[(.agg ⟨[(.int .i64 x0_1), (.int .i64 x1_1), (.string x2_1), (.slice x3a_1 x3l_1 x3c_1)]⟩), (.int .i64 (under + x)), (.slice la_1 ll_1 lc_1)] g6 fun v g7 =>
  ∃ (la_2 : Option Addr) (ll_2 lc_2 : Nat), v = (.slice la_2 ll_2 lc_2) ∧ InI64 (i + (1 : Int)) ∧ (∃ m_1 : Nat, m_1 < m ∧ Inv m_1 la_2 ll_2 lc_2 (i + (1 : Int)) g7))))
  (∀ g8 : G, Ex g4 g8 →
  R (.slice la_1 ll_1 lc_1) g8))) → J v_1 g1) →
  ifB (eqI x0 (1 : Int))
  (∀ g9 : G, Ex g g9 →
  J (leI under x1) g9)
  (∀ g10 : G, Ex g g10 →
  J false g10)
theorem F35_eq (x0 : Int) (x1 : Int) (x2 : ByteArray) (x3a : Option Addr) (x3l : Nat) (x3c : Nat) (under : Int) (la : Option Addr) (ll : Nat) (lc : Nat) (g : G) (R : Value → G → Prop) : fnG cfg35 43 [.tmp 6] c35 an35 [(.agg ⟨[(.int .i64 x0), (.int .i64 x1), (.string x2), (.slice x3a x3l x3c)]⟩), (.int .i64 under), (.slice la ll lc)] g nobody R = F35 x0 x1 x2 x3a x3l x3c under la ll lc g R := by kernel_rfl
theorem call35 (x0 : Int) (x1 : Int) (x2 : ByteArray) (x3a : Option Addr) (x3l : Nat) (x3c : Nat) (under : Int) (la : Option Addr) (ll : Nat) (lc : Nat) (g : G) (R : Value → G → Prop) (hF : F35 x0 x1 x2 x3a x3l x3c under la ll lc g R) : CallsG Tryz.prog 35 #[(.agg ⟨[(.int .i64 x0), (.int .i64 x1), (.string x2), (.slice x3a x3l x3c)]⟩), (.int .i64 under), (.slice la ll lc)] g nobody R :=
  fn_soundG (c := cfg35) TTok FNSok mixed Tryz.func35 (show Tryz.f35.body = some c35 by kernel_rfl) (show Tryz.f35.ntmps = 43 by kernel_rfl) (show Tryz.f35.results.toList = [.tmp 6] by kernel_rfl) rfl ((F35_eq x0 x1 x2 x3a x3l x3c under la ll lc g R ).mpr hF)
noncomputable def c36 : Code := match Tryz.f36.body with
  | some c => c
  | none => .skip
noncomputable def cfg36 : Cfg := ⟨Tryz.prog, TT, FNS, [1], [(1, 1), (1000015, 116)], [], TCH, false, false, none, PNF, false⟩
def an36 : AnnG := (.seq .leaf (.seq (.seq .leaf (.cond (.seq .leaf .leaf) .leaf)) (.seq .leaf (.seq .leaf (.seq .leaf (.seq (.seq .leaf (.blk (.loop ⟨[(5, .sl)], [], []⟩ (.seq .leaf (.seq (.cond .leaf .leaf) (.blk (.seq .leaf .leaf))))))) (.seq .leaf (.seq .leaf .leaf))))))))
def F36 (x0 : Int) (x1 : Int) (x2 : ByteArray) (x3a : Option Addr) (x3l : Nat) (x3c : Nat) (g : G) (R : Value → G → Prop) : Prop :=
  ∀ g1 : G, Ex g g1 →
  (CallsP Tryz.prog 61 #[(.agg ⟨[(.int .i64 x0), (.int .i64 x1), (.string x2), (.slice x3a x3l x3c)]⟩)] g1 fun v g2 =>
  ∃ x : Bool, v = (.bool x) ∧ ifB (!x)
  (∀ g3 : G, Ex g2 g3 →
  R (.tuple ⟨[(.slice none 0 0), (.int .i64 (1 : Int))]⟩) g3)
  (∀ g4 : G, NewM g2 g4 →
  ∃ M3 : Nat → Prop, (∀ b, b < g.w.heap.size → M3 b → nobody b) ∧ (CallsG Tryz.prog 62 #[(.map (some g2.w.heap.size)), (.agg ⟨[(.int .i64 x0), (.int .i64 x1), (.string x2), (.slice x3a x3l x3c)]⟩), (.int .i64 (0 : Int))] g4 M3 fun v g5 =>
  v = (.tuple ⟨[]⟩) ∧ ∃ (x_1 : Option Addr) (wo1 : World), Sem.run Tryz.prog (Instr.range 116 (.map (some g2.w.heap.size))) g5.w = .ok (.pointer x_1) wo1 ∧ ∃ g6 : G, g6.w = wo1 ∧ Stp g.w.heap.size nobody g5 g6 ∧ ∃ Inv : Nat → Option Addr → Nat → Nat → G → Prop, ((∃ m0 : Nat, Inv m0 none 0 0 g6)) ∧
  ∀ (m : Nat) (outa : Option Addr) (outl outc : Nat) (g7 : G), Le g6 g7 → Inv m outa outl outc g7 →
  (∃ wo2 : World, Sem.run Tryz.prog (Instr.next (.pointer x_1) false 0) g7.w = .ok (.tuple ⟨[(.bool false)]⟩) wo2 ∧ ∃ g8 : G, g8.w = wo2 ∧ Stp g.w.heap.size nobody g7 g8 ∧ ∃ M1 : Nat → Prop, (∀ b, b < g.w.heap.size → M1 b → nobody b) ∧ (CallsG Tryz.prog 63 #[(.slice outa outl outc)] g8 M1 fun v g9 =>
  v = (.tuple ⟨[]⟩) ∧ ∀ g10 : G, Ex g9 g10 →
  R (.tuple ⟨[(.slice outa outl outc), (.int .i64 (0 : Int))]⟩) g10)) ∨
  (∃ (x0_1 : Bool) (x1_1 : Int) (x2_1 : Bool) (wo3 : World), Sem.run Tryz.prog (Instr.next (.pointer x_1) false 0) g7.w = .ok (.tuple ⟨[(.bool x0_1), (.int .i64 x1_1), (.bool x2_1)]⟩) wo3 ∧ ∃ g11 : G, g11.w = wo3 ∧ Stp g.w.heap.size nobody g7 g11 ∧ ifB x0_1
  (∃ (x0_2 : Int) (x1_2 : Bool) (wo4 : World), Sem.run Tryz.prog (Instr.entry (.pointer x_1)) g11.w = .ok (.tuple ⟨[(.int .i64 x0_2), (.bool x1_2)]⟩) wo4 ∧ ∃ g12 : G, g12.w = wo4 ∧ Stp g.w.heap.size nobody g11 g12 ∧ ∀ g13 : G, NewL g12 g13 3 [(.int .i64 x0_2)] →
  ∃ (outa_1 : Option Addr) (outl_1 outc_1 : Nat) (wo5 : World), Sem.run Tryz.prog (Builtin.append_ #[47, 47] 47 #[(.slice outa outl outc), (.slice (some ⟨g12.w.heap.size, 0, none⟩) 1 1)]) g13.w = .ok (.slice outa_1 outl_1 outc_1) wo5 ∧ ∃ g14 : G, g14.w = wo5 ∧ Stp g.w.heap.size nobody g13 g14 ∧ (∃ m_1 : Nat, m_1 < m ∧ Inv m_1 outa_1 outl_1 outc_1 g14))
  (∃ M2 : Nat → Prop, (∀ b, b < g.w.heap.size → M2 b → nobody b) ∧ (CallsG Tryz.prog 63 #[(.slice outa outl outc)] g11 M2 fun v g15 =>
  v = (.tuple ⟨[]⟩) ∧ ∀ g16 : G, Ex g15 g16 →
  R (.tuple ⟨[(.slice outa outl outc), (.int .i64 (0 : Int))]⟩) g16))))))
theorem F36_eq (x0 : Int) (x1 : Int) (x2 : ByteArray) (x3a : Option Addr) (x3l : Nat) (x3c : Nat) (g : G) (R : Value → G → Prop) : fnG cfg36 27 [.tmp 2, .tmp 3] c36 an36 [(.agg ⟨[(.int .i64 x0), (.int .i64 x1), (.string x2), (.slice x3a x3l x3c)]⟩)] g nobody R = F36 x0 x1 x2 x3a x3l x3c g R := by kernel_rfl
theorem call36 (x0 : Int) (x1 : Int) (x2 : ByteArray) (x3a : Option Addr) (x3l : Nat) (x3c : Nat) (g : G) (R : Value → G → Prop) (hF : F36 x0 x1 x2 x3a x3l x3c g R) : CallsG Tryz.prog 36 #[(.agg ⟨[(.int .i64 x0), (.int .i64 x1), (.string x2), (.slice x3a x3l x3c)]⟩)] g nobody R :=
  fn_soundG (c := cfg36) TTok FNSok mixed Tryz.func36 (show Tryz.f36.body = some c36 by kernel_rfl) (show Tryz.f36.ntmps = 27 by kernel_rfl) (show Tryz.f36.results.toList = [.tmp 2, .tmp 3] by kernel_rfl) rfl ((F36_eq x0 x1 x2 x3a x3l x3c g R ).mpr hF)
noncomputable def c37 : Code := match Tryz.f37.body with
  | some c => c
  | none => .skip
noncomputable def cfg37 : Cfg := ⟨Tryz.prog, TT, FNS, [4, 5, 6, 7, 9], [(4, 4), (5, 5), (6, 6), (7, 7), (9, 9), (15, 4), (20, 4), (30, 4), (32, 4), (34, 4), (37, 4), (40, 7), (41, 4), (49, 4), (53, 7), (62, 7), (63, 7), (71, 7)], [], TCH, false, false, none, PNF, false⟩
def an37 : AnnG := (.seq .leaf (.seq (.seq .leaf (.cond (.seq .leaf .leaf) .leaf)) (.join ⟨[], [(6, 6, 0)], [(6, [(.int .i64), (.int .i64), (.str), (.sl)])]⟩ (.seq .leaf (.blk (.seq .leaf (.cond (.seq .leaf .leaf) (.seq (.seq .leaf (.cond .leaf .leaf)) (.cond (.seq .leaf .leaf) .leaf)))))) (.seq .leaf (.join ⟨[], [(7, 7, 0)], [(7, [(.int .i64), (.int .i64), (.str), (.sl)])]⟩ (.seq .leaf (.cond .leaf .leaf)) (.seq (.seq .leaf (.blk (.loop ⟨[(44, .int .i64)], [(7, 7, 0)], [(7, [(.int .i64), (.int .i64), (.str), (.sl)])]⟩ (.seq .leaf (.seq (.cond .leaf .leaf) (.join ⟨[], [(7, 7, 0)], [(7, [(.int .i64), (.int .i64), (.str), (.sl)])]⟩ (.blk (.seq .leaf (.seq .leaf (.cond (.treeP true [7] 8 (.quiet 0 (.quiet 2 (.quiet 3 (.quiet 4 (.eff 1 (.eff 5 (.eff 6 (.eff 7 .fin .fin) .fin) .fin) (.eff 5 (.eff 1 (.eff 6 (.eff 7 .fin .fin) .fin) (.eff 6 (.eff 1 (.eff 7 .fin .fin) (.eff 7 (.eff 1 .fin .fin) .fin)) .fin)) .fin))))))) (.treeP true [7] 7 (.quiet 0 (.quiet 2 (.quiet 3 (.quiet 4 (.eff 1 (.eff 5 (.eff 6 .fin .fin) .fin) (.eff 5 (.eff 1 (.eff 6 .fin .fin) (.eff 6 (.eff 1 .fin .fin) .fin)) .fin))))))))))) .leaf)))))) (.seq .leaf .leaf)))))))
def F37 (c : Option Addr) (x0 : Int) (x1 : Int) (x2 : ByteArray) (x3a : Option Addr) (x3l : Nat) (x3c : Nat) (s0a : Option Addr) (s0l : Nat) (s0c : Nat) (s1 : Int) (g : G) (M : Nat → Prop) (R : Value → G → Prop) : Prop :=
  derefP c fun ad => ∀ g1 : G, Ex g g1 →
  ∃ x : Bool, g1.w.cell? (Addr.add ad 1) = some (.bool x) ∧ ifB x
  (∀ g2 : G, Ex g1 g2 →
  R (.agg ⟨[(.int .i64 (0 : Int)), (.int .i64 (0 : Int)), (.string (bs [])), (.slice none 0 0)]⟩) g2)
  (∀ J : Int → Int → ByteArray → Option Addr → Nat → Nat → G → Prop,
  (∀ (x0_1 x1_1 : Int) (x2_1 : ByteArray) (x3a_1 : Option Addr) (x3l_1 x3c_1 : Nat) (g3 : G), (∀ J_1 : Int → Int → ByteArray → Option Addr → Nat → Nat → G → Prop,
  (∀ (out0 out1 : Int) (out2 : ByteArray) (out3a : Option Addr) (out3l out3c : Nat) (g4 : G), (∃ Inv : Nat → Int → Int → Int → ByteArray → Option Addr → Nat → Nat → G → Prop, ((∃ m0 : Nat, Inv m0 (0 : Int) out0 out1 out2 out3a out3l out3c g4)) ∧
  ∀ (m : Nat) (v_1 out0_1 out1_1 : Int) (out2_1 : ByteArray) (out3a_1 : Option Addr) (out3l_1 out3c_1 : Nat) (g5 : G), Le g4 g5 → Inv m v_1 out0_1 out1_1 out2_1 out3a_1 out3l_1 out3c_1 g5 →
  ifB (ltI v_1 ((x3l : Nat) : Int))
  (∀ J_2 : Int → Int → ByteArray → Option Addr → Nat → Nat → G → Prop,
  (∀ (out0_2 out1_2 : Int) (out2_2 : ByteArray) (out3a_2 : Option Addr) (out3l_2 out3c_2 : Nat) (g6 : G), (InI64 (v_1 + (1 : Int)) ∧ (∃ m_1 : Nat, m_1 < m ∧ Inv m_1 (v_1 + (1 : Int)) out0_2 out1_2 out2_2 out3a_2 out3l_2 out3c_2 g6)) → J_2 out0_2 out1_2 out2_2 out3a_2 out3l_2 out3c_2 g6) →
  (0 ≤ v_1 ∧ v_1 < ((x3l : Nat) : Int)) ∧ derefP x3a fun ad_1 => ∃ (x0_2 x1_2 : Int) (x2_2 : ByteArray) (x3a_2 : Option Addr) (x3l_2 x3c_2 : Nat), g5.w.cell? (Addr.add ad_1 (Int.toNat v_1 * 4)) = some (.int .i64 x0_2) ∧ g5.w.cell? (Addr.add (Addr.add ad_1 (Int.toNat v_1 * 4)) 1) = some (.int .i64 x1_2) ∧ g5.w.cell? (Addr.add (Addr.add ad_1 (Int.toNat v_1 * 4)) 2) = some (.string x2_2) ∧ g5.w.cell? (Addr.add (Addr.add ad_1 (Int.toNat v_1 * 4)) 3) = some (.slice x3a_2 x3l_2 x3c_2) ∧ ∀ g7 : G, Ex g5 g7 →
  (CallsP Tryz.prog 66 #[(.int .i64 x0), (.int .i64 v_1)] g7 fun v g8 =>
  ∃ x_1 : Bool, v = (.bool x_1) ∧ ifB x_1
  (∀ g9 : G, Ex g8 g9 →
  ∃ MR1 : Nat → Prop, (∀ b, MR1 b → ¬ g9.X b) ∧ (∀ g10 : G, Ex g9 g10 →
  (CallsP Tryz.prog 67 #[(.agg ⟨[(.slice s0a s0l s0c), (.int .i64 s1)]⟩)] g10 fun v g11 =>
  ∃ (x0a : Option Addr) (x0l x0c : Nat) (x1_3 : Int), v = (.agg ⟨[(.slice x0a x0l x0c), (.int .i64 x1_3)]⟩) ∧ ∀ g12 : G, Ex g11 g12 →
  ∃ M2 : Nat → Prop, (∀ b, b < g.w.heap.size → M2 b → M b) ∧ (CallsG Tryz.prog 37 #[(.pointer c), (.agg ⟨[(.int .i64 x0_2), (.int .i64 x1_2), (.string x2_2), (.slice x3a_2 x3l_2 x3c_2)]⟩), (.agg ⟨[(.slice x0a x0l x0c), (.int .i64 x1_3)]⟩)] g12 M2 fun v g13 =>
  ∃ (x0_3 x1_4 : Int) (x2_3 : ByteArray) (x3a_3 : Option Addr) (x3l_3 x3c_3 : Nat), v = (.agg ⟨[(.int .i64 x0_3), (.int .i64 x1_4), (.string x2_3), (.slice x3a_3 x3l_3 x3c_3)]⟩) ∧ SameBut MR1 g9 g13 ∧ ∀ g14 : G, Ex g13 g14 →
  ∀ g15 : G, NewL g14 g15 44 [(.int .i64 x0_3), (.int .i64 x1_4), (.string x2_3), (.slice x3a_3 x3l_3 x3c_3)] →
  ∃ (xa : Option Addr) (xl xc : Nat) (wo1 : World), Sem.run Tryz.prog (Builtin.append_ #[42, 42] 42 #[(.slice out3a_1 out3l_1 out3c_1), (.slice (some ⟨g14.w.heap.size, 0, none⟩) 1 1)]) g15.w = .ok (.slice xa xl xc) wo1 ∧ ∃ g16 : G, g16.w = wo1 ∧ Stp g.w.heap.size M g15 g16 ∧ ∀ g17 : G, Ex g16 g17 →
  J_2 out0_1 out1_1 out2_1 xa xl xc g17))) ∧ (∀ g18 : G, Ex g9 g18 →
  (CallsP Tryz.prog 67 #[(.agg ⟨[(.slice s0a s0l s0c), (.int .i64 s1)]⟩)] g18 fun v g19 =>
  ∃ (x0a_1 : Option Addr) (x0l_1 x0c_1 : Nat) (x1_5 : Int), v = (.agg ⟨[(.slice x0a_1 x0l_1 x0c_1), (.int .i64 x1_5)]⟩) ∧ (∀ g20 : G, Ex g19 g20 →
  ∃ M3 : Nat → Prop, (∀ b, b < g.w.heap.size → M3 b → M b) ∧ (CallsG Tryz.prog 37 #[(.pointer c), (.agg ⟨[(.int .i64 x0_2), (.int .i64 x1_2), (.string x2_2), (.slice x3a_2 x3l_2 x3c_2)]⟩), (.agg ⟨[(.slice x0a_1 x0l_1 x0c_1), (.int .i64 x1_5)]⟩)] g20 M3 fun v g21 =>
  ∃ (x0_4 x1_6 : Int) (x2_4 : ByteArray) (x3a_4 : Option Addr) (x3l_4 x3c_4 : Nat), v = (.agg ⟨[(.int .i64 x0_4), (.int .i64 x1_6), (.string x2_4), (.slice x3a_4 x3l_4 x3c_4)]⟩) ∧ SameBut MR1 g9 g21 ∧ ∀ g22 : G, Ex g21 g22 →
  ∀ g23 : G, NewL g22 g23 44 [(.int .i64 x0_4), (.int .i64 x1_6), (.string x2_4), (.slice x3a_4 x3l_4 x3c_4)] →
  ∃ (xa_1 : Option Addr) (xl_1 xc_1 : Nat) (wo2 : World), Sem.run Tryz.prog (Builtin.append_ #[42, 42] 42 #[(.slice out3a_1 out3l_1 out3c_1), (.slice (some ⟨g22.w.heap.size, 0, none⟩) 1 1)]) g23.w = .ok (.slice xa_1 xl_1 xc_1) wo2 ∧ ∃ g24 : G, g24.w = wo2 ∧ Stp g.w.heap.size M g23 g24 ∧ ∀ g25 : G, Ex g24 g25 →
  J_2 out0_1 out1_1 out2_1 xa_1 xl_1 xc_1 g25)) ∧ (∀ g26 : G, Ex g19 g26 →
  ∃ M4 : Nat → Prop, (∀ b, b < g.w.heap.size → M4 b → M b) ∧ (CallsG Tryz.prog 37 #[(.pointer c), (.agg ⟨[(.int .i64 x0_2), (.int .i64 x1_2), (.string x2_2), (.slice x3a_2 x3l_2 x3c_2)]⟩), (.agg ⟨[(.slice x0a_1 x0l_1 x0c_1), (.int .i64 x1_5)]⟩)] g26 M4 fun v g27 =>
  ∃ (x0_5 x1_7 : Int) (x2_5 : ByteArray) (x3a_5 : Option Addr) (x3l_5 x3c_5 : Nat), v = (.agg ⟨[(.int .i64 x0_5), (.int .i64 x1_7), (.string x2_5), (.slice x3a_5 x3l_5 x3c_5)]⟩) ∧ SameBut MR1 g9 g27 ∧ Rep 1 (∀ g28 : G, Ex g27 g28 →
  ∀ g29 : G, NewL g28 g29 44 [(.int .i64 x0_5), (.int .i64 x1_7), (.string x2_5), (.slice x3a_5 x3l_5 x3c_5)] →
  ∃ (xa_2 : Option Addr) (xl_2 xc_2 : Nat) (wo3 : World), Sem.run Tryz.prog (Builtin.append_ #[42, 42] 42 #[(.slice out3a_1 out3l_1 out3c_1), (.slice (some ⟨g28.w.heap.size, 0, none⟩) 1 1)]) g29.w = .ok (.slice xa_2 xl_2 xc_2) wo3 ∧ ∃ g30 : G, g30.w = wo3 ∧ Stp g.w.heap.size M g29 g30 ∧ ∀ g31 : G, Ex g30 g31 →
  J_2 out0_1 out1_1 out2_1 xa_2 xl_2 xc_2 g31))))))
  (∀ g36 : G, Ex g8 g36 →
  ∃ MR5 : Nat → Prop, (∀ b, MR5 b → ¬ g36.X b) ∧ (∀ g37 : G, Ex g36 g37 →
  ∃ M6 : Nat → Prop, (∀ b, b < g.w.heap.size → M6 b → M b) ∧ (CallsG Tryz.prog 37 #[(.pointer c), (.agg ⟨[(.int .i64 x0_2), (.int .i64 x1_2), (.string x2_2), (.slice x3a_2 x3l_2 x3c_2)]⟩), (.agg ⟨[(.slice s0a s0l s0c), (.int .i64 s1)]⟩)] g37 M6 fun v g38 =>
  ∃ (x0_6 x1_8 : Int) (x2_6 : ByteArray) (x3a_6 : Option Addr) (x3l_6 x3c_6 : Nat), v = (.agg ⟨[(.int .i64 x0_6), (.int .i64 x1_8), (.string x2_6), (.slice x3a_6 x3l_6 x3c_6)]⟩) ∧ SameBut MR5 g36 g38 ∧ ∀ g39 : G, Ex g38 g39 →
  ∀ g40 : G, NewL g39 g40 44 [(.int .i64 x0_6), (.int .i64 x1_8), (.string x2_6), (.slice x3a_6 x3l_6 x3c_6)] →
  ∃ (xa_4 : Option Addr) (xl_4 xc_4 : Nat) (wo5 : World), Sem.run Tryz.prog (Builtin.append_ #[42, 42] 42 #[(.slice out3a_1 out3l_1 out3c_1), (.slice (some ⟨g39.w.heap.size, 0, none⟩) 1 1)]) g40.w = .ok (.slice xa_4 xl_4 xc_4) wo5 ∧ ∃ g41 : G, g41.w = wo5 ∧ Stp g.w.heap.size M g40 g41 ∧ ∀ g42 : G, Ex g41 g42 →
  J_2 out0_1 out1_1 out2_1 xa_4 xl_4 xc_4 g42)) ∧ (∀ g43 : G, Ex g36 g43 →
  ∃ M7 : Nat → Prop, (∀ b, b < g.w.heap.size → M7 b → M b) ∧ (CallsG Tryz.prog 37 #[(.pointer c), (.agg ⟨[(.int .i64 x0_2), (.int .i64 x1_2), (.string x2_2), (.slice x3a_2 x3l_2 x3c_2)]⟩), (.agg ⟨[(.slice s0a s0l s0c), (.int .i64 s1)]⟩)] g43 M7 fun v g44 =>
  ∃ (x0_7 x1_9 : Int) (x2_7 : ByteArray) (x3a_7 : Option Addr) (x3l_7 x3c_7 : Nat), v = (.agg ⟨[(.int .i64 x0_7), (.int .i64 x1_9), (.string x2_7), (.slice x3a_7 x3l_7 x3c_7)]⟩) ∧ SameBut MR5 g36 g44 ∧ Rep 1 (∀ g45 : G, Ex g44 g45 →
  ∀ g46 : G, NewL g45 g46 44 [(.int .i64 x0_7), (.int .i64 x1_9), (.string x2_7), (.slice x3a_7 x3l_7 x3c_7)] →
  ∃ (xa_5 : Option Addr) (xl_5 xc_5 : Nat) (wo6 : World), Sem.run Tryz.prog (Builtin.append_ #[42, 42] 42 #[(.slice out3a_1 out3l_1 out3c_1), (.slice (some ⟨g45.w.heap.size, 0, none⟩) 1 1)]) g46.w = .ok (.slice xa_5 xl_5 xc_5) wo6 ∧ ∃ g47 : G, g47.w = wo6 ∧ Stp g.w.heap.size M g46 g47 ∧ ∀ g48 : G, Ex g47 g48 →
  J_2 out0_1 out1_1 out2_1 xa_5 xl_5 xc_5 g48))))))
  (∀ g53 : G, Ex g5 g53 →
  R (.agg ⟨[(.int .i64 out0_1), (.int .i64 out1_1), (.string out2_1), (.slice out3a_1 out3l_1 out3c_1)]⟩) g53)) → J_1 out0 out1 out2 out3a out3l out3c g4) →
  ifB (eqI x0 (5 : Int))
  (∀ g54 : G, Ex g3 g54 →
  J_1 (25 : Int) x1 x2 none 0 0 g54)
  (∀ g55 : G, Ex g3 g55 →
  J_1 x0 x1 x2 none 0 0 g55)) → J x0_1 x1_1 x2_1 x3a_1 x3l_1 x3c_1 g3) →
  ifB (eqI x0 (1 : Int))
  ((CallsP Tryz.prog 64 #[(.agg ⟨[(.slice s0a s0l s0c), (.int .i64 s1)]⟩), (.int .i64 x1)] g1 fun v g56 =>
  ∃ (x0_8 x1_10 : Int) (x2_8 : ByteArray) (x3a_8 : Option Addr) (x3l_8 x3c_8 : Nat), v = (.agg ⟨[(.int .i64 x0_8), (.int .i64 x1_10), (.string x2_8), (.slice x3a_8 x3l_8 x3c_8)]⟩) ∧ ∀ g57 : G, Ex g56 g57 →
  R (.agg ⟨[(.int .i64 x0_8), (.int .i64 x1_10), (.string x2_8), (.slice x3a_8 x3l_8 x3c_8)]⟩) g57))
  (ifB (eqI x0 (4 : Int))
  (∃ M8 : Nat → Prop, (∀ b, b < g.w.heap.size → M8 b → M b) ∧ (CallsG Tryz.prog 65 #[(.pointer c), (.agg ⟨[(.int .i64 x0), (.int .i64 x1), (.string x2), (.slice x3a x3l x3c)]⟩), (.agg ⟨[(.slice s0a s0l s0c), (.int .i64 s1)]⟩)] g1 M8 fun v g58 =>
  ∃ (x0_9 x1_11 : Int) (x2_9 : ByteArray) (x3a_9 : Option Addr) (x3l_9 x3c_9 : Nat), v = (.agg ⟨[(.int .i64 x0_9), (.int .i64 x1_11), (.string x2_9), (.slice x3a_9 x3l_9 x3c_9)]⟩) ∧ ∀ g59 : G, Ex g58 g59 →
  R (.agg ⟨[(.int .i64 x0_9), (.int .i64 x1_11), (.string x2_9), (.slice x3a_9 x3l_9 x3c_9)]⟩) g59))
  (ifB (eqI x0 (10 : Int))
  (∃ M9 : Nat → Prop, (∀ b, b < g.w.heap.size → M9 b → M b) ∧ (CallsG Tryz.prog 65 #[(.pointer c), (.agg ⟨[(.int .i64 x0), (.int .i64 x1), (.string x2), (.slice x3a x3l x3c)]⟩), (.agg ⟨[(.slice s0a s0l s0c), (.int .i64 s1)]⟩)] g1 M9 fun v g60 =>
  ∃ (x0_10 x1_12 : Int) (x2_10 : ByteArray) (x3a_10 : Option Addr) (x3l_10 x3c_10 : Nat), v = (.agg ⟨[(.int .i64 x0_10), (.int .i64 x1_12), (.string x2_10), (.slice x3a_10 x3l_10 x3c_10)]⟩) ∧ ∀ g61 : G, Ex g60 g61 →
  R (.agg ⟨[(.int .i64 x0_10), (.int .i64 x1_12), (.string x2_10), (.slice x3a_10 x3l_10 x3c_10)]⟩) g61))
  (J (0 : Int) (0 : Int) (bs []) none 0 0 g1))))
theorem F37_eq (c : Option Addr) (x0 : Int) (x1 : Int) (x2 : ByteArray) (x3a : Option Addr) (x3l : Nat) (x3c : Nat) (s0a : Option Addr) (s0l : Nat) (s0c : Nat) (s1 : Int) (g : G) (M : Nat → Prop) (R : Value → G → Prop) : fnG cfg37 74 [.cell 6 44] c37 an37 [(.pointer c), (.agg ⟨[(.int .i64 x0), (.int .i64 x1), (.string x2), (.slice x3a x3l x3c)]⟩), (.agg ⟨[(.slice s0a s0l s0c), (.int .i64 s1)]⟩)] g M R = F37 c x0 x1 x2 x3a x3l x3c s0a s0l s0c s1 g M R := by kernel_rfl
theorem call37 (c : Option Addr) (x0 : Int) (x1 : Int) (x2 : ByteArray) (x3a : Option Addr) (x3l : Nat) (x3c : Nat) (s0a : Option Addr) (s0l : Nat) (s0c : Nat) (s1 : Int) (g : G) (M : Nat → Prop) (R : Value → G → Prop) (hF : F37 c x0 x1 x2 x3a x3l x3c s0a s0l s0c s1 g M R) : CallsG Tryz.prog 37 #[(.pointer c), (.agg ⟨[(.int .i64 x0), (.int .i64 x1), (.string x2), (.slice x3a x3l x3c)]⟩), (.agg ⟨[(.slice s0a s0l s0c), (.int .i64 s1)]⟩)] g M R :=
  fn_soundG (c := cfg37) TTok FNSok mixed Tryz.func37 (show Tryz.f37.body = some c37 by kernel_rfl) (show Tryz.f37.ntmps = 74 by kernel_rfl) (show Tryz.f37.results.toList = [.cell 6 44] by kernel_rfl) rfl ((F37_eq c x0 x1 x2 x3a x3l x3c s0a s0l s0c s1 g M R ).mpr hF)
noncomputable def c38 : Code := match Tryz.f38.body with
  | some c => c
  | none => .skip
noncomputable def cfg38 : Cfg := ⟨Tryz.prog, TT, FNS, [], [], [], TCH, false, false, none, PNF, false⟩
def an38 : AnnG := (.seq .leaf (.seq .leaf .leaf))
def F38 (sa : Option Addr) (sl : Nat) (sc : Nat) (ff : FuncId) (fc : Array Value) (g : G) (R : Value → G → Prop) : Prop :=
  (CallsP Tryz.prog 68 #[(.slice sa sl sc), (.func (.func ff) #[] fc)] g fun v g1 =>
  ∃ x : Int, v = (.int .i64 x) ∧ ∀ g2 : G, Ex g1 g2 →
  R (.bool (leI (0 : Int) x)) g2)
theorem F38_eq (sa : Option Addr) (sl : Nat) (sc : Nat) (ff : FuncId) (fc : Array Value) (g : G) (R : Value → G → Prop) : fnG cfg38 9 [.tmp 4] c38 an38 [(.slice sa sl sc), (.func (.func ff) #[] fc)] g nobody R = F38 sa sl sc ff fc g R := by kernel_rfl
theorem call38 (sa : Option Addr) (sl : Nat) (sc : Nat) (ff : FuncId) (fc : Array Value) (g : G) (R : Value → G → Prop) (hF : F38 sa sl sc ff fc g R) : CallsG Tryz.prog 38 #[(.slice sa sl sc), (.func (.func ff) #[] fc)] g nobody R :=
  fn_soundG (c := cfg38) TTok FNSok mixed Tryz.func38 (show Tryz.f38.body = some c38 by kernel_rfl) (show Tryz.f38.ntmps = 9 by kernel_rfl) (show Tryz.f38.results.toList = [.tmp 4] by kernel_rfl) rfl ((F38_eq sa sl sc ff fc g R ).mpr hF)
noncomputable def c39 : Code := match Tryz.f39.body with
  | some c => c
  | none => .skip
noncomputable def cfg39 : Cfg := ⟨Tryz.prog, TT, FNS, [1], [(1, 1), (3, 1)], [], TCH, false, false, none, PNF, false⟩
def an39 : AnnG := (.seq .leaf (.seq .leaf .leaf))
def F39 (f0 : Int) (f1 : Int) (f2 : Int) (f3 : ByteArray) (f4a : Option Addr) (f4l : Nat) (f4c : Nat) (g : G) (R : Value → G → Prop) : Prop :=
  ∀ g1 : G, Ex g g1 →
  (CallsP Tryz.prog 40 #[(.agg ⟨[(.int .i64 f1), (.int .i64 f2), (.string f3), (.slice f4a f4l f4c)]⟩)] g1 fun v g2 =>
  ∃ x : Bool, v = (.bool x) ∧ ∀ g3 : G, Ex g2 g3 →
  R (.bool x) g3)
theorem F39_eq (f0 : Int) (f1 : Int) (f2 : Int) (f3 : ByteArray) (f4a : Option Addr) (f4l : Nat) (f4c : Nat) (g : G) (R : Value → G → Prop) : fnG cfg39 6 [.tmp 2] c39 an39 [(.agg ⟨[(.int .i64 f0), (.int .i64 f1), (.int .i64 f2), (.string f3), (.slice f4a f4l f4c)]⟩)] g nobody R = F39 f0 f1 f2 f3 f4a f4l f4c g R := by kernel_rfl
theorem call39 (f0 : Int) (f1 : Int) (f2 : Int) (f3 : ByteArray) (f4a : Option Addr) (f4l : Nat) (f4c : Nat) (g : G) (R : Value → G → Prop) (hF : F39 f0 f1 f2 f3 f4a f4l f4c g R) : CallsG Tryz.prog 39 #[(.agg ⟨[(.int .i64 f0), (.int .i64 f1), (.int .i64 f2), (.string f3), (.slice f4a f4l f4c)]⟩)] g nobody R :=
  fn_soundG (c := cfg39) TTok FNSok mixed Tryz.func39 (show Tryz.f39.body = some c39 by kernel_rfl) (show Tryz.f39.ntmps = 6 by kernel_rfl) (show Tryz.f39.results.toList = [.tmp 2] by kernel_rfl) rfl ((F39_eq f0 f1 f2 f3 f4a f4l f4c g R ).mpr hF)
noncomputable def c40 : Code := match Tryz.f40.body with
  | some c => c
  | none => .skip
noncomputable def cfg40 : Cfg := ⟨Tryz.prog, TT, FNS, [1], [(1, 1)], [], TCH, false, false, none, PNF, false⟩
def an40 : AnnG := (.seq .leaf (.seq .leaf (.seq .leaf .leaf)))
def F40 (x0 : Int) (x1 : Int) (x2 : ByteArray) (x3a : Option Addr) (x3l : Nat) (x3c : Nat) (g : G) (R : Value → G → Prop) : Prop :=
  ∀ g1 : G, Ex g g1 →
  (CallsP Tryz.prog 69 #[(.agg ⟨[(.int .i64 x0), (.int .i64 x1), (.string x2), (.slice x3a x3l x3c)]⟩)] g1 fun v g2 =>
  ∃ x0_1 x1_1 : Int, v = (.tuple ⟨[(.int .i64 x0_1), (.int .i64 x1_1)]⟩) ∧ ifB (ltI (20000 : Int) x0_1)
  (∀ g3 : G, Ex g2 g3 →
  R (.bool true) g3)
  (∀ g4 : G, Ex g2 g4 →
  R (.bool (ltI (400 : Int) x1_1)) g4))
theorem F40_eq (x0 : Int) (x1 : Int) (x2 : ByteArray) (x3a : Option Addr) (x3l : Nat) (x3c : Nat) (g : G) (R : Value → G → Prop) : fnG cfg40 16 [.tmp 2] c40 an40 [(.agg ⟨[(.int .i64 x0), (.int .i64 x1), (.string x2), (.slice x3a x3l x3c)]⟩)] g nobody R = F40 x0 x1 x2 x3a x3l x3c g R := by kernel_rfl
theorem call40 (x0 : Int) (x1 : Int) (x2 : ByteArray) (x3a : Option Addr) (x3l : Nat) (x3c : Nat) (g : G) (R : Value → G → Prop) (hF : F40 x0 x1 x2 x3a x3l x3c g R) : CallsG Tryz.prog 40 #[(.agg ⟨[(.int .i64 x0), (.int .i64 x1), (.string x2), (.slice x3a x3l x3c)]⟩)] g nobody R :=
  fn_soundG (c := cfg40) TTok FNSok mixed Tryz.func40 (show Tryz.f40.body = some c40 by kernel_rfl) (show Tryz.f40.ntmps = 16 by kernel_rfl) (show Tryz.f40.results.toList = [.tmp 2] by kernel_rfl) rfl ((F40_eq x0 x1 x2 x3a x3l x3c g R ).mpr hF)
noncomputable def c41 : Code := match Tryz.f41.body with
  | some c => c
  | none => .skip
noncomputable def cfg41 : Cfg := ⟨Tryz.prog, TT, FNS, [], [], [], TCH, false, false, none, PNF, false⟩
def an41 : AnnG := (.seq .leaf (.seq .leaf .leaf))
def F41 (n : Int) (low : Int) (high : Int) (g : G) (R : Value → G → Prop) : Prop :=
  ifB (leI low n)
  (∀ g1 : G, Ex g g1 →
  R (.bool (leI n high)) g1)
  (∀ g2 : G, Ex g g2 →
  R (.bool false) g2)
theorem F41_eq (n : Int) (low : Int) (high : Int) (g : G) (R : Value → G → Prop) : fnG cfg41 15 [.tmp 6] c41 an41 [(.int .i64 n), (.int .i64 low), (.int .i64 high)] g nobody R = F41 n low high g R := by kernel_rfl
theorem call41 (n : Int) (low : Int) (high : Int) (g : G) (R : Value → G → Prop) (hF : F41 n low high g R) : CallsG Tryz.prog 41 #[(.int .i64 n), (.int .i64 low), (.int .i64 high)] g nobody R :=
  fn_soundG (c := cfg41) TTok FNSok mixed Tryz.func41 (show Tryz.f41.body = some c41 by kernel_rfl) (show Tryz.f41.ntmps = 15 by kernel_rfl) (show Tryz.f41.results.toList = [.tmp 6] by kernel_rfl) rfl ((F41_eq n low high g R ).mpr hF)
noncomputable def c42 : Code := match Tryz.f42.body with
  | some c => c
  | none => .skip
noncomputable def cfg42 : Cfg := ⟨Tryz.prog, TT, FNS, [2], [(2, 2)], [], TCH, false, false, none, PNF, false⟩
def an42 : AnnG := (.seq .leaf (.seq .leaf .leaf))
def F42 (f0 : Int) (f1 : Int) (f2 : Int) (f3 : ByteArray) (f4a : Option Addr) (f4l : Nat) (f4c : Nat) (c0 : Value) (g : G) (R : Value → G → Prop) : Prop :=
  ∀ g1 : G, Ex g g1 →
  (CallsP Tryz.prog 43 #[(.agg ⟨[(.int .i64 f0), (.int .i64 f1), (.int .i64 f2), (.string f3), (.slice f4a f4l f4c)]⟩), (.func (.func 44) #[] ⟨[c0]⟩)] g1 fun v g2 =>
  ∃ x : Bool, v = (.bool x) ∧ ∀ g3 : G, Ex g2 g3 →
  R (.bool (!x)) g3)
theorem F42_eq (f0 : Int) (f1 : Int) (f2 : Int) (f3 : ByteArray) (f4a : Option Addr) (f4l : Nat) (f4c : Nat) (c0 : Value) (g : G) (R : Value → G → Prop) : fnG cfg42 8 [.tmp 3] c42 an42 [(.agg ⟨[(.int .i64 f0), (.int .i64 f1), (.int .i64 f2), (.string f3), (.slice f4a f4l f4c)]⟩), c0] g nobody R = F42 f0 f1 f2 f3 f4a f4l f4c c0 g R := by kernel_rfl
theorem call42 (f0 : Int) (f1 : Int) (f2 : Int) (f3 : ByteArray) (f4a : Option Addr) (f4l : Nat) (f4c : Nat) (c0 : Value) (g : G) (R : Value → G → Prop) (hF : F42 f0 f1 f2 f3 f4a f4l f4c c0 g R) : CallsG Tryz.prog 42 #[(.agg ⟨[(.int .i64 f0), (.int .i64 f1), (.int .i64 f2), (.string f3), (.slice f4a f4l f4c)]⟩), c0] g nobody R :=
  fn_soundG (c := cfg42) TTok FNSok mixed Tryz.func42 (show Tryz.f42.body = some c42 by kernel_rfl) (show Tryz.f42.ntmps = 8 by kernel_rfl) (show Tryz.f42.results.toList = [.tmp 3] by kernel_rfl) rfl ((F42_eq f0 f1 f2 f3 f4a f4l f4c c0 g R ).mpr hF)
noncomputable def c43 : Code := match Tryz.f43.body with
  | some c => c
  | none => .skip
noncomputable def cfg43 : Cfg := ⟨Tryz.prog, TT, FNS, [2], [(2, 2), (6, 2), (11, 2), (15, 2), (22, 2)], [], TCH, false, false, none, PNF, false⟩
def an43 : AnnG := (.seq .leaf (.seq .leaf (.seq .leaf .leaf)))
def F43 (f0 : Int) (f1 : Int) (f2 : Int) (f3 : ByteArray) (f4a : Option Addr) (f4l : Nat) (f4c : Nat) (closuresf : FuncId) (closuresc : Array Value) (g : G) (R : Value → G → Prop) : Prop :=
  ∀ g1 : G, Ex g g1 →
  ∀ g2 : G, NewD g1 g2 126 ([(.int .i64 f0), (.func (.func closuresf) #[] closuresc)] : List Value) →
  (CallsP Tryz.prog 41 #[(.int .i64 f0), (.int .i64 (0 : Int)), (.int .i64 (1000 : Int))] g2 fun v g3 =>
  ∃ x : Bool, v = (.bool x) ∧ ifB x
  ((CallsP Tryz.prog 40 #[(.agg ⟨[(.int .i64 f1), (.int .i64 f2), (.string f3), (.slice f4a f4l f4c)]⟩)] g3 fun v g4 =>
  ∃ x_1 : Bool, v = (.bool x_1) ∧ ifB (!x_1)
  ((CallsP Tryz.prog 70 #[(.pointer (some ⟨g1.w.heap.size, 0, none⟩)), (.agg ⟨[(.int .i64 f1), (.int .i64 f2), (.string f3), (.slice f4a f4l f4c)]⟩), (.int .i64 (1 : Int))] g4 fun v g5 =>
  ∃ x_2 : Bool, v = (.bool x_2) ∧ ∀ g6 : G, Ex g5 g6 →
  R (.bool x_2) g6))
  (∀ g7 : G, Ex g4 g7 →
  R (.bool false) g7)))
  (∀ g8 : G, Ex g3 g8 →
  R (.bool false) g8))
theorem F43_eq (f0 : Int) (f1 : Int) (f2 : Int) (f3 : ByteArray) (f4a : Option Addr) (f4l : Nat) (f4c : Nat) (closuresf : FuncId) (closuresc : Array Value) (g : G) (R : Value → G → Prop) : fnG cfg43 26 [.tmp 4] c43 an43 [(.agg ⟨[(.int .i64 f0), (.int .i64 f1), (.int .i64 f2), (.string f3), (.slice f4a f4l f4c)]⟩), (.func (.func closuresf) #[] closuresc)] g nobody R = F43 f0 f1 f2 f3 f4a f4l f4c closuresf closuresc g R := by kernel_rfl
theorem call43 (f0 : Int) (f1 : Int) (f2 : Int) (f3 : ByteArray) (f4a : Option Addr) (f4l : Nat) (f4c : Nat) (closuresf : FuncId) (closuresc : Array Value) (g : G) (R : Value → G → Prop) (hF : F43 f0 f1 f2 f3 f4a f4l f4c closuresf closuresc g R) : CallsG Tryz.prog 43 #[(.agg ⟨[(.int .i64 f0), (.int .i64 f1), (.int .i64 f2), (.string f3), (.slice f4a f4l f4c)]⟩), (.func (.func closuresf) #[] closuresc)] g nobody R :=
  fn_soundG (c := cfg43) TTok FNSok mixed Tryz.func43 (show Tryz.f43.body = some c43 by kernel_rfl) (show Tryz.f43.ntmps = 26 by kernel_rfl) (show Tryz.f43.results.toList = [.tmp 4] by kernel_rfl) rfl ((F43_eq f0 f1 f2 f3 f4a f4l f4c closuresf closuresc g R ).mpr hF)
noncomputable def c44 : Code := match Tryz.f44.body with
  | some c => c
  | none => .skip
noncomputable def cfg44 : Cfg := ⟨Tryz.prog, TT, FNS, [], [], [], TCH, false, false, none, PNF, false⟩
def an44 : AnnG := (.seq .leaf (.seq .leaf .leaf))
def F44 (n : Int) (parts : Int) (c0 : Option Addr) (g : G) (R : Value → G → Prop) : Prop :=
  derefP c0 fun ad => ∃ (xa : Option Addr) (xl xc : Nat), g.w.cell? ad = some (.slice xa xl xc) ∧ InI64 (((xl : Nat) : Int) - (1 : Int)) ∧ (CallsP Tryz.prog 41 #[(.int .i64 n), (.int .i64 (0 : Int)), (.int .i64 (((xl : Nat) : Int) - (1 : Int)))] g fun v g1 =>
  ∃ x : Bool, v = (.bool x) ∧ ifB x
  (derefP c0 fun ad_1 => ∃ (xa_1 : Option Addr) (xl_1 xc_1 : Nat), g1.w.cell? ad_1 = some (.slice xa_1 xl_1 xc_1) ∧ (0 ≤ n ∧ n < ((xl_1 : Nat) : Int)) ∧ derefP xa_1 fun ad_2 => ∃ x_1 : Int, g1.w.cell? (Addr.add ad_2 (Int.toNat n * 5)) = some (.int .i64 x_1) ∧ ∀ g2 : G, Ex g1 g2 →
  R (.bool (eqI x_1 parts)) g2)
  (∀ g3 : G, Ex g1 g3 →
  R (.bool false) g3))
theorem F44_eq (n : Int) (parts : Int) (c0 : Option Addr) (g : G) (R : Value → G → Prop) : fnG cfg44 20 [.tmp 5] c44 an44 [(.int .i64 n), (.int .i64 parts), (.pointer c0)] g nobody R = F44 n parts c0 g R := by kernel_rfl
theorem call44 (n : Int) (parts : Int) (c0 : Option Addr) (g : G) (R : Value → G → Prop) (hF : F44 n parts c0 g R) : CallsG Tryz.prog 44 #[(.int .i64 n), (.int .i64 parts), (.pointer c0)] g nobody R :=
  fn_soundG (c := cfg44) TTok FNSok mixed Tryz.func44 (show Tryz.f44.body = some c44 by kernel_rfl) (show Tryz.f44.ntmps = 20 by kernel_rfl) (show Tryz.f44.results.toList = [.tmp 5] by kernel_rfl) rfl ((F44_eq n parts c0 g R ).mpr hF)
noncomputable def c45 : Code := match Tryz.f45.body with
  | some c => c
  | none => .skip
noncomputable def cfg45 : Cfg := ⟨Tryz.prog, TT, FNS, [1], [(1, 1)], [], TCH, false, false, none, PNF, false⟩
def an45 : AnnG := (.seq .leaf (.seq .leaf (.seq .leaf .leaf)))
def F45 (x0 : Int) (x1 : Int) (x2 : ByteArray) (x3a : Option Addr) (x3l : Nat) (x3c : Nat) (g : G) (R : Value → G → Prop) : Prop :=
  ∀ g1 : G, Ex g g1 →
  (CallsP Tryz.prog 36 #[(.agg ⟨[(.int .i64 x0), (.int .i64 x1), (.string x2), (.slice x3a x3l x3c)]⟩)] g1 fun v g2 =>
  ∃ (x0a : Option Addr) (x0l x0c : Nat) (x1_1 : Int), v = (.tuple ⟨[(.slice x0a x0l x0c), (.int .i64 x1_1)]⟩) ∧ ifB (eqI x1_1 (0 : Int))
  (∀ g3 : G, Ex g2 g3 →
  R (.bool (eqI ((x0l : Nat) : Int) (0 : Int))) g3)
  (∀ g4 : G, Ex g2 g4 →
  R (.bool false) g4))
theorem F45_eq (x0 : Int) (x1 : Int) (x2 : ByteArray) (x3a : Option Addr) (x3l : Nat) (x3c : Nat) (g : G) (R : Value → G → Prop) : fnG cfg45 17 [.tmp 2] c45 an45 [(.agg ⟨[(.int .i64 x0), (.int .i64 x1), (.string x2), (.slice x3a x3l x3c)]⟩)] g nobody R = F45 x0 x1 x2 x3a x3l x3c g R := by kernel_rfl
theorem call45 (x0 : Int) (x1 : Int) (x2 : ByteArray) (x3a : Option Addr) (x3l : Nat) (x3c : Nat) (g : G) (R : Value → G → Prop) (hF : F45 x0 x1 x2 x3a x3l x3c g R) : CallsG Tryz.prog 45 #[(.agg ⟨[(.int .i64 x0), (.int .i64 x1), (.string x2), (.slice x3a x3l x3c)]⟩)] g nobody R :=
  fn_soundG (c := cfg45) TTok FNSok mixed Tryz.func45 (show Tryz.f45.body = some c45 by kernel_rfl) (show Tryz.f45.ntmps = 17 by kernel_rfl) (show Tryz.f45.results.toList = [.tmp 2] by kernel_rfl) rfl ((F45_eq x0 x1 x2 x3a x3l x3c g R ).mpr hF)
noncomputable def c47 : Code := match Tryz.f47.body with
  | some c => c
  | none => .skip
noncomputable def cfg47 : Cfg := ⟨Tryz.prog, TT, FNS, [2, 3], [(2, 2), (3, 3), (7, 2), (9, 3), (13, 2), (15, 3), (20, 2), (22, 3), (27, 2), (30, 3), (36, 2), (39, 3), (45, 2), (51, 2), (56, 3), (63, 2), (69, 2), (74, 3)], [], TCH, false, false, none, PNF, false⟩
def an47 : AnnG := (.seq .leaf (.join ⟨[], [], []⟩ (.seq .leaf (.cond (.seq .leaf .leaf) .leaf)) (.seq (.seq .leaf (.blk (.loop ⟨[(5, .int .i64)], [], []⟩ (.seq (.seq .leaf (.cond .leaf .leaf)) (.seq (.blk (.seq (.tree 10 (.quiet 0 (.quiet 1 (.quiet 2 (.quiet 3 (.quiet 4 (.quiet 5 (.quiet 6 (.quiet 7 (.quiet 8 (.quiet 9 .fin))))))))))) (.cond (.seq .leaf .leaf) .leaf))) .leaf))))) (.seq (.seq .leaf (.blk (.loop ⟨[(6, .int .i64)], [], []⟩ (.seq (.seq .leaf (.cond .leaf .leaf)) (.seq (.blk (.seq (.tree 10 (.quiet 0 (.quiet 1 (.quiet 2 (.quiet 3 (.quiet 4 (.quiet 5 (.quiet 6 (.quiet 7 (.quiet 8 (.quiet 9 .fin))))))))))) (.cond (.seq .leaf .leaf) .leaf))) .leaf))))) (.seq .leaf .leaf)))))
def F47 (a0 : Int) (a1 : Int) (a2 : ByteArray) (a3a : Option Addr) (a3l : Nat) (a3c : Nat) (a4a : Option Addr) (a4l : Nat) (a4c : Nat) (b0 : Int) (b1 : Int) (b2 : ByteArray) (b3a : Option Addr) (b3l : Nat) (b3c : Nat) (b4a : Option Addr) (b4l : Nat) (b4c : Nat) (g : G) (R : Value → G → Prop) : Prop :=
  ∀ J : G → Prop,
  (∀ g1 : G, (∃ Inv : Nat → Int → G → Prop, ((∃ m0 : Nat, Inv m0 (0 : Int) g1)) ∧
  ∀ (m : Nat) (i : Int) (g2 : G), Le g1 g2 → Inv m i g2 →
  ifB (ltI i ((a3l : Nat) : Int))
  (∀ g3 : G, Ex g2 g3 →
  (0 ≤ i ∧ i < ((a3l : Nat) : Int)) ∧ derefP a3a fun ad => ∃ x : ByteArray, g3.w.cell? (Addr.add ad (Int.toNat i * 1)) = some (.string x) ∧ (0 ≤ i ∧ i < ((b3l : Nat) : Int)) ∧ derefP b3a fun ad_1 => ∃ x_1 : ByteArray, g3.w.cell? (Addr.add ad_1 (Int.toNat i * 1)) = some (.string x_1) ∧ ifB (!strEq x x_1)
  (∀ g4 : G, Ex g3 g4 →
  R (.bool false) g4)
  (InI64 (i + (1 : Int)) ∧ (∃ m_1 : Nat, m_1 < m ∧ Inv m_1 (i + (1 : Int)) g3)))
  (∃ Inv_1 : Nat → Int → G → Prop, ((∃ m0 : Nat, Inv_1 m0 (0 : Int) g2)) ∧
  ∀ (m_2 : Nat) (i_1 : Int) (g5 : G), Le g2 g5 → Inv_1 m_2 i_1 g5 →
  ifB (ltI i_1 ((a4l : Nat) : Int))
  (∀ g6 : G, Ex g5 g6 →
  (0 ≤ i_1 ∧ i_1 < ((a4l : Nat) : Int)) ∧ derefP a4a fun ad_2 => ∃ (x0 x1 : Int) (x2 : ByteArray) (x3a : Option Addr) (x3l x3c : Nat) (x4a : Option Addr) (x4l x4c : Nat), g6.w.cell? (Addr.add ad_2 (Int.toNat i_1 * 5)) = some (.int .i64 x0) ∧ g6.w.cell? (Addr.add (Addr.add ad_2 (Int.toNat i_1 * 5)) 1) = some (.int .i64 x1) ∧ g6.w.cell? (Addr.add (Addr.add ad_2 (Int.toNat i_1 * 5)) 2) = some (.string x2) ∧ g6.w.cell? (Addr.add (Addr.add ad_2 (Int.toNat i_1 * 5)) 3) = some (.slice x3a x3l x3c) ∧ g6.w.cell? (Addr.add (Addr.add ad_2 (Int.toNat i_1 * 5)) 4) = some (.slice x4a x4l x4c) ∧ (0 ≤ i_1 ∧ i_1 < ((b4l : Nat) : Int)) ∧ derefP b4a fun ad_3 => ∃ (x0_1 x1_1 : Int) (x2_1 : ByteArray) (x3a_1 : Option Addr) (x3l_1 x3c_1 : Nat) (x4a_1 : Option Addr) (x4l_1 x4c_1 : Nat), g6.w.cell? (Addr.add ad_3 (Int.toNat i_1 * 5)) = some (.int .i64 x0_1) ∧ g6.w.cell? (Addr.add (Addr.add ad_3 (Int.toNat i_1 * 5)) 1) = some (.int .i64 x1_1) ∧ g6.w.cell? (Addr.add (Addr.add ad_3 (Int.toNat i_1 * 5)) 2) = some (.string x2_1) ∧ g6.w.cell? (Addr.add (Addr.add ad_3 (Int.toNat i_1 * 5)) 3) = some (.slice x3a_1 x3l_1 x3c_1) ∧ g6.w.cell? (Addr.add (Addr.add ad_3 (Int.toNat i_1 * 5)) 4) = some (.slice x4a_1 x4l_1 x4c_1) ∧ (CallsP Tryz.prog 47 #[(.agg ⟨[(.int .i64 x0), (.int .i64 x1), (.string x2), (.slice x3a x3l x3c), (.slice x4a x4l x4c)]⟩), (.agg ⟨[(.int .i64 x0_1), (.int .i64 x1_1), (.string x2_1), (.slice x3a_1 x3l_1 x3c_1), (.slice x4a_1 x4l_1 x4c_1)]⟩)] g6 fun v g7 =>
  ∃ x_2 : Bool, v = (.bool x_2) ∧ ifB (!x_2)
  (∀ g8 : G, Ex g7 g8 →
  R (.bool false) g8)
  (InI64 (i_1 + (1 : Int)) ∧ (∃ m_3 : Nat, m_3 < m_2 ∧ Inv_1 m_3 (i_1 + (1 : Int)) g7))))
  (∀ g9 : G, Ex g5 g9 →
  R (.bool true) g9))) → J g1) →
  ifB (!eqI a0 b0)
  (∀ g10 : G, Ex g g10 →
  R (.bool false) g10)
  (ifB (!eqI a1 b1)
  (∀ g11 : G, Ex g g11 →
  R (.bool false) g11)
  (ifB (!strEq a2 b2)
  (∀ g12 : G, Ex g g12 →
  R (.bool false) g12)
  (ifB (!eqI ((a4l : Nat) : Int) ((b4l : Nat) : Int))
  (∀ g13 : G, Ex g g13 →
  R (.bool false) g13)
  (ifB (!eqI ((a3l : Nat) : Int) ((b3l : Nat) : Int))
  (∀ g14 : G, Ex g g14 →
  R (.bool false) g14)
  (∀ g15 : G, Ex g g15 →
  J g15)))))
theorem F47_eq (a0 : Int) (a1 : Int) (a2 : ByteArray) (a3a : Option Addr) (a3l : Nat) (a3c : Nat) (a4a : Option Addr) (a4l : Nat) (a4c : Nat) (b0 : Int) (b1 : Int) (b2 : ByteArray) (b3a : Option Addr) (b3l : Nat) (b3c : Nat) (b4a : Option Addr) (b4l : Nat) (b4c : Nat) (g : G) (R : Value → G → Prop) : fnG cfg47 81 [.tmp 4] c47 an47 [(.agg ⟨[(.int .i64 a0), (.int .i64 a1), (.string a2), (.slice a3a a3l a3c), (.slice a4a a4l a4c)]⟩), (.agg ⟨[(.int .i64 b0), (.int .i64 b1), (.string b2), (.slice b3a b3l b3c), (.slice b4a b4l b4c)]⟩)] g nobody R = F47 a0 a1 a2 a3a a3l a3c a4a a4l a4c b0 b1 b2 b3a b3l b3c b4a b4l b4c g R := by kernel_rfl
theorem call47 (a0 : Int) (a1 : Int) (a2 : ByteArray) (a3a : Option Addr) (a3l : Nat) (a3c : Nat) (a4a : Option Addr) (a4l : Nat) (a4c : Nat) (b0 : Int) (b1 : Int) (b2 : ByteArray) (b3a : Option Addr) (b3l : Nat) (b3c : Nat) (b4a : Option Addr) (b4l : Nat) (b4c : Nat) (g : G) (R : Value → G → Prop) (hF : F47 a0 a1 a2 a3a a3l a3c a4a a4l a4c b0 b1 b2 b3a b3l b3c b4a b4l b4c g R) : CallsG Tryz.prog 47 #[(.agg ⟨[(.int .i64 a0), (.int .i64 a1), (.string a2), (.slice a3a a3l a3c), (.slice a4a a4l a4c)]⟩), (.agg ⟨[(.int .i64 b0), (.int .i64 b1), (.string b2), (.slice b3a b3l b3c), (.slice b4a b4l b4c)]⟩)] g nobody R :=
  fn_soundG (c := cfg47) TTok FNSok mixed Tryz.func47 (show Tryz.f47.body = some c47 by kernel_rfl) (show Tryz.f47.ntmps = 81 by kernel_rfl) (show Tryz.f47.results.toList = [.tmp 4] by kernel_rfl) rfl ((F47_eq a0 a1 a2 a3a a3l a3c a4a a4l a4c b0 b1 b2 b3a b3l b3c b4a b4l b4c g R ).mpr hF)
noncomputable def c48 : Code := match Tryz.f48.body with
  | some c => c
  | none => .skip
noncomputable def cfg48 : Cfg := ⟨Tryz.prog, TT, FNS, [], [], [], TCH, false, false, none, PNF, false⟩
def an48 : AnnG := (.seq .leaf (.seq (.seq .leaf (.cond (.seq .leaf .leaf) .leaf)) (.seq (.seq .leaf (.blk (.loop ⟨[(5, .int .i64)], [], []⟩ (.seq (.seq .leaf (.cond .leaf .leaf)) (.seq (.blk (.seq (.tree 8 (.quiet 0 (.quiet 1 (.quiet 2 (.quiet 3 (.quiet 4 (.quiet 5 (.quiet 6 (.quiet 7 .fin))))))))) (.cond (.seq .leaf .leaf) .leaf))) .leaf))))) (.seq .leaf .leaf))))
def F48 (aa : Option Addr) (al : Nat) (ac : Nat) (ba : Option Addr) (bl : Nat) (bc : Nat) (g : G) (R : Value → G → Prop) : Prop :=
  ifB (!eqI ((al : Nat) : Int) ((bl : Nat) : Int))
  (∀ g1 : G, Ex g g1 →
  R (.bool false) g1)
  (∃ Inv : Nat → Int → G → Prop, ((∃ m0 : Nat, Inv m0 (0 : Int) g)) ∧
  ∀ (m : Nat) (i : Int) (g2 : G), Le g g2 → Inv m i g2 →
  ifB (ltI i ((al : Nat) : Int))
  (∀ g3 : G, Ex g2 g3 →
  (0 ≤ i ∧ i < ((al : Nat) : Int)) ∧ derefP aa fun ad => ∃ x : ByteArray, g3.w.cell? (Addr.add ad (Int.toNat i * 1)) = some (.string x) ∧ (0 ≤ i ∧ i < ((bl : Nat) : Int)) ∧ derefP ba fun ad_1 => ∃ x_1 : ByteArray, g3.w.cell? (Addr.add ad_1 (Int.toNat i * 1)) = some (.string x_1) ∧ ifB (!strEq x x_1)
  (∀ g4 : G, Ex g3 g4 →
  R (.bool false) g4)
  (InI64 (i + (1 : Int)) ∧ (∃ m_1 : Nat, m_1 < m ∧ Inv m_1 (i + (1 : Int)) g3)))
  (∀ g5 : G, Ex g2 g5 →
  R (.bool true) g5))
theorem F48_eq (aa : Option Addr) (al : Nat) (ac : Nat) (ba : Option Addr) (bl : Nat) (bc : Nat) (g : G) (R : Value → G → Prop) : fnG cfg48 26 [.tmp 4] c48 an48 [(.slice aa al ac), (.slice ba bl bc)] g nobody R = F48 aa al ac ba bl bc g R := by kernel_rfl
theorem call48 (aa : Option Addr) (al : Nat) (ac : Nat) (ba : Option Addr) (bl : Nat) (bc : Nat) (g : G) (R : Value → G → Prop) (hF : F48 aa al ac ba bl bc g R) : CallsG Tryz.prog 48 #[(.slice aa al ac), (.slice ba bl bc)] g nobody R :=
  fn_soundG (c := cfg48) TTok FNSok mixed Tryz.func48 (show Tryz.f48.body = some c48 by kernel_rfl) (show Tryz.f48.ntmps = 26 by kernel_rfl) (show Tryz.f48.results.toList = [.tmp 4] by kernel_rfl) rfl ((F48_eq aa al ac ba bl bc g R ).mpr hF)
noncomputable def c49 : Code := match Tryz.f49.body with
  | some c => c
  | none => .skip
noncomputable def cfg49 : Cfg := ⟨Tryz.prog, TT, FNS, [2, 3], [(2, 2), (3, 3), (6, 2), (8, 3), (12, 2), (14, 3), (19, 2), (21, 3), (26, 2), (29, 3), (35, 2), (41, 2), (46, 3)], [], TCH, false, false, none, PNF, false⟩
def an49 : AnnG := (.seq .leaf (.join ⟨[], [], []⟩ (.seq .leaf (.cond (.seq .leaf .leaf) .leaf)) (.seq (.seq .leaf (.blk (.loop ⟨[(5, .int .i64)], [], []⟩ (.seq (.seq .leaf (.cond .leaf .leaf)) (.seq (.blk (.seq (.tree 10 (.quiet 0 (.quiet 1 (.quiet 2 (.quiet 3 (.quiet 4 (.quiet 5 (.quiet 6 (.quiet 7 (.quiet 8 (.quiet 9 .fin))))))))))) (.cond (.seq .leaf .leaf) .leaf))) .leaf))))) (.seq .leaf .leaf))))
def F49 (a0 : Int) (a1 : Int) (a2 : ByteArray) (a3a : Option Addr) (a3l : Nat) (a3c : Nat) (b0 : Int) (b1 : Int) (b2 : ByteArray) (b3a : Option Addr) (b3l : Nat) (b3c : Nat) (g : G) (R : Value → G → Prop) : Prop :=
  ∀ J : G → Prop,
  (∀ g1 : G, (∃ Inv : Nat → Int → G → Prop, ((∃ m0 : Nat, Inv m0 (0 : Int) g1)) ∧
  ∀ (m : Nat) (i : Int) (g2 : G), Le g1 g2 → Inv m i g2 →
  ifB (ltI i ((a3l : Nat) : Int))
  (∀ g3 : G, Ex g2 g3 →
  (0 ≤ i ∧ i < ((a3l : Nat) : Int)) ∧ derefP a3a fun ad => ∃ (x0 x1 : Int) (x2 : ByteArray) (x3a : Option Addr) (x3l x3c : Nat), g3.w.cell? (Addr.add ad (Int.toNat i * 4)) = some (.int .i64 x0) ∧ g3.w.cell? (Addr.add (Addr.add ad (Int.toNat i * 4)) 1) = some (.int .i64 x1) ∧ g3.w.cell? (Addr.add (Addr.add ad (Int.toNat i * 4)) 2) = some (.string x2) ∧ g3.w.cell? (Addr.add (Addr.add ad (Int.toNat i * 4)) 3) = some (.slice x3a x3l x3c) ∧ (0 ≤ i ∧ i < ((b3l : Nat) : Int)) ∧ derefP b3a fun ad_1 => ∃ (x0_1 x1_1 : Int) (x2_1 : ByteArray) (x3a_1 : Option Addr) (x3l_1 x3c_1 : Nat), g3.w.cell? (Addr.add ad_1 (Int.toNat i * 4)) = some (.int .i64 x0_1) ∧ g3.w.cell? (Addr.add (Addr.add ad_1 (Int.toNat i * 4)) 1) = some (.int .i64 x1_1) ∧ g3.w.cell? (Addr.add (Addr.add ad_1 (Int.toNat i * 4)) 2) = some (.string x2_1) ∧ g3.w.cell? (Addr.add (Addr.add ad_1 (Int.toNat i * 4)) 3) = some (.slice x3a_1 x3l_1 x3c_1) ∧ (CallsP Tryz.prog 49 #[(.agg ⟨[(.int .i64 x0), (.int .i64 x1), (.string x2), (.slice x3a x3l x3c)]⟩), (.agg ⟨[(.int .i64 x0_1), (.int .i64 x1_1), (.string x2_1), (.slice x3a_1 x3l_1 x3c_1)]⟩)] g3 fun v g4 =>
  ∃ x : Bool, v = (.bool x) ∧ ifB (!x)
  (∀ g5 : G, Ex g4 g5 →
  R (.bool false) g5)
  (InI64 (i + (1 : Int)) ∧ (∃ m_1 : Nat, m_1 < m ∧ Inv m_1 (i + (1 : Int)) g4))))
  (∀ g6 : G, Ex g2 g6 →
  R (.bool true) g6)) → J g1) →
  ifB (!eqI a0 b0)
  (∀ g7 : G, Ex g g7 →
  R (.bool false) g7)
  (ifB (!eqI a1 b1)
  (∀ g8 : G, Ex g g8 →
  R (.bool false) g8)
  (ifB (!strEq a2 b2)
  (∀ g9 : G, Ex g g9 →
  R (.bool false) g9)
  (ifB (!eqI ((a3l : Nat) : Int) ((b3l : Nat) : Int))
  (∀ g10 : G, Ex g g10 →
  R (.bool false) g10)
  (∀ g11 : G, Ex g g11 →
  J g11))))
theorem F49_eq (a0 : Int) (a1 : Int) (a2 : ByteArray) (a3a : Option Addr) (a3l : Nat) (a3c : Nat) (b0 : Int) (b1 : Int) (b2 : ByteArray) (b3a : Option Addr) (b3l : Nat) (b3c : Nat) (g : G) (R : Value → G → Prop) : fnG cfg49 53 [.tmp 4] c49 an49 [(.agg ⟨[(.int .i64 a0), (.int .i64 a1), (.string a2), (.slice a3a a3l a3c)]⟩), (.agg ⟨[(.int .i64 b0), (.int .i64 b1), (.string b2), (.slice b3a b3l b3c)]⟩)] g nobody R = F49 a0 a1 a2 a3a a3l a3c b0 b1 b2 b3a b3l b3c g R := by kernel_rfl
theorem call49 (a0 : Int) (a1 : Int) (a2 : ByteArray) (a3a : Option Addr) (a3l : Nat) (a3c : Nat) (b0 : Int) (b1 : Int) (b2 : ByteArray) (b3a : Option Addr) (b3l : Nat) (b3c : Nat) (g : G) (R : Value → G → Prop) (hF : F49 a0 a1 a2 a3a a3l a3c b0 b1 b2 b3a b3l b3c g R) : CallsG Tryz.prog 49 #[(.agg ⟨[(.int .i64 a0), (.int .i64 a1), (.string a2), (.slice a3a a3l a3c)]⟩), (.agg ⟨[(.int .i64 b0), (.int .i64 b1), (.string b2), (.slice b3a b3l b3c)]⟩)] g nobody R :=
  fn_soundG (c := cfg49) TTok FNSok mixed Tryz.func49 (show Tryz.f49.body = some c49 by kernel_rfl) (show Tryz.f49.ntmps = 53 by kernel_rfl) (show Tryz.f49.results.toList = [.tmp 4] by kernel_rfl) rfl ((F49_eq a0 a1 a2 a3a a3l a3c b0 b1 b2 b3a b3l b3c g R ).mpr hF)
noncomputable def c58 : Code := match Tryz.f58.body with
  | some c => c
  | none => .skip
noncomputable def cfg58 : Cfg := ⟨Tryz.prog, TT, FNS, [1], [(1, 1), (5, 1), (7, 1), (10, 1), (14, 1), (18, 1), (49, 1), (113, 1)], [], TCH, false, false, none, PNF, false⟩
def an58 : AnnG := (.seq .leaf (.seq (.tree 6 (.quiet 0 (.quiet 1 (.quiet 2 (.quiet 3 (.quiet 4 (.quiet 5 .fin))))))) (.join ⟨[], [], []⟩ (.seq .leaf (.cond (.seq .leaf .leaf) .leaf)) (.seq (.seq .leaf (.blk (.seq .leaf (.cond (.seq .leaf .leaf) (.seq .leaf (.cond (.seq .leaf .leaf) (.seq .leaf (.cond (.seq .leaf .leaf) (.seq .leaf (.cond (.seq .leaf .leaf) (.join ⟨[(62, .bool)], [], []⟩ (.seq .leaf (.cond .leaf .leaf)) (.cond (.seq .leaf .leaf) (.seq .leaf (.cond (.seq .leaf .leaf) (.join ⟨[(79, .bool)], [], []⟩ (.seq .leaf (.cond .leaf .leaf)) (.cond (.seq .leaf .leaf) (.seq .leaf (.cond (.seq .leaf .leaf) (.seq .leaf (.cond (.seq .leaf .leaf) (.seq .leaf (.cond (.seq .leaf .leaf) (.seq .leaf (.cond (.seq .leaf .leaf) .leaf)))))))))))))))))))))))) (.seq .leaf .leaf)))))
def F58 (x0 : Int) (x1 : Int) (x2 : ByteArray) (x3a : Option Addr) (x3l : Nat) (x3c : Nat) (g : G) (R : Value → G → Prop) : Prop :=
  ∀ g1 : G, Ex g g1 →
  ∀ J : G → Prop,
  (∀ g2 : G, (ifB (eqI x0 (1 : Int))
  (ifB (leI (0 : Int) x1)
  (∀ g3 : G, Ex g2 g3 →
  R (.bool (eqI ((x3l : Nat) : Int) (0 : Int))) g3)
  (∀ g4 : G, Ex g2 g4 →
  R (.bool false) g4))
  (ifB (eqI x0 (2 : Int))
  (ifB (leI (-4503599627370496 : Int) x1)
  (ifB (leI x1 (4503599627370496 : Int))
  (∀ g5 : G, Ex g2 g5 →
  R (.bool (eqI ((x3l : Nat) : Int) (0 : Int))) g5)
  (∀ g6 : G, Ex g2 g6 →
  R (.bool false) g6))
  (∀ g7 : G, Ex g2 g7 →
  R (.bool false) g7))
  (ifB (eqI x0 (3 : Int))
  (ifB (eqI x1 (0 : Int))
  (ifB (eqI ((x3l : Nat) : Int) (0 : Int))
  (∀ g8 : G, Ex g2 g8 →
  R (.bool (leI ((x2.size : Nat) : Int) (16384 : Int))) g8)
  (∀ g9 : G, Ex g2 g9 →
  R (.bool false) g9))
  (∀ g10 : G, Ex g2 g10 →
  R (.bool false) g10))
  (ifB (eqI x0 (4 : Int))
  (ifB (eqI x1 (0 : Int))
  (∀ g11 : G, Ex g2 g11 →
  R (.bool (eqI ((x3l : Nat) : Int) (1 : Int))) g11)
  (∀ g12 : G, Ex g2 g12 →
  R (.bool false) g12))
  (∀ J_1 : Bool → G → Prop,
  (∀ (v_1 : Bool) (g13 : G), (ifB v_1
  (ifB (eqI x1 (0 : Int))
  (∀ g14 : G, Ex g13 g14 →
  R (.bool (eqI ((x3l : Nat) : Int) (2 : Int))) g14)
  (∀ g15 : G, Ex g13 g15 →
  R (.bool false) g15))
  (ifB (eqI x0 (6 : Int))
  (ifB (eqI x1 (0 : Int))
  (∀ g16 : G, Ex g13 g16 →
  R (.bool (leI ((x3l : Nat) : Int) (1000 : Int))) g16)
  (∀ g17 : G, Ex g13 g17 →
  R (.bool false) g17))
  (∀ J_2 : Bool → G → Prop,
  (∀ (v_2 : Bool) (g18 : G), (ifB v_2
  (ifB (leI (0 : Int) x1)
  (ifB (ltI x1 (1000 : Int))
  (∀ g19 : G, Ex g18 g19 →
  R (.bool (eqI ((x3l : Nat) : Int) (1 : Int))) g19)
  (∀ g20 : G, Ex g18 g20 →
  R (.bool false) g20))
  (∀ g21 : G, Ex g18 g21 →
  R (.bool false) g21))
  (ifB (eqI x0 (9 : Int))
  (ifB (eqI x1 (0 : Int))
  (ifB (leI (2 : Int) ((x3l : Nat) : Int))
  (∀ g22 : G, Ex g18 g22 →
  R (.bool (leI ((x3l : Nat) : Int) (1001 : Int))) g22)
  (∀ g23 : G, Ex g18 g23 →
  R (.bool false) g23))
  (∀ g24 : G, Ex g18 g24 →
  R (.bool false) g24))
  (ifB (eqI x0 (10 : Int))
  (ifB (eqI x1 (0 : Int))
  (ifB (eqI ((x3l : Nat) : Int) (1 : Int))
  ((0 ≤ (0 : Int) ∧ (0 : Int) < ((x3l : Nat) : Int)) ∧ derefP x3a fun ad => ∃ x : Int, g18.w.cell? (Addr.add ad (Int.toNat (0 : Int) * 4)) = some (.int .i64 x) ∧ ∀ g25 : G, Ex g18 g25 →
  R (.bool (eqI x (4 : Int))) g25)
  (∀ g26 : G, Ex g18 g26 →
  R (.bool false) g26))
  (∀ g27 : G, Ex g18 g27 →
  R (.bool false) g27))
  (ifB (eqI x0 (12 : Int))
  ((CallsP Tryz.prog 85 #[(.int .i64 x1)] g18 fun v g28 =>
  ∃ x_1 : Int, v = (.int .i64 x_1) ∧ ifB (ltI (0 : Int) x_1)
  ((CallsP Tryz.prog 85 #[(.int .i64 x1)] g28 fun v g29 =>
  ∃ x_2 : Int, v = (.int .i64 x_2) ∧ ∀ g30 : G, Ex g29 g30 →
  R (.bool (eqI ((x3l : Nat) : Int) x_2)) g30))
  (∀ g31 : G, Ex g28 g31 →
  R (.bool false) g31)))
  (ifB (eqI x0 (13 : Int))
  (ifB (leI (1 : Int) x1)
  (ifB (leI x1 (1000000 : Int))
  (∀ g32 : G, Ex g18 g32 →
  R (.bool (eqI ((x3l : Nat) : Int) (0 : Int))) g32)
  (∀ g33 : G, Ex g18 g33 →
  R (.bool false) g33))
  (∀ g34 : G, Ex g18 g34 →
  R (.bool false) g34))
  (∀ g35 : G, Ex g18 g35 →
  R (.bool false) g35)))))) → J_2 v_2 g18) →
  ifB (eqI x0 (7 : Int))
  (J_2 true g13)
  (J_2 (eqI x0 (8 : Int)) g13)))) → J_1 v_1 g13) →
  ifB (eqI x0 (5 : Int))
  (J_1 true g2)
  (J_1 (eqI x0 (11 : Int)) g2)))))) → J g2) →
  ifB (!eqI x0 (3 : Int))
  (ifB (!strEq x2 (bs []))
  (∀ g36 : G, Ex g1 g36 →
  R (.bool false) g36)
  (J g1))
  (J g1)
theorem F58_eq (x0 : Int) (x1 : Int) (x2 : ByteArray) (x3a : Option Addr) (x3l : Nat) (x3c : Nat) (g : G) (R : Value → G → Prop) : fnG cfg58 143 [.tmp 2] c58 an58 [(.agg ⟨[(.int .i64 x0), (.int .i64 x1), (.string x2), (.slice x3a x3l x3c)]⟩)] g nobody R = F58 x0 x1 x2 x3a x3l x3c g R := by kernel_rfl
theorem call58 (x0 : Int) (x1 : Int) (x2 : ByteArray) (x3a : Option Addr) (x3l : Nat) (x3c : Nat) (g : G) (R : Value → G → Prop) (hF : F58 x0 x1 x2 x3a x3l x3c g R) : CallsG Tryz.prog 58 #[(.agg ⟨[(.int .i64 x0), (.int .i64 x1), (.string x2), (.slice x3a x3l x3c)]⟩)] g nobody R :=
  fn_soundG (c := cfg58) TTok FNSok mixed Tryz.func58 (show Tryz.f58.body = some c58 by kernel_rfl) (show Tryz.f58.ntmps = 143 by kernel_rfl) (show Tryz.f58.results.toList = [.tmp 2] by kernel_rfl) rfl ((F58_eq x0 x1 x2 x3a x3l x3c g R ).mpr hF)
noncomputable def c59 : Code := match Tryz.f59.body with
  | some c => c
  | none => .skip
noncomputable def cfg59 : Cfg := ⟨Tryz.prog, TT, FNS, [], [], [], TCH, false, false, none, PNF, false⟩
def an59 : AnnG := (.seq .leaf (.seq .leaf (.join ⟨[(5, .int .i64)], [], []⟩ (.blk (.loop ⟨[(5, .int .i64)], [], []⟩ (.seq (.seq .leaf (.cond .leaf .leaf)) (.blk .leaf)))) (.join ⟨[], [], []⟩ (.seq .leaf (.cond (.seq .leaf .leaf) .leaf)) (.seq .leaf (.seq .leaf (.seq .leaf .leaf)))))))
def F59 (la : Option Addr) (ll : Nat) (lc : Nat) (n : Int) (g : G) (R : Value → G → Prop) : Prop :=
  ∀ J : Int → G → Prop,
  (∀ (i : Int) (g1 : G), (∀ J_1 : G → Prop,
  (∀ g2 : G, (∀ g3 : G, NewL g2 g3 3 [] →
  (0 ≤ i ∧ i ≤ ((lc : Nat) : Int)) ∧ ∃ (outa : Option Addr) (outl outc : Nat) (wo1 : World), Sem.run Tryz.prog (Builtin.append_ #[47, 47] 47 #[(.slice (some ⟨g2.w.heap.size, 0, none⟩) 0 0), (.slice (slAddr la lc 0 1) ((Int.toNat i) - 0) (lc - 0))]) g3.w = .ok (.slice outa outl outc) wo1 ∧ ∃ g4 : G, g4.w = wo1 ∧ Stp g.w.heap.size nobody g3 g4 ∧ ∀ g5 : G, NewL g4 g5 3 [(.int .i64 n)] →
  ∃ (outa_1 : Option Addr) (outl_1 outc_1 : Nat) (wo2 : World), Sem.run Tryz.prog (Builtin.append_ #[47, 47] 47 #[(.slice outa outl outc), (.slice (some ⟨g4.w.heap.size, 0, none⟩) 1 1)]) g5.w = .ok (.slice outa_1 outl_1 outc_1) wo2 ∧ ∃ g6 : G, g6.w = wo2 ∧ Stp g.w.heap.size nobody g5 g6 ∧ (0 ≤ i ∧ i ≤ ((ll : Nat) : Int)) ∧ ∃ (xa : Option Addr) (xl xc : Nat) (wo3 : World), Sem.run Tryz.prog (Builtin.append_ #[47, 47] 47 #[(.slice outa_1 outl_1 outc_1), (.slice (slAddr la lc (Int.toNat i) 1) (ll - (Int.toNat i)) (lc - (Int.toNat i)))]) g6.w = .ok (.slice xa xl xc) wo3 ∧ ∃ g7 : G, g7.w = wo3 ∧ Stp g.w.heap.size nobody g6 g7 ∧ ∀ g8 : G, Ex g7 g8 →
  R (.slice xa xl xc) g8) → J_1 g2) →
  ifB (ltI i ((ll : Nat) : Int))
  ((0 ≤ i ∧ i < ((ll : Nat) : Int)) ∧ derefP la fun ad => ∃ x : Int, g1.w.cell? (Addr.add ad (Int.toNat i * 1)) = some (.int .i64 x) ∧ ifB (eqI x n)
  (∀ g9 : G, Ex g1 g9 →
  R (.slice la ll lc) g9)
  (J_1 g1))
  (J_1 g1)) → J i g1) →
  ∃ Inv : Nat → Int → G → Prop, ((∃ m0 : Nat, Inv m0 (0 : Int) g)) ∧
  ∀ (m : Nat) (i_1 : Int) (g10 : G), Le g g10 → Inv m i_1 g10 →
  ifB (ltI i_1 ((ll : Nat) : Int))
  ((0 ≤ i_1 ∧ i_1 < ((ll : Nat) : Int)) ∧ derefP la fun ad_1 => ∃ x_1 : Int, g10.w.cell? (Addr.add ad_1 (Int.toNat i_1 * 1)) = some (.int .i64 x_1) ∧ ifB (ltI x_1 n)
  (InI64 (i_1 + (1 : Int)) ∧ (∃ m_1 : Nat, m_1 < m ∧ Inv m_1 (i_1 + (1 : Int)) g10))
  (J i_1 g10))
  (J i_1 g10)
theorem F59_eq (la : Option Addr) (ll : Nat) (lc : Nat) (n : Int) (g : G) (R : Value → G → Prop) : fnG cfg59 48 [.tmp 4] c59 an59 [(.slice la ll lc), (.int .i64 n)] g nobody R = F59 la ll lc n g R := by kernel_rfl
theorem call59 (la : Option Addr) (ll : Nat) (lc : Nat) (n : Int) (g : G) (R : Value → G → Prop) (hF : F59 la ll lc n g R) : CallsG Tryz.prog 59 #[(.slice la ll lc), (.int .i64 n)] g nobody R :=
  fn_soundG (c := cfg59) TTok FNSok mixed Tryz.func59 (show Tryz.f59.body = some c59 by kernel_rfl) (show Tryz.f59.ntmps = 48 by kernel_rfl) (show Tryz.f59.results.toList = [.tmp 4] by kernel_rfl) rfl ((F59_eq la ll lc n g R ).mpr hF)
noncomputable def c60 : Code := match Tryz.f60.body with
  | some c => c
  | none => .skip
noncomputable def cfg60 : Cfg := ⟨Tryz.prog, TT, FNS, [2], [(2, 2), (5, 2)], [], TCH, false, false, none, PNF, false⟩
def an60 : AnnG := (.seq .leaf (.seq (.seq .leaf (.blk (.join ⟨[(7, .bool)], [], []⟩ (.seq .leaf (.cond .leaf .leaf)) (.cond (.seq .leaf .leaf) (.seq (.seq .leaf (.cond .leaf .leaf)) (.cond (.seq .leaf (.cond (.seq .leaf .leaf) .leaf)) .leaf)))))) (.seq .leaf .leaf)))
def F60 (x0 : Int) (x1 : Int) (x2 : ByteArray) (x3a : Option Addr) (x3l : Nat) (x3c : Nat) (part : Int) (g : G) (R : Value → G → Prop) : Prop :=
  ∀ J : Bool → G → Prop,
  (∀ (v_1 : Bool) (g1 : G), (ifB v_1
  (∀ g2 : G, Ex g1 g2 →
  R (.int .i64 (1 : Int)) g2)
  (ifB (eqI x0 (11 : Int))
  (ifB (ltI (0 : Int) part)
  (∀ g3 : G, Ex g1 g3 →
  R (.int .i64 (1 : Int)) g3)
  (∀ g4 : G, Ex g1 g4 →
  R (.int .i64 (0 : Int)) g4))
  (ifB (eqI x0 (9 : Int))
  (ifB (ltI (0 : Int) part)
  (∀ g5 : G, Ex g1 g5 →
  R (.int .i64 (1 : Int)) g5)
  (∀ g6 : G, Ex g1 g6 →
  R (.int .i64 (0 : Int)) g6))
  (∀ g7 : G, Ex g1 g7 →
  R (.int .i64 (0 : Int)) g7)))) → J v_1 g1) →
  ifB (eqI x0 (4 : Int))
  (∀ g8 : G, Ex g g8 →
  J true g8)
  (∀ g9 : G, Ex g g9 →
  J (eqI x0 (10 : Int)) g9)
theorem F60_eq (x0 : Int) (x1 : Int) (x2 : ByteArray) (x3a : Option Addr) (x3l : Nat) (x3c : Nat) (part : Int) (g : G) (R : Value → G → Prop) : fnG cfg60 15 [.tmp 4] c60 an60 [(.agg ⟨[(.int .i64 x0), (.int .i64 x1), (.string x2), (.slice x3a x3l x3c)]⟩), (.int .i64 part)] g nobody R = F60 x0 x1 x2 x3a x3l x3c part g R := by kernel_rfl
theorem call60 (x0 : Int) (x1 : Int) (x2 : ByteArray) (x3a : Option Addr) (x3l : Nat) (x3c : Nat) (part : Int) (g : G) (R : Value → G → Prop) (hF : F60 x0 x1 x2 x3a x3l x3c part g R) : CallsG Tryz.prog 60 #[(.agg ⟨[(.int .i64 x0), (.int .i64 x1), (.string x2), (.slice x3a x3l x3c)]⟩), (.int .i64 part)] g nobody R :=
  fn_soundG (c := cfg60) TTok FNSok mixed Tryz.func60 (show Tryz.f60.body = some c60 by kernel_rfl) (show Tryz.f60.ntmps = 15 by kernel_rfl) (show Tryz.f60.results.toList = [.tmp 4] by kernel_rfl) rfl ((F60_eq x0 x1 x2 x3a x3l x3c part g R ).mpr hF)
noncomputable def c61 : Code := match Tryz.f61.body with
  | some c => c
  | none => .skip
noncomputable def cfg61 : Cfg := ⟨Tryz.prog, TT, FNS, [1], [(1, 1)], [], TCH, false, false, none, PNF, false⟩
def an61 : AnnG := (.seq .leaf (.seq .leaf (.seq .leaf .leaf)))
def F61 (x0 : Int) (x1 : Int) (x2 : ByteArray) (x3a : Option Addr) (x3l : Nat) (x3c : Nat) (g : G) (R : Value → G → Prop) : Prop :=
  ∀ g1 : G, Ex g g1 →
  (CallsP Tryz.prog 86 #[(.agg ⟨[(.int .i64 x0), (.int .i64 x1), (.string x2), (.slice x3a x3l x3c)]⟩), (.int .i64 (20000 : Int)), (.int .i64 (1 : Int))] g1 fun v g2 =>
  ∃ (x0_1 : Int) (x1_1 : Bool), v = (.tuple ⟨[(.int .i64 x0_1), (.bool x1_1)]⟩) ∧ ∀ g3 : G, Ex g2 g3 →
  R (.bool x1_1) g3)
theorem F61_eq (x0 : Int) (x1 : Int) (x2 : ByteArray) (x3a : Option Addr) (x3l : Nat) (x3c : Nat) (g : G) (R : Value → G → Prop) : fnG cfg61 11 [.tmp 2] c61 an61 [(.agg ⟨[(.int .i64 x0), (.int .i64 x1), (.string x2), (.slice x3a x3l x3c)]⟩)] g nobody R = F61 x0 x1 x2 x3a x3l x3c g R := by kernel_rfl
theorem call61 (x0 : Int) (x1 : Int) (x2 : ByteArray) (x3a : Option Addr) (x3l : Nat) (x3c : Nat) (g : G) (R : Value → G → Prop) (hF : F61 x0 x1 x2 x3a x3l x3c g R) : CallsG Tryz.prog 61 #[(.agg ⟨[(.int .i64 x0), (.int .i64 x1), (.string x2), (.slice x3a x3l x3c)]⟩)] g nobody R :=
  fn_soundG (c := cfg61) TTok FNSok mixed Tryz.func61 (show Tryz.f61.body = some c61 by kernel_rfl) (show Tryz.f61.ntmps = 11 by kernel_rfl) (show Tryz.f61.results.toList = [.tmp 2] by kernel_rfl) rfl ((F61_eq x0 x1 x2 x3a x3l x3c g R ).mpr hF)
noncomputable def c62 : Code := match Tryz.f62.body with
  | some c => c
  | none => .skip
noncomputable def cfg62 : Cfg := ⟨Tryz.prog, TT, FNS, [4, 7], [(4, 4), (7, 7), (9, 4), (13, 4), (19, 4), (23, 4)], [], TCH, false, false, none, PNF, false⟩
def an62 : AnnG := (.seq .leaf (.join ⟨[], [], []⟩ (.seq .leaf (.cond .leaf .leaf)) (.seq .leaf (.blk (.loop ⟨[(26, .int .i64)], [], []⟩ (.seq .leaf (.seq (.cond .leaf .leaf) (.seq (.blk (.seq .leaf (.seq .leaf (.seq (.seq .leaf (.cond .leaf .leaf)) .leaf)))) .leaf))))))))
def F62 (m : Option Nat) (x0 : Int) (x1 : Int) (x2 : ByteArray) (x3a : Option Addr) (x3l : Nat) (x3c : Nat) (depth : Int) (g : G) (M : Nat → Prop) (R : Value → G → Prop) : Prop :=
  ∀ J : G → Prop,
  (∀ g1 : G, (∃ Inv : Nat → Int → G → Prop, ((∃ m0 : Nat, Inv m0 (0 : Int) g1)) ∧
  ∀ (m_1 : Nat) (v_1 : Int) (g2 : G), Le g1 g2 → Inv m_1 v_1 g2 →
  ifB (ltI v_1 ((x3l : Nat) : Int))
  ((0 ≤ v_1 ∧ v_1 < ((x3l : Nat) : Int)) ∧ derefP x3a fun ad => ∃ (x0_1 x1_1 : Int) (x2_1 : ByteArray) (x3a_1 : Option Addr) (x3l_1 x3c_1 : Nat), g2.w.cell? (Addr.add ad (Int.toNat v_1 * 4)) = some (.int .i64 x0_1) ∧ g2.w.cell? (Addr.add (Addr.add ad (Int.toNat v_1 * 4)) 1) = some (.int .i64 x1_1) ∧ g2.w.cell? (Addr.add (Addr.add ad (Int.toNat v_1 * 4)) 2) = some (.string x2_1) ∧ g2.w.cell? (Addr.add (Addr.add ad (Int.toNat v_1 * 4)) 3) = some (.slice x3a_1 x3l_1 x3c_1) ∧ ∀ g3 : G, Ex g2 g3 →
  (CallsP Tryz.prog 87 #[(.agg ⟨[(.int .i64 x0), (.int .i64 x1), (.string x2), (.slice x3a x3l x3c)]⟩), (.int .i64 v_1)] g3 fun v g4 =>
  ∃ x : Bool, v = (.bool x) ∧ ifB x
  (InI64 (depth + (1 : Int)) ∧ ∃ M1 : Nat → Prop, (∀ b, b < g.w.heap.size → M1 b → M b) ∧ (CallsG Tryz.prog 62 #[(.map m), (.agg ⟨[(.int .i64 x0_1), (.int .i64 x1_1), (.string x2_1), (.slice x3a_1 x3l_1 x3c_1)]⟩), (.int .i64 (depth + (1 : Int)))] g4 M1 fun v g5 =>
  v = (.tuple ⟨[]⟩) ∧ InI64 (v_1 + (1 : Int)) ∧ (∃ m_2 : Nat, m_2 < m_1 ∧ Inv m_2 (v_1 + (1 : Int)) g5)))
  (∃ M2 : Nat → Prop, (∀ b, b < g.w.heap.size → M2 b → M b) ∧ (CallsG Tryz.prog 62 #[(.map m), (.agg ⟨[(.int .i64 x0_1), (.int .i64 x1_1), (.string x2_1), (.slice x3a_1 x3l_1 x3c_1)]⟩), (.int .i64 depth)] g4 M2 fun v g6 =>
  v = (.tuple ⟨[]⟩) ∧ InI64 (v_1 + (1 : Int)) ∧ (∃ m_2 : Nat, m_2 < m_1 ∧ Inv m_2 (v_1 + (1 : Int)) g6)))))
  (∀ g7 : G, Ex g2 g7 →
  R (.tuple ⟨[]⟩) g7)) → J g1) →
  ifB (eqI x0 (1 : Int))
  (ifB (leI depth x1)
  (InI64 (x1 - depth) ∧ ∀ g8 : G, Ex g g8 →
  ∃ wo1 : World, Sem.run Tryz.prog (Instr.mapUpdate 116 (.map m) (.int .i64 (x1 - depth)) (.bool true)) g8.w = .ok () wo1 ∧ ∃ g9 : G, g9.w = wo1 ∧ Stp g.w.heap.size M g8 g9 ∧ J g9)
  (∀ g10 : G, Ex g g10 →
  J g10))
  (∀ g11 : G, Ex g g11 →
  J g11)
theorem F62_eq (m : Option Nat) (x0 : Int) (x1 : Int) (x2 : ByteArray) (x3a : Option Addr) (x3l : Nat) (x3c : Nat) (depth : Int) (g : G) (M : Nat → Prop) (R : Value → G → Prop) : fnG cfg62 42 [] c62 an62 [(.map m), (.agg ⟨[(.int .i64 x0), (.int .i64 x1), (.string x2), (.slice x3a x3l x3c)]⟩), (.int .i64 depth)] g M R = F62 m x0 x1 x2 x3a x3l x3c depth g M R := by kernel_rfl
theorem call62 (m : Option Nat) (x0 : Int) (x1 : Int) (x2 : ByteArray) (x3a : Option Addr) (x3l : Nat) (x3c : Nat) (depth : Int) (g : G) (M : Nat → Prop) (R : Value → G → Prop) (hF : F62 m x0 x1 x2 x3a x3l x3c depth g M R) : CallsG Tryz.prog 62 #[(.map m), (.agg ⟨[(.int .i64 x0), (.int .i64 x1), (.string x2), (.slice x3a x3l x3c)]⟩), (.int .i64 depth)] g M R :=
  fn_soundG (c := cfg62) TTok FNSok mixed Tryz.func62 (show Tryz.f62.body = some c62 by kernel_rfl) (show Tryz.f62.ntmps = 42 by kernel_rfl) (show Tryz.f62.results.toList = [] by kernel_rfl) rfl ((F62_eq m x0 x1 x2 x3a x3l x3c depth g M R ).mpr hF)
noncomputable def c64 : Code := match Tryz.f64.body with
  | some c => c
  | none => .skip
noncomputable def cfg64 : Cfg := ⟨Tryz.prog, TT, FNS, [2, 4], [(2, 2), (4, 4), (5, 2), (7, 2)], [], TCH, false, false, none, PNF, false⟩
def an64 : AnnG := (.seq .leaf (.seq .leaf .leaf))
def F64 (s0a : Option Addr) (s0l : Nat) (s0c : Nat) (s1 : Int) (n : Int) (g : G) (R : Value → G → Prop) : Prop :=
  InI64 (((s0l : Nat) : Int) - (1 : Int)) ∧ InI64 ((((s0l : Nat) : Int) - (1 : Int)) - n) ∧ (0 ≤ ((((s0l : Nat) : Int) - (1 : Int)) - n) ∧ ((((s0l : Nat) : Int) - (1 : Int)) - n) < ((s0l : Nat) : Int)) ∧ derefP s0a fun ad => ∀ g1 : G, Ex g g1 →
  ∃ (x0 x1 : Int) (x2 : ByteArray) (x3a : Option Addr) (x3l x3c : Nat), g1.w.cell? (Addr.add ad (Int.toNat ((((s0l : Nat) : Int) - (1 : Int)) - n) * 4)) = some (.int .i64 x0) ∧ g1.w.cell? (Addr.add (Addr.add ad (Int.toNat ((((s0l : Nat) : Int) - (1 : Int)) - n) * 4)) 1) = some (.int .i64 x1) ∧ g1.w.cell? (Addr.add (Addr.add ad (Int.toNat ((((s0l : Nat) : Int) - (1 : Int)) - n) * 4)) 2) = some (.string x2) ∧ g1.w.cell? (Addr.add (Addr.add ad (Int.toNat ((((s0l : Nat) : Int) - (1 : Int)) - n) * 4)) 3) = some (.slice x3a x3l x3c) ∧ ∀ g2 : G, Ex g1 g2 →
  R (.agg ⟨[(.int .i64 x0), (.int .i64 x1), (.string x2), (.slice x3a x3l x3c)]⟩) g2
theorem F64_eq (s0a : Option Addr) (s0l : Nat) (s0c : Nat) (s1 : Int) (n : Int) (g : G) (R : Value → G → Prop) : fnG cfg64 15 [.cell 4 44] c64 an64 [(.agg ⟨[(.slice s0a s0l s0c), (.int .i64 s1)]⟩), (.int .i64 n)] g nobody R = F64 s0a s0l s0c s1 n g R := by kernel_rfl
theorem call64 (s0a : Option Addr) (s0l : Nat) (s0c : Nat) (s1 : Int) (n : Int) (g : G) (R : Value → G → Prop) (hF : F64 s0a s0l s0c s1 n g R) : CallsG Tryz.prog 64 #[(.agg ⟨[(.slice s0a s0l s0c), (.int .i64 s1)]⟩), (.int .i64 n)] g nobody R :=
  fn_soundG (c := cfg64) TTok FNSok mixed Tryz.func64 (show Tryz.f64.body = some c64 by kernel_rfl) (show Tryz.f64.ntmps = 15 by kernel_rfl) (show Tryz.f64.results.toList = [.cell 4 44] by kernel_rfl) rfl ((F64_eq s0a s0l s0c s1 n g R ).mpr hF)
end Go.Proofs.YthlcdgpemjdgnaaGreatDoor
