/- Printed by a program (wip/tools/gen2.py): for each function its condition as a plain formula, and that the formula gives the call. -/
import Derived.Test.YthlcdgpemjdgnaaProg
import Derived.Test.YthlcdgpemjdgnaaVda
namespace Go.Proofs.Ythlcdgpemjdgnaa
open Go Go.Vc Go.RowKit
set_option maxRecDepth 100000
set_option linter.unusedVariables false
def TT : List TI := [
  ⟨0, .tuple #[], 1, 0, some (.tuple ⟨[]⟩), (.tup [])⟩,
  ⟨3, .int .i64, 1, 8, some (.int .i64 (0 : Int)), (.e (.one (.int .i64)))⟩,
  ⟨4, .bool, 1, 1, some (.bool false), (.e (.one (.bool)))⟩,
  ⟨9, .string, 1, 16, some (.string (bs [])), (.e (.one (.str)))⟩,
  ⟨22, .slice 24, 1, 24, some (.slice none 0 0), (.e (.one (.sl)))⟩,
  ⟨24, .struct #[{ name := "Op", type := 3, offset := 0, embedded := false, tag := "", pkgPath := "", byteOffset := 0 }, { name := "N", type := 3, offset := 1, embedded := false, tag := "", pkgPath := "", byteOffset := 8 }, { name := "S", type := 9, offset := 2, embedded := false, tag := "", pkgPath := "", byteOffset := 16 }, { name := "L", type := 22, offset := 3, embedded := false, tag := "", pkgPath := "", byteOffset := 32 }], 4, 56, some (.agg ⟨[(.int .i64 (0 : Int)), (.int .i64 (0 : Int)), (.string (bs [])), (.slice none 0 0)]⟩), (.e (.agg [(.int .i64), (.int .i64), (.str), (.sl)]))⟩,
  ⟨27, .slice 38, 1, 24, some (.slice none 0 0), (.e (.one (.sl)))⟩,
  ⟨28, .int .i64, 1, 8, some (.int .i64 (0 : Int)), (.e (.one (.int .i64)))⟩,
  ⟨29, .tuple #[27, 3, 28], 1, 0, some (.tuple ⟨[(.slice none 0 0), (.int .i64 (0 : Int)), (.int .i64 (0 : Int))]⟩), (.tup [(.one (.sl)), (.one (.int .i64)), (.one (.int .i64))])⟩,
  ⟨31, .slice 3, 1, 24, some (.slice none 0 0), (.e (.one (.sl)))⟩,
  ⟨38, .struct #[{ name := "Captures", type := 3, offset := 0, embedded := false, tag := "", pkgPath := "", byteOffset := 0 }, { name := "Body", type := 24, offset := 1, embedded := false, tag := "", pkgPath := "", byteOffset := 8 }], 5, 64, some (.agg ⟨[(.int .i64 (0 : Int)), (.int .i64 (0 : Int)), (.int .i64 (0 : Int)), (.string (bs [])), (.slice none 0 0)]⟩), (.e (.agg [(.int .i64), (.int .i64), (.int .i64), (.str), (.sl)]))⟩,
  ⟨39, .tuple #[31, 28], 1, 0, some (.tuple ⟨[(.slice none 0 0), (.int .i64 (0 : Int))]⟩), (.tup [(.one (.sl)), (.one (.int .i64))])⟩,
  ⟨41, .tuple #[3, 28], 1, 0, some (.tuple ⟨[(.int .i64 (0 : Int)), (.int .i64 (0 : Int))]⟩), (.tup [(.one (.int .i64)), (.one (.int .i64))])⟩,
  ⟨44, .pointer 46, 1, 8, some (.pointer none), (.e (.one (.ptr)))⟩,
  ⟨46, .struct #[{ name := "l", type := 27, offset := 0, embedded := false, tag := "", pkgPath := "pilaster/closure", byteOffset := 0 }, { name := "full", type := 4, offset := 1, embedded := false, tag := "", pkgPath := "pilaster/closure", byteOffset := 24 }], 2, 32, some (.agg ⟨[(.slice none 0 0), (.bool false)]⟩), (.e (.agg [(.sl), (.bool)]))⟩,
  ⟨49, .struct #[{ name := "places", type := 22, offset := 0, embedded := false, tag := "", pkgPath := "pilaster/closure", byteOffset := 0 }, { name := "locals", type := 3, offset := 1, embedded := false, tag := "", pkgPath := "pilaster/closure", byteOffset := 24 }], 2, 32, some (.agg ⟨[(.slice none 0 0), (.int .i64 (0 : Int))]⟩), (.e (.agg [(.sl), (.int .i64)]))⟩,
  ⟨51, .func #[38] #[4] false, 1, 8, some .nilFunc, (.e (.one (.fn)))⟩,
  ⟨55, .struct #[{ name := "l", type := 27, offset := 0, embedded := false, tag := "", pkgPath := "pilaster/pilasterref45", byteOffset := 0 }], 1, 24, some (.agg ⟨[(.slice none 0 0)]⟩), (.e (.agg [(.sl)]))⟩,
  ⟨56, .tuple #[24, 55], 1, 0, some (.tuple ⟨[(.agg ⟨[(.int .i64 (0 : Int)), (.int .i64 (0 : Int)), (.string (bs [])), (.slice none 0 0)]⟩), (.agg ⟨[(.slice none 0 0)]⟩)]⟩), (.tup [(.agg [(.int .i64), (.int .i64), (.str), (.sl)]), (.agg [(.sl)])])⟩,
  ⟨58, .map 3 3, 1, 8, some (.map none), (.e (.one (.map)))⟩,
  ⟨60, .tuple #[3, 4], 1, 0, some (.tuple ⟨[(.int .i64 (0 : Int)), (.bool false)]⟩), (.tup [(.one (.int .i64)), (.one (.bool))])⟩,
  ⟨62, .func #[3, 3] #[4] false, 1, 8, some .nilFunc, (.e (.one (.fn)))⟩,
  ⟨64, .map 3 4, 1, 8, some (.map none), (.e (.one (.map)))⟩,
  ⟨70, .tuple #[3, 3], 1, 0, some (.tuple ⟨[(.int .i64 (0 : Int)), (.int .i64 (0 : Int))]⟩), (.tup [(.one (.int .i64)), (.one (.int .i64))])⟩,
  ⟨77, .pointer 79, 1, 8, some (.pointer none), (.e (.one (.ptr)))⟩,
  ⟨79, .struct #[{ name := "captures", type := 3, offset := 0, embedded := false, tag := "", pkgPath := "pilaster/closure", byteOffset := 0 }, { name := "closures", type := 62, offset := 1, embedded := false, tag := "", pkgPath := "pilaster/closure", byteOffset := 8 }], 2, 16, some (.agg ⟨[(.int .i64 (0 : Int)), .nilFunc]⟩), (.e (.agg [(.int .i64), (.fn)]))⟩]
theorem TTok : TOk Try.prog TT := tok_of (by kernel_rfl)
def FNS : List Nat := [5, 6, 7, 8, 9, 10, 11, 12, 13, 14, 15, 16, 17, 18, 19, 21, 22, 23, 24, 25, 26, 28, 29, 30, 31, 32, 33, 34, 35, 36, 37, 38, 39, 40, 41, 42, 43, 44, 45, 46, 47, 48, 51, 52, 53, 54, 55, 67, 68, 69]
theorem FNSok : FOk Try.prog FNS := fok_of (by kernel_rfl)
theorem mixed : Try.prog.follows .mixedOrders = true := by kernel_rfl
def TCH : List Nat := [18, 25, 26, 27, 31, 32, 34, 43, 46, 54]
def PNF : List Nat := []

/- 3 pilaster/pilasterlaw45.ClosureConverts -/
noncomputable def c3 : Code := match Try.f3.body with
  | some c => c
  | none => .skip
noncomputable def cfg3 : Cfg := ⟨Try.prog, TT, FNS, [1], [(1, 1)], [], TCH, false, false, none, PNF, false⟩
def an3 : AnnG := (.seq .leaf (.join ⟨[], [], []⟩ (.seq .leaf (.cond (.seq .leaf .leaf) .leaf)) (.seq .leaf (.seq (.join ⟨[(28, .bool)], [], []⟩ .leaf (.cond (.seq .leaf .leaf) .leaf)) (.seq .leaf .leaf)))))
def F3 (x0 : Int) (x1 : Int) (x2 : ByteArray) (x3a : Option Addr) (x3l : Nat) (x3c : Nat) (g : G) (R : Value → G → Prop) : Prop :=
  ∀ J : G → Prop,
  (∀ g1 : G, ((CallsP Try.prog 7 #[(.agg ⟨[(.int .i64 x0), (.int .i64 x1), (.string x2), (.slice x3a x3l x3c)]⟩)] g1 fun v g2 =>
  ∃ x0a : Option Addr, ∃ x0l : Nat, ∃ x0c : Nat, ∃ x1_1 : Int, ∃ x2_1 : Int, v = (.tuple ⟨[(.slice x0a x0l x0c), (.int .i64 x1_1), (.int .i64 x2_1)]⟩) ∧ ∀ J_1 : Bool → G → Prop,
  (∀ v_1 : Bool, ∀ g3 : G, (ifB v_1
  (ifB (eqI ((x0l : Nat) : Int) (0 : Int))
  (ifB (eqI x1_1 (0 : Int))
  (∀ g4 : G, Ex g3 g4 →
  R (.bool (eqI x2_1 (1 : Int))) g4)
  (∀ g5 : G, Ex g3 g5 →
  R (.bool false) g5))
  (∀ g6 : G, Ex g3 g6 →
  R (.bool false) g6))
  ((CallsP Try.prog 11 #[(.agg ⟨[(.int .i64 x0), (.int .i64 x1), (.string x2), (.slice x3a x3l x3c)]⟩)] g3 fun v g7 =>
  ∃ xa : Option Addr, ∃ xl : Nat, ∃ xc : Nat, v = (.slice xa xl xc) ∧ (CallsP Try.prog 10 #[(.slice x0a x0l x0c), (.slice xa xl xc)] g7 fun v g8 =>
  ∃ x : Bool, v = (.bool x) ∧ ifB x
  (ifB (eqI x1_1 (0 : Int))
  (∀ g9 : G, Ex g8 g9 →
  R (.bool (eqI x2_1 (0 : Int))) g9)
  (∀ g10 : G, Ex g8 g10 →
  R (.bool false) g10))
  (∀ g11 : G, Ex g8 g11 →
  R (.bool false) g11))))) → J_1 v_1 g3) →
  (CallsP Try.prog 8 #[(.agg ⟨[(.int .i64 x0), (.int .i64 x1), (.string x2), (.slice x3a x3l x3c)]⟩)] g2 fun v g12 =>
  ∃ x_1 : Bool, v = (.bool x_1) ∧ ifB (!x_1)
  (J_1 true g12)
  ((CallsP Try.prog 9 #[(.agg ⟨[(.int .i64 x0), (.int .i64 x1), (.string x2), (.slice x3a x3l x3c)]⟩)] g12 fun v g13 =>
  ∃ xa_1 : Option Addr, ∃ xl_1 : Nat, ∃ xc_1 : Nat, v = (.slice xa_1 xl_1 xc_1) ∧ J_1 (ltI (0 : Int) ((xl_1 : Nat) : Int)) g13))))) → J g1) →
  ∀ g14 : G, Ex g g14 →
  (CallsP Try.prog 5 #[] g14 fun v g15 =>
  ∃ x_2 : Bool, v = (.bool x_2) ∧ ifB (!x_2)
  ((CallsP Try.prog 5 #[] g15 fun v g16 =>
  ∃ x_3 : Bool, v = (.bool x_3) ∧ ∀ g17 : G, Ex g16 g17 →
  R (.bool x_3) g17))
  ((CallsP Try.prog 6 #[(.agg ⟨[(.int .i64 x0), (.int .i64 x1), (.string x2), (.slice x3a x3l x3c)]⟩)] g15 fun v g18 =>
  ∃ x_4 : Bool, v = (.bool x_4) ∧ ifB (!x_4)
  ((CallsP Try.prog 5 #[] g18 fun v g19 =>
  ∃ x_5 : Bool, v = (.bool x_5) ∧ ∀ g20 : G, Ex g19 g20 →
  R (.bool x_5) g20))
  (J g18))))
theorem F3_eq (x0 : Int) (x1 : Int) (x2 : ByteArray) (x3a : Option Addr) (x3l : Nat) (x3c : Nat) (g : G) (R : Value → G → Prop) : fnG cfg3 52 [.tmp 2] c3 an3 [(.agg ⟨[(.int .i64 x0), (.int .i64 x1), (.string x2), (.slice x3a x3l x3c)]⟩)] g nobody R = F3 x0 x1 x2 x3a x3l x3c g R := by kernel_rfl
theorem call3 (x0 : Int) (x1 : Int) (x2 : ByteArray) (x3a : Option Addr) (x3l : Nat) (x3c : Nat) (g : G) (R : Value → G → Prop) (hF : F3 x0 x1 x2 x3a x3l x3c g R) : CallsG Try.prog 3 #[(.agg ⟨[(.int .i64 x0), (.int .i64 x1), (.string x2), (.slice x3a x3l x3c)]⟩)] g nobody R :=
  fn_soundG (c := cfg3) TTok FNSok mixed Try.func3 (show Try.f3.body = some c3 by kernel_rfl) (show Try.f3.ntmps = 52 by kernel_rfl) (show Try.f3.results.toList = [.tmp 2] by kernel_rfl) rfl ((F3_eq x0 x1 x2 x3a x3l x3c g R ).mpr hF)

/- 4 pilaster/pilasterlaw45.ClosureCounts -/
noncomputable def c4 : Code := match Try.f4.body with
  | some c => c
  | none => .skip
noncomputable def cfg4 : Cfg := ⟨Try.prog, TT, FNS, [1, 8], [(1, 1), (8, 8)], [], TCH, false, false, none, PNF, false⟩
def an4 : AnnG := (.seq .leaf (.join ⟨[], [], []⟩ (.seq .leaf (.cond (.seq .leaf .leaf) .leaf)) (.seq .leaf (.seq .leaf (.join ⟨[], [], []⟩ (.seq .leaf (.cond (.seq .leaf .leaf) .leaf)) (.seq (.seq .leaf (.blk (.loop ⟨[(59, .int .i64)], [], []⟩ (.seq .leaf (.seq (.cond .leaf .leaf) (.join ⟨[], [], []⟩ (.blk (.seq .leaf (.seq .leaf (.seq .leaf (.seq .leaf (.cond (.seq .leaf .leaf) .leaf)))))) .leaf)))))) (.seq .leaf .leaf)))))))
def F4 (x0 : Int) (x1 : Int) (x2 : ByteArray) (x3a : Option Addr) (x3l : Nat) (x3c : Nat) (g : G) (R : Value → G → Prop) : Prop :=
  ∀ J : G → Prop,
  (∀ g1 : G, ((CallsP Try.prog 7 #[(.agg ⟨[(.int .i64 x0), (.int .i64 x1), (.string x2), (.slice x3a x3l x3c)]⟩)] g1 fun v g2 =>
  ∃ x0a : Option Addr, ∃ x0l : Nat, ∃ x0c : Nat, ∃ x1_1 : Int, ∃ x2_1 : Int, v = (.tuple ⟨[(.slice x0a x0l x0c), (.int .i64 x1_1), (.int .i64 x2_1)]⟩) ∧ (CallsP Try.prog 13 #[(.agg ⟨[(.int .i64 x0), (.int .i64 x1), (.string x2), (.slice x3a x3l x3c)]⟩), (.bool false)] g2 fun v g3 =>
  ∃ funsa : Option Addr, ∃ funsl : Nat, ∃ funsc : Nat, v = (.slice funsa funsl funsc) ∧ ∀ J_1 : G → Prop,
  (∀ g4 : G, (∃ Inv : Nat → Int → G → Prop, ((∃ m0 : Nat, Inv m0 (0 : Int) g4)) ∧
  ∀ m : Nat, ∀ v_1 : Int, ∀ g5 : G, Le g4 g5 → Inv m v_1 g5 →
  ifB (ltI v_1 ((funsl : Nat) : Int))
  (∀ J_2 : G → Prop,
  (∀ g6 : G, (InI64 (v_1 + (1 : Int)) ∧ (∃ m_1 : Nat, m_1 < m ∧ Inv m_1 (v_1 + (1 : Int)) g6)) → J_2 g6) →
  (0 ≤ v_1 ∧ v_1 < ((funsl : Nat) : Int)) ∧ derefP funsa fun ad => ∃ x0_1 : Int, ∃ x1_2 : Int, ∃ x2_2 : ByteArray, ∃ x3a_1 : Option Addr, ∃ x3l_1 : Nat, ∃ x3c_1 : Nat, g5.w.cell? (Addr.add ad (Int.toNat v_1 * 4)) = some (.int .i64 x0_1) ∧ g5.w.cell? (Addr.add (Addr.add ad (Int.toNat v_1 * 4)) 1) = some (.int .i64 x1_2) ∧ g5.w.cell? (Addr.add (Addr.add ad (Int.toNat v_1 * 4)) 2) = some (.string x2_2) ∧ g5.w.cell? (Addr.add (Addr.add ad (Int.toNat v_1 * 4)) 3) = some (.slice x3a_1 x3l_1 x3c_1) ∧ ∀ g7 : G, Ex g5 g7 →
  (CallsP Try.prog 14 #[(.agg ⟨[(.int .i64 x0_1), (.int .i64 x1_2), (.string x2_2), (.slice x3a_1 x3l_1 x3c_1)]⟩)] g7 fun v g8 =>
  ∃ x0a_1 : Option Addr, ∃ x0l_1 : Nat, ∃ x0c_1 : Nat, ∃ x1_3 : Int, v = (.tuple ⟨[(.slice x0a_1 x0l_1 x0c_1), (.int .i64 x1_3)]⟩) ∧ InI64 (v_1 + (1 : Int)) ∧ (0 ≤ (v_1 + (1 : Int)) ∧ (v_1 + (1 : Int)) < ((x0l : Nat) : Int)) ∧ derefP x0a fun ad_1 => ∃ x0_2 : Int, ∃ x1_4 : Int, ∃ x2_3 : Int, ∃ x3 : ByteArray, ∃ x4a : Option Addr, ∃ x4l : Nat, ∃ x4c : Nat, g8.w.cell? (Addr.add ad_1 (Int.toNat (v_1 + (1 : Int)) * 5)) = some (.int .i64 x0_2) ∧ g8.w.cell? (Addr.add (Addr.add ad_1 (Int.toNat (v_1 + (1 : Int)) * 5)) 1) = some (.int .i64 x1_4) ∧ g8.w.cell? (Addr.add (Addr.add ad_1 (Int.toNat (v_1 + (1 : Int)) * 5)) 2) = some (.int .i64 x2_3) ∧ g8.w.cell? (Addr.add (Addr.add ad_1 (Int.toNat (v_1 + (1 : Int)) * 5)) 3) = some (.string x3) ∧ g8.w.cell? (Addr.add (Addr.add ad_1 (Int.toNat (v_1 + (1 : Int)) * 5)) 4) = some (.slice x4a x4l x4c) ∧ (CallsP Try.prog 15 #[(.agg ⟨[(.int .i64 x0_2), (.int .i64 x1_4), (.int .i64 x2_3), (.string x3), (.slice x4a x4l x4c)]⟩)] g8 fun v g9 =>
  ∃ x0_3 : Int, ∃ x1_5 : Int, v = (.tuple ⟨[(.int .i64 x0_3), (.int .i64 x1_5)]⟩) ∧ ifB (!eqI x1_3 (0 : Int))
  (∀ g10 : G, Ex g9 g10 →
  R (.bool false) g10)
  (ifB (!eqI x1_5 (0 : Int))
  (∀ g11 : G, Ex g9 g11 →
  R (.bool false) g11)
  (InI64 (v_1 + (1 : Int)) ∧ (0 ≤ (v_1 + (1 : Int)) ∧ (v_1 + (1 : Int)) < ((x0l : Nat) : Int)) ∧ derefP x0a fun ad_2 => ∃ x : Int, g9.w.cell? (Addr.add ad_2 (Int.toNat (v_1 + (1 : Int)) * 5)) = some (.int .i64 x) ∧ ifB (!eqI x ((x0l_1 : Nat) : Int))
  (∀ g12 : G, Ex g9 g12 →
  R (.bool false) g12)
  (ifB (ltI x0_3 (1 : Int))
  (∀ g13 : G, Ex g9 g13 →
  R (.bool false) g13)
  (ifB (ltI (200 : Int) x0_3)
  (∀ g14 : G, Ex g9 g14 →
  R (.bool false) g14)
  (J_2 g9))))))))
  (∀ g15 : G, Ex g5 g15 →
  R (.bool true) g15)) → J_1 g4) →
  ifB (!eqI x2_1 (0 : Int))
  (∀ g16 : G, Ex g3 g16 →
  R (.bool false) g16)
  (InI64 (((funsl : Nat) : Int) + (1 : Int)) ∧ ifB (!eqI ((x0l : Nat) : Int) (((funsl : Nat) : Int) + (1 : Int)))
  (∀ g17 : G, Ex g3 g17 →
  R (.bool false) g17)
  ((0 ≤ (0 : Int) ∧ (0 : Int) < ((x0l : Nat) : Int)) ∧ derefP x0a fun ad_3 => ∃ x_1 : Int, g3.w.cell? (Addr.add ad_3 (Int.toNat (0 : Int) * 5)) = some (.int .i64 x_1) ∧ ifB (!eqI x_1 (0 : Int))
  (∀ g18 : G, Ex g3 g18 →
  R (.bool false) g18)
  (J_1 g3)))))) → J g1) →
  ∀ g19 : G, Ex g g19 →
  (CallsP Try.prog 5 #[] g19 fun v g20 =>
  ∃ x_2 : Bool, v = (.bool x_2) ∧ ifB (!x_2)
  ((CallsP Try.prog 5 #[] g20 fun v g21 =>
  ∃ x_3 : Bool, v = (.bool x_3) ∧ ∀ g22 : G, Ex g21 g22 →
  R (.bool x_3) g22))
  ((CallsP Try.prog 12 #[(.agg ⟨[(.int .i64 x0), (.int .i64 x1), (.string x2), (.slice x3a x3l x3c)]⟩), (.int .i64 (200 : Int)), (.int .i64 (1 : Int))] g20 fun v g23 =>
  ∃ x_4 : Int, v = (.int .i64 x_4) ∧ ifB (leI (200 : Int) x_4)
  ((CallsP Try.prog 5 #[] g23 fun v g24 =>
  ∃ x_5 : Bool, v = (.bool x_5) ∧ ∀ g25 : G, Ex g24 g25 →
  R (.bool x_5) g25))
  ((CallsP Try.prog 8 #[(.agg ⟨[(.int .i64 x0), (.int .i64 x1), (.string x2), (.slice x3a x3l x3c)]⟩)] g23 fun v g26 =>
  ∃ x_6 : Bool, v = (.bool x_6) ∧ ifB (!x_6)
  ((CallsP Try.prog 5 #[] g26 fun v g27 =>
  ∃ x_7 : Bool, v = (.bool x_7) ∧ ∀ g28 : G, Ex g27 g28 →
  R (.bool x_7) g28))
  ((CallsP Try.prog 9 #[(.agg ⟨[(.int .i64 x0), (.int .i64 x1), (.string x2), (.slice x3a x3l x3c)]⟩)] g26 fun v g29 =>
  ∃ xa : Option Addr, ∃ xl : Nat, ∃ xc : Nat, v = (.slice xa xl xc) ∧ ifB (ltI (0 : Int) ((xl : Nat) : Int))
  ((CallsP Try.prog 5 #[] g29 fun v g30 =>
  ∃ x_8 : Bool, v = (.bool x_8) ∧ ∀ g31 : G, Ex g30 g31 →
  R (.bool x_8) g31))
  (J g29))))))))
theorem F4_eq (x0 : Int) (x1 : Int) (x2 : ByteArray) (x3a : Option Addr) (x3l : Nat) (x3c : Nat) (g : G) (R : Value → G → Prop) : fnG cfg4 104 [.tmp 2] c4 an4 [(.agg ⟨[(.int .i64 x0), (.int .i64 x1), (.string x2), (.slice x3a x3l x3c)]⟩)] g nobody R = F4 x0 x1 x2 x3a x3l x3c g R := by kernel_rfl
theorem call4 (x0 : Int) (x1 : Int) (x2 : ByteArray) (x3a : Option Addr) (x3l : Nat) (x3c : Nat) (g : G) (R : Value → G → Prop) (hF : F4 x0 x1 x2 x3a x3l x3c g R) : CallsG Try.prog 4 #[(.agg ⟨[(.int .i64 x0), (.int .i64 x1), (.string x2), (.slice x3a x3l x3c)]⟩)] g nobody R :=
  fn_soundG (c := cfg4) TTok FNSok mixed Try.func4 (show Try.f4.body = some c4 by kernel_rfl) (show Try.f4.ntmps = 104 by kernel_rfl) (show Try.f4.results.toList = [.tmp 2] by kernel_rfl) rfl ((F4_eq x0 x1 x2 x3a x3l x3c g R ).mpr hF)

/- 5 pilaster/pilasterlaw45.awake -/
noncomputable def c5 : Code := match Try.f5.body with
  | some c => c
  | none => .skip
noncomputable def cfg5 : Cfg := ⟨Try.prog, TT, FNS, [], [], [], TCH, false, false, none, PNF, false⟩
def an5 : AnnG := (.seq .leaf (.seq .leaf (.seq .leaf .leaf)))
def F5 (g : G) (R : Value → G → Prop) : Prop :=
  (CallsP Try.prog 16 #[(.int .i64 (1 : Int)), (.int .i64 (1 : Int)), (.slice none 0 0)] g fun v g1 =>
  ∃ x0 : Int, ∃ x1 : Int, ∃ x2 : ByteArray, ∃ x3a : Option Addr, ∃ x3l : Nat, ∃ x3c : Nat, v = (.agg ⟨[(.int .i64 x0), (.int .i64 x1), (.string x2), (.slice x3a x3l x3c)]⟩) ∧ ∀ g2 : G, NewL g1 g2 24 [(.int .i64 x0), (.int .i64 x1), (.string x2), (.slice x3a x3l x3c)] →
  (CallsP Try.prog 16 #[(.int .i64 (4 : Int)), (.int .i64 (0 : Int)), (.slice (some ⟨g1.w.heap.size, 0, none⟩) 1 1)] g2 fun v g3 =>
  ∃ x0_1 : Int, ∃ x1_1 : Int, ∃ x2_1 : ByteArray, ∃ x3a_1 : Option Addr, ∃ x3l_1 : Nat, ∃ x3c_1 : Nat, v = (.agg ⟨[(.int .i64 x0_1), (.int .i64 x1_1), (.string x2_1), (.slice x3a_1 x3l_1 x3c_1)]⟩) ∧ ∀ g4 : G, NewL g3 g4 24 [(.int .i64 x0_1), (.int .i64 x1_1), (.string x2_1), (.slice x3a_1 x3l_1 x3c_1)] →
  (CallsP Try.prog 16 #[(.int .i64 (4 : Int)), (.int .i64 (0 : Int)), (.slice (some ⟨g3.w.heap.size, 0, none⟩) 1 1)] g4 fun v g5 =>
  ∃ x0_2 : Int, ∃ x1_2 : Int, ∃ x2_2 : ByteArray, ∃ x3a_2 : Option Addr, ∃ x3l_2 : Nat, ∃ x3c_2 : Nat, v = (.agg ⟨[(.int .i64 x0_2), (.int .i64 x1_2), (.string x2_2), (.slice x3a_2 x3l_2 x3c_2)]⟩) ∧ (CallsP Try.prog 7 #[(.agg ⟨[(.int .i64 x0_2), (.int .i64 x1_2), (.string x2_2), (.slice x3a_2 x3l_2 x3c_2)]⟩)] g5 fun v g6 =>
  ∃ x0a : Option Addr, ∃ x0l : Nat, ∃ x0c : Nat, ∃ x1_3 : Int, ∃ x2_3 : Int, v = (.tuple ⟨[(.slice x0a x0l x0c), (.int .i64 x1_3), (.int .i64 x2_3)]⟩) ∧ ifB (eqI x2_3 (0 : Int))
  (ifB (eqI x1_3 (0 : Int))
  ((CallsP Try.prog 16 #[(.int .i64 (24 : Int)), (.int .i64 (1 : Int)), (.slice none 0 0)] g6 fun v g7 =>
  ∃ x0_3 : Int, ∃ x1_4 : Int, ∃ x2_4 : ByteArray, ∃ x3a_3 : Option Addr, ∃ x3l_3 : Nat, ∃ x3c_3 : Nat, v = (.agg ⟨[(.int .i64 x0_3), (.int .i64 x1_4), (.string x2_4), (.slice x3a_3 x3l_3 x3c_3)]⟩) ∧ (CallsP Try.prog 16 #[(.int .i64 (21 : Int)), (.int .i64 (0 : Int)), (.slice none 0 0)] g7 fun v g8 =>
  ∃ x0_4 : Int, ∃ x1_5 : Int, ∃ x2_5 : ByteArray, ∃ x3a_4 : Option Addr, ∃ x3l_4 : Nat, ∃ x3c_4 : Nat, v = (.agg ⟨[(.int .i64 x0_4), (.int .i64 x1_5), (.string x2_5), (.slice x3a_4 x3l_4 x3c_4)]⟩) ∧ ∀ g9 : G, NewL g8 g9 24 [(.int .i64 x0_4), (.int .i64 x1_5), (.string x2_5), (.slice x3a_4 x3l_4 x3c_4)] →
  (CallsP Try.prog 16 #[(.int .i64 (24 : Int)), (.int .i64 (2 : Int)), (.slice (some ⟨g8.w.heap.size, 0, none⟩) 1 1)] g9 fun v g10 =>
  ∃ x0_5 : Int, ∃ x1_6 : Int, ∃ x2_6 : ByteArray, ∃ x3a_5 : Option Addr, ∃ x3l_5 : Nat, ∃ x3c_5 : Nat, v = (.agg ⟨[(.int .i64 x0_5), (.int .i64 x1_6), (.string x2_6), (.slice x3a_5 x3l_5 x3c_5)]⟩) ∧ (CallsP Try.prog 16 #[(.int .i64 (23 : Int)), (.int .i64 (0 : Int)), (.slice none 0 0)] g10 fun v g11 =>
  ∃ x0_6 : Int, ∃ x1_7 : Int, ∃ x2_7 : ByteArray, ∃ x3a_6 : Option Addr, ∃ x3l_6 : Nat, ∃ x3c_6 : Nat, v = (.agg ⟨[(.int .i64 x0_6), (.int .i64 x1_7), (.string x2_7), (.slice x3a_6 x3l_6 x3c_6)]⟩) ∧ ∀ g12 : G, NewL g11 g12 38 [(.int .i64 (0 : Int)), (.int .i64 x0_3), (.int .i64 x1_4), (.string x2_4), (.slice x3a_3 x3l_3 x3c_3), (.int .i64 (0 : Int)), (.int .i64 x0_5), (.int .i64 x1_6), (.string x2_6), (.slice x3a_5 x3l_5 x3c_5), (.int .i64 (1 : Int)), (.int .i64 x0_6), (.int .i64 x1_7), (.string x2_7), (.slice x3a_6 x3l_6 x3c_6)] →
  (CallsP Try.prog 10 #[(.slice x0a x0l x0c), (.slice (some ⟨g11.w.heap.size, 0, none⟩) 3 3)] g12 fun v g13 =>
  ∃ x : Bool, v = (.bool x) ∧ ∀ g14 : G, Ex g13 g14 →
  R (.bool x) g14))))))
  (∀ g15 : G, Ex g6 g15 →
  R (.bool false) g15))
  (∀ g16 : G, Ex g6 g16 →
  R (.bool false) g16)))))
theorem F5_eq (g : G) (R : Value → G → Prop) : fnG cfg5 33 [.tmp 0] c5 an5 [] g nobody R = F5 g R := by kernel_rfl
theorem call5 (g : G) (R : Value → G → Prop) (hF : F5 g R) : CallsG Try.prog 5 #[] g nobody R :=
  fn_soundG (c := cfg5) TTok FNSok mixed Try.func5 (show Try.f5.body = some c5 by kernel_rfl) (show Try.f5.ntmps = 33 by kernel_rfl) (show Try.f5.results.toList = [.tmp 0] by kernel_rfl) rfl ((F5_eq g R ).mpr hF)

/- 6 pilaster/pilasterlaw45.light -/
noncomputable def c6 : Code := match Try.f6.body with
  | some c => c
  | none => .skip
noncomputable def cfg6 : Cfg := ⟨Try.prog, TT, FNS, [1], [(1, 1)], [], TCH, false, false, none, PNF, false⟩
def an6 : AnnG := (.seq .leaf (.seq .leaf (.seq .leaf .leaf)))
def F6 (x0 : Int) (x1 : Int) (x2 : ByteArray) (x3a : Option Addr) (x3l : Nat) (x3c : Nat) (g : G) (R : Value → G → Prop) : Prop :=
  ∀ g1 : G, Ex g g1 →
  (CallsP Try.prog 12 #[(.agg ⟨[(.int .i64 x0), (.int .i64 x1), (.string x2), (.slice x3a x3l x3c)]⟩), (.int .i64 (4400 : Int)), (.int .i64 (1 : Int))] g1 fun v g2 =>
  ∃ n : Int, v = (.int .i64 n) ∧ ifB (ltI n (200 : Int))
  (∀ g3 : G, Ex g2 g3 →
  R (.bool true) g3)
  (ifB (ltI (20000 : Int) n)
  (∀ g4 : G, Ex g2 g4 →
  R (.bool (ltI n (4400 : Int))) g4)
  (∀ g5 : G, Ex g2 g5 →
  R (.bool false) g5)))
theorem F6_eq (x0 : Int) (x1 : Int) (x2 : ByteArray) (x3a : Option Addr) (x3l : Nat) (x3c : Nat) (g : G) (R : Value → G → Prop) : fnG cfg6 16 [.tmp 2] c6 an6 [(.agg ⟨[(.int .i64 x0), (.int .i64 x1), (.string x2), (.slice x3a x3l x3c)]⟩)] g nobody R = F6 x0 x1 x2 x3a x3l x3c g R := by kernel_rfl
theorem call6 (x0 : Int) (x1 : Int) (x2 : ByteArray) (x3a : Option Addr) (x3l : Nat) (x3c : Nat) (g : G) (R : Value → G → Prop) (hF : F6 x0 x1 x2 x3a x3l x3c g R) : CallsG Try.prog 6 #[(.agg ⟨[(.int .i64 x0), (.int .i64 x1), (.string x2), (.slice x3a x3l x3c)]⟩)] g nobody R :=
  fn_soundG (c := cfg6) TTok FNSok mixed Try.func6 (show Try.f6.body = some c6 by kernel_rfl) (show Try.f6.ntmps = 16 by kernel_rfl) (show Try.f6.results.toList = [.tmp 2] by kernel_rfl) rfl ((F6_eq x0 x1 x2 x3a x3l x3c g R ).mpr hF)

/- 7 pilaster/closure.Convert -/
noncomputable def c7 : Code := match Try.f7.body with
  | some c => c
  | none => .skip
noncomputable def cfg7 : Cfg := ⟨Try.prog, TT, FNS, [1, 8], [(1, 1), (8, 8)], [22], TCH, false, false, none, PNF, false⟩
def an7 : AnnG := (.seq .leaf (.seq .leaf (.join ⟨[], [], []⟩ (.seq .leaf (.cond (.seq .leaf .leaf) .leaf)) (.seq .leaf (.seq .leaf (.join ⟨[], [], []⟩ (.seq .leaf (.cond (.seq .leaf .leaf) .leaf)) (.seq (.tree 5 (.quiet 0 (.quiet 1 (.quiet 2 (.quiet 3 (.quiet 4 .fin)))))) (.seq (.seq .leaf (.cond (.seq .leaf .leaf) .leaf)) (.seq .leaf .leaf)))))))))
def F7 (x0 : Int) (x1 : Int) (x2 : ByteArray) (x3a : Option Addr) (x3l : Nat) (x3c : Nat) (g : G) (R : Value → G → Prop) : Prop :=
  ∀ g1 : G, Ex g g1 →
  (CallsP Try.prog 17 #[(.agg ⟨[(.int .i64 x0), (.int .i64 x1), (.string x2), (.slice x3a x3l x3c)]⟩)] g1 fun v g2 =>
  ∃ x0a : Option Addr, ∃ x0l : Nat, ∃ x0c : Nat, ∃ x1_1 : Int, v = (.tuple ⟨[(.slice x0a x0l x0c), (.int .i64 x1_1)]⟩) ∧ ∀ J : G → Prop,
  (∀ g3 : G, (∀ g4 : G, NewD g3 g4 38 [(.int .i64 (0 : Int)), (.int .i64 (0 : Int)), (.int .i64 (0 : Int)), (.string (bs [])), (.slice none 0 0)] →
  ∀ g5 : G, NewD g4 g5 46 ([(.slice (some ⟨g3.w.heap.size, 0, none⟩) 1 1), (.bool false)] : List Value) →
  ∃ M1 : Nat → Prop, (∀ b, b < g.w.heap.size → M1 b → nobody b) ∧ (CallsG Try.prog 18 #[(.pointer (some ⟨g4.w.heap.size, 0, none⟩)), (.agg ⟨[(.int .i64 x0), (.int .i64 x1), (.string x2), (.slice x3a x3l x3c)]⟩), (.agg ⟨[(.slice none 0 0), (.int .i64 (1 : Int))]⟩)] g5 M1 fun v g6 =>
  ∃ x0_1 : Int, ∃ x1_2 : Int, ∃ x2_1 : ByteArray, ∃ x3a_1 : Option Addr, ∃ x3l_1 : Nat, ∃ x3c_1 : Nat, v = (.agg ⟨[(.int .i64 x0_1), (.int .i64 x1_2), (.string x2_1), (.slice x3a_1 x3l_1 x3c_1)]⟩) ∧ ∀ J_1 : G → Prop,
  (∀ g7 : G, (∀ g8 : G, Ex g7 g8 →
  ∃ xa : Option Addr, ∃ xl : Nat, ∃ xc : Nat, g8.w.cell? ⟨g4.w.heap.size, 0, none⟩ = some (.slice xa xl xc) ∧ (0 ≤ (0 : Int) ∧ (0 : Int) < ((xl : Nat) : Int)) ∧ derefP xa fun ad => stOk g8.w (Addr.add (Addr.add ad (Int.toNat (0 : Int) * 5)) 1) 4 ∧ ¬ g8.X (Addr.block (Addr.add (Addr.add ad (Int.toNat (0 : Int) * 5)) 1)) ∧ mutAt g8 (Addr.add (Addr.add ad (Int.toNat (0 : Int) * 5)) 1) 4 ∧ ((Addr.block (Addr.add (Addr.add ad (Int.toNat (0 : Int) * 5)) 1)) < g.w.heap.size → nobody (Addr.block (Addr.add (Addr.add ad (Int.toNat (0 : Int) * 5)) 1))) ∧ ∀ g9 : G, StG false g8 (Addr.add (Addr.add ad (Int.toNat (0 : Int) * 5)) 1) [(.int .i64 x0_1), (.int .i64 x1_2), (.string x2_1), (.slice x3a_1 x3l_1 x3c_1)] g9 →
  ∃ xa_1 : Option Addr, ∃ xl_1 : Nat, ∃ xc_1 : Nat, g9.w.cell? ⟨g4.w.heap.size, 0, none⟩ = some (.slice xa_1 xl_1 xc_1) ∧ (CallsP Try.prog 19 #[(.slice xa_1 xl_1 xc_1), (.func (.func 20) #[] #[])] g9 fun v g10 =>
  ∃ x : Bool, v = (.bool x) ∧ ifB x
  (∀ g11 : G, Ex g10 g11 →
  R (.tuple ⟨[(.slice none 0 0), (.int .i64 (0 : Int)), (.int .i64 (5 : Int))]⟩) g11)
  (∃ xa_2 : Option Addr, ∃ xl_2 : Nat, ∃ xc_2 : Nat, g10.w.cell? ⟨g4.w.heap.size, 0, none⟩ = some (.slice xa_2 xl_2 xc_2) ∧ ∀ g12 : G, Ex g10 g12 →
  R (.tuple ⟨[(.slice xa_2 xl_2 xc_2), (.int .i64 (0 : Int)), (.int .i64 (0 : Int))]⟩) g12))) → J_1 g7) →
  ∀ g13 : G, Ex g6 g13 →
  ∃ x_1 : Bool, g13.w.cell? (Addr.add ⟨g4.w.heap.size, 0, none⟩ 1) = some (.bool x_1) ∧ ifB x_1
  (∀ g14 : G, Ex g13 g14 →
  R (.tuple ⟨[(.slice none 0 0), (.int .i64 (0 : Int)), (.int .i64 (5 : Int))]⟩) g14)
  (∃ xa_3 : Option Addr, ∃ xl_3 : Nat, ∃ xc_3 : Nat, g13.w.cell? ⟨g4.w.heap.size, 0, none⟩ = some (.slice xa_3 xl_3 xc_3) ∧ ifB (ltI (4096 : Int) ((xl_3 : Nat) : Int))
  (∀ g15 : G, Ex g13 g15 →
  R (.tuple ⟨[(.slice none 0 0), (.int .i64 (0 : Int)), (.int .i64 (5 : Int))]⟩) g15)
  (J_1 g13)))) → J g3) →
  ifB (!eqI x1_1 (0 : Int))
  (∀ g16 : G, Ex g2 g16 →
  R (.tuple ⟨[(.slice none 0 0), (.int .i64 (0 : Int)), (.int .i64 (1 : Int))]⟩) g16)
  (ifB (ltI (0 : Int) ((x0l : Nat) : Int))
  (∀ g17 : G, Ex g2 g17 →
  R (.tuple ⟨[(.slice none 0 0), (.int .i64 (0 : Int)), (.int .i64 (1 : Int))]⟩) g17)
  (J g2)))
theorem F7_eq (x0 : Int) (x1 : Int) (x2 : ByteArray) (x3a : Option Addr) (x3l : Nat) (x3c : Nat) (g : G) (R : Value → G → Prop) : fnG cfg7 57 [.tmp 2, .tmp 3, .tmp 4] c7 an7 [(.agg ⟨[(.int .i64 x0), (.int .i64 x1), (.string x2), (.slice x3a x3l x3c)]⟩)] g nobody R = F7 x0 x1 x2 x3a x3l x3c g R := by kernel_rfl
theorem call7 (x0 : Int) (x1 : Int) (x2 : ByteArray) (x3a : Option Addr) (x3l : Nat) (x3c : Nat) (g : G) (R : Value → G → Prop) (hF : F7 x0 x1 x2 x3a x3l x3c g R) : CallsG Try.prog 7 #[(.agg ⟨[(.int .i64 x0), (.int .i64 x1), (.string x2), (.slice x3a x3l x3c)]⟩)] g nobody R :=
  fn_soundG (c := cfg7) TTok FNSok mixed Try.func7 (show Try.f7.body = some c7 by kernel_rfl) (show Try.f7.ntmps = 57 by kernel_rfl) (show Try.f7.results.toList = [.tmp 2, .tmp 3, .tmp 4] by kernel_rfl) rfl ((F7_eq x0 x1 x2 x3a x3l x3c g R ).mpr hF)

/- 8 pilaster/pilasterref44.Valid -/
noncomputable def c8 : Code := match Try.f8.body with
  | some c => c
  | none => .skip
noncomputable def cfg8 : Cfg := ⟨Try.prog, TT, FNS, [1], [(1, 1)], [], TCH, false, false, none, PNF, false⟩
def an8 : AnnG := (.seq .leaf (.seq .leaf .leaf))
def F8 (x0 : Int) (x1 : Int) (x2 : ByteArray) (x3a : Option Addr) (x3l : Nat) (x3c : Nat) (g : G) (R : Value → G → Prop) : Prop :=
  ∀ g1 : G, Ex g g1 →
  (CallsP Try.prog 22 #[(.agg ⟨[(.int .i64 x0), (.int .i64 x1), (.string x2), (.slice x3a x3l x3c)]⟩), (.int .i64 (20000 : Int)), (.int .i64 (400 : Int))] g1 fun v g2 =>
  ∃ x : Int, v = (.int .i64 x) ∧ ∀ g3 : G, Ex g2 g3 →
  R (.bool (leI (0 : Int) x)) g3)
theorem F8_eq (x0 : Int) (x1 : Int) (x2 : ByteArray) (x3a : Option Addr) (x3l : Nat) (x3c : Nat) (g : G) (R : Value → G → Prop) : fnG cfg8 6 [.tmp 2] c8 an8 [(.agg ⟨[(.int .i64 x0), (.int .i64 x1), (.string x2), (.slice x3a x3l x3c)]⟩)] g nobody R = F8 x0 x1 x2 x3a x3l x3c g R := by kernel_rfl
theorem call8 (x0 : Int) (x1 : Int) (x2 : ByteArray) (x3a : Option Addr) (x3l : Nat) (x3c : Nat) (g : G) (R : Value → G → Prop) (hF : F8 x0 x1 x2 x3a x3l x3c g R) : CallsG Try.prog 8 #[(.agg ⟨[(.int .i64 x0), (.int .i64 x1), (.string x2), (.slice x3a x3l x3c)]⟩)] g nobody R :=
  fn_soundG (c := cfg8) TTok FNSok mixed Try.func8 (show Try.f8.body = some c8 by kernel_rfl) (show Try.f8.ntmps = 6 by kernel_rfl) (show Try.f8.results.toList = [.tmp 2] by kernel_rfl) rfl ((F8_eq x0 x1 x2 x3a x3l x3c g R ).mpr hF)

/- 9 pilaster/pilasterref44.Free -/
noncomputable def c9 : Code := match Try.f9.body with
  | some c => c
  | none => .skip
noncomputable def cfg9 : Cfg := ⟨Try.prog, TT, FNS, [1], [(1, 1)], [], TCH, false, false, none, PNF, false⟩
def an9 : AnnG := (.seq .leaf (.seq .leaf .leaf))
def F9 (x0 : Int) (x1 : Int) (x2 : ByteArray) (x3a : Option Addr) (x3l : Nat) (x3c : Nat) (g : G) (R : Value → G → Prop) : Prop :=
  ∀ g1 : G, Ex g g1 →
  (CallsP Try.prog 23 #[(.agg ⟨[(.int .i64 x0), (.int .i64 x1), (.string x2), (.slice x3a x3l x3c)]⟩), (.int .i64 (0 : Int)), (.slice none 0 0)] g1 fun v g2 =>
  ∃ xa : Option Addr, ∃ xl : Nat, ∃ xc : Nat, v = (.slice xa xl xc) ∧ ∀ g3 : G, Ex g2 g3 →
  R (.slice xa xl xc) g3)
theorem F9_eq (x0 : Int) (x1 : Int) (x2 : ByteArray) (x3a : Option Addr) (x3l : Nat) (x3c : Nat) (g : G) (R : Value → G → Prop) : fnG cfg9 5 [.tmp 2] c9 an9 [(.agg ⟨[(.int .i64 x0), (.int .i64 x1), (.string x2), (.slice x3a x3l x3c)]⟩)] g nobody R = F9 x0 x1 x2 x3a x3l x3c g R := by kernel_rfl
theorem call9 (x0 : Int) (x1 : Int) (x2 : ByteArray) (x3a : Option Addr) (x3l : Nat) (x3c : Nat) (g : G) (R : Value → G → Prop) (hF : F9 x0 x1 x2 x3a x3l x3c g R) : CallsG Try.prog 9 #[(.agg ⟨[(.int .i64 x0), (.int .i64 x1), (.string x2), (.slice x3a x3l x3c)]⟩)] g nobody R :=
  fn_soundG (c := cfg9) TTok FNSok mixed Try.func9 (show Try.f9.body = some c9 by kernel_rfl) (show Try.f9.ntmps = 5 by kernel_rfl) (show Try.f9.results.toList = [.tmp 2] by kernel_rfl) rfl ((F9_eq x0 x1 x2 x3a x3l x3c g R ).mpr hF)

/- 10 pilaster/pilasterref45.Same -/
noncomputable def c10 : Code := match Try.f10.body with
  | some c => c
  | none => .skip
noncomputable def cfg10 : Cfg := ⟨Try.prog, TT, FNS, [], [], [], TCH, false, false, none, PNF, false⟩
def an10 : AnnG := (.seq .leaf (.seq (.seq .leaf (.cond (.seq .leaf .leaf) .leaf)) (.seq (.seq .leaf (.blk (.loop ⟨[(5, .int .i64)], [], []⟩ (.seq (.seq .leaf (.cond .leaf .leaf)) (.seq (.blk (.seq (.tree 22 (.quiet 0 (.quiet 1 (.quiet 2 (.quiet 3 (.quiet 4 (.quiet 5 (.quiet 6 (.quiet 7 (.quiet 8 (.quiet 9 (.quiet 10 (.quiet 11 (.quiet 12 (.quiet 13 (.quiet 14 (.quiet 15 (.quiet 16 (.quiet 17 (.quiet 18 (.quiet 19 (.quiet 20 (.quiet 21 .fin))))))))))))))))))))))) (.cond (.seq .leaf .leaf) .leaf))) .leaf))))) (.seq .leaf .leaf))))
def F10 (aa : Option Addr) (al : Nat) (ac : Nat) (ba : Option Addr) (bl : Nat) (bc : Nat) (g : G) (R : Value → G → Prop) : Prop :=
  ifB (!eqI ((al : Nat) : Int) ((bl : Nat) : Int))
  (∀ g1 : G, Ex g g1 →
  R (.bool false) g1)
  (∃ Inv : Nat → Int → G → Prop, ((∃ m0 : Nat, Inv m0 (0 : Int) g)) ∧
  ∀ m : Nat, ∀ i : Int, ∀ g2 : G, Le g g2 → Inv m i g2 →
  ifB (ltI i ((al : Nat) : Int))
  (∀ g3 : G, Ex g2 g3 →
  (0 ≤ i ∧ i < ((al : Nat) : Int)) ∧ derefP aa fun ad => ∃ x : Int, g3.w.cell? (Addr.add ad (Int.toNat i * 5)) = some (.int .i64 x) ∧ (0 ≤ i ∧ i < ((bl : Nat) : Int)) ∧ derefP ba fun ad_1 => ∃ x_1 : Int, g3.w.cell? (Addr.add ad_1 (Int.toNat i * 5)) = some (.int .i64 x_1) ∧ ifB (!eqI x x_1)
  (∀ g4 : G, Ex g3 g4 →
  R (.bool false) g4)
  ((0 ≤ i ∧ i < ((al : Nat) : Int)) ∧ derefP aa fun ad_2 => ∃ x0 : Int, ∃ x1 : Int, ∃ x2 : ByteArray, ∃ x3a : Option Addr, ∃ x3l : Nat, ∃ x3c : Nat, g3.w.cell? (Addr.add (Addr.add ad_2 (Int.toNat i * 5)) 1) = some (.int .i64 x0) ∧ g3.w.cell? (Addr.add (Addr.add (Addr.add ad_2 (Int.toNat i * 5)) 1) 1) = some (.int .i64 x1) ∧ g3.w.cell? (Addr.add (Addr.add (Addr.add ad_2 (Int.toNat i * 5)) 1) 2) = some (.string x2) ∧ g3.w.cell? (Addr.add (Addr.add (Addr.add ad_2 (Int.toNat i * 5)) 1) 3) = some (.slice x3a x3l x3c) ∧ (0 ≤ i ∧ i < ((bl : Nat) : Int)) ∧ derefP ba fun ad_3 => ∃ x0_1 : Int, ∃ x1_1 : Int, ∃ x2_1 : ByteArray, ∃ x3a_1 : Option Addr, ∃ x3l_1 : Nat, ∃ x3c_1 : Nat, g3.w.cell? (Addr.add (Addr.add ad_3 (Int.toNat i * 5)) 1) = some (.int .i64 x0_1) ∧ g3.w.cell? (Addr.add (Addr.add (Addr.add ad_3 (Int.toNat i * 5)) 1) 1) = some (.int .i64 x1_1) ∧ g3.w.cell? (Addr.add (Addr.add (Addr.add ad_3 (Int.toNat i * 5)) 1) 2) = some (.string x2_1) ∧ g3.w.cell? (Addr.add (Addr.add (Addr.add ad_3 (Int.toNat i * 5)) 1) 3) = some (.slice x3a_1 x3l_1 x3c_1) ∧ (CallsP Try.prog 24 #[(.agg ⟨[(.int .i64 x0), (.int .i64 x1), (.string x2), (.slice x3a x3l x3c)]⟩), (.agg ⟨[(.int .i64 x0_1), (.int .i64 x1_1), (.string x2_1), (.slice x3a_1 x3l_1 x3c_1)]⟩)] g3 fun v g5 =>
  ∃ x_2 : Bool, v = (.bool x_2) ∧ ifB (!x_2)
  (∀ g6 : G, Ex g5 g6 →
  R (.bool false) g6)
  (InI64 (i + (1 : Int)) ∧ (∃ m_1 : Nat, m_1 < m ∧ Inv m_1 (i + (1 : Int)) g5)))))
  (∀ g7 : G, Ex g2 g7 →
  R (.bool true) g7))
theorem F10_eq (aa : Option Addr) (al : Nat) (ac : Nat) (ba : Option Addr) (bl : Nat) (bc : Nat) (g : G) (R : Value → G → Prop) : fnG cfg10 42 [.tmp 4] c10 an10 [(.slice aa al ac), (.slice ba bl bc)] g nobody R = F10 aa al ac ba bl bc g R := by kernel_rfl
theorem call10 (aa : Option Addr) (al : Nat) (ac : Nat) (ba : Option Addr) (bl : Nat) (bc : Nat) (g : G) (R : Value → G → Prop) (hF : F10 aa al ac ba bl bc g R) : CallsG Try.prog 10 #[(.slice aa al ac), (.slice ba bl bc)] g nobody R :=
  fn_soundG (c := cfg10) TTok FNSok mixed Try.func10 (show Try.f10.body = some c10 by kernel_rfl) (show Try.f10.ntmps = 42 by kernel_rfl) (show Try.f10.results.toList = [.tmp 4] by kernel_rfl) rfl ((F10_eq aa al ac ba bl bc g R ).mpr hF)

/- 11 pilaster/pilasterref45.Convert -/
noncomputable def c11 : Code := match Try.f11.body with
  | some c => c
  | none => .skip
noncomputable def cfg11 : Cfg := ⟨Try.prog, TT, FNS, [1, 3, 4], [(1, 1), (3, 3), (4, 4), (13, 4), (18, 4)], [8], TCH, false, false, none, PNF, false⟩
def an11 : AnnG := (.seq .leaf (.seq .leaf (.seq .leaf (.seq .leaf .leaf))))
def F11 (x0 : Int) (x1 : Int) (x2 : ByteArray) (x3a : Option Addr) (x3l : Nat) (x3c : Nat) (g : G) (R : Value → G → Prop) : Prop :=
  ∀ g1 : G, Ex g g1 →
  ∀ g2 : G, NewD g1 g2 38 [(.int .i64 (0 : Int)), (.int .i64 (0 : Int)), (.int .i64 (0 : Int)), (.string (bs [])), (.slice none 0 0)] →
  ∃ M1 : Nat → Prop, (∀ b, b < g.w.heap.size → M1 b → nobody b) ∧ (CallsG Try.prog 25 #[(.agg ⟨[(.int .i64 x0), (.int .i64 x1), (.string x2), (.slice x3a x3l x3c)]⟩), (.slice none 0 0), (.int .i64 (1 : Int)), (.agg ⟨[(.slice (some ⟨g1.w.heap.size, 0, none⟩) 1 1)]⟩)] g2 M1 fun v g3 =>
  ∃ x00 : Int, ∃ x01 : Int, ∃ x02 : ByteArray, ∃ x03a : Option Addr, ∃ x03l : Nat, ∃ x03c : Nat, ∃ x10a : Option Addr, ∃ x10l : Nat, ∃ x10c : Nat, v = (.tuple ⟨[(.agg ⟨[(.int .i64 x00), (.int .i64 x01), (.string x02), (.slice x03a x03l x03c)]⟩), (.agg ⟨[(.slice x10a x10l x10c)]⟩)]⟩) ∧ (0 ≤ (0 : Int) ∧ (0 : Int) < ((x10l : Nat) : Int)) ∧ derefP x10a fun ad => ∀ g4 : G, Ex g3 g4 →
  stOk g4.w (Addr.add (Addr.add ad (Int.toNat (0 : Int) * 5)) 1) 4 ∧ ¬ g4.X (Addr.block (Addr.add (Addr.add ad (Int.toNat (0 : Int) * 5)) 1)) ∧ mutAt g4 (Addr.add (Addr.add ad (Int.toNat (0 : Int) * 5)) 1) 4 ∧ ((Addr.block (Addr.add (Addr.add ad (Int.toNat (0 : Int) * 5)) 1)) < g.w.heap.size → nobody (Addr.block (Addr.add (Addr.add ad (Int.toNat (0 : Int) * 5)) 1))) ∧ ∀ g5 : G, StG false g4 (Addr.add (Addr.add ad (Int.toNat (0 : Int) * 5)) 1) [(.int .i64 x00), (.int .i64 x01), (.string x02), (.slice x03a x03l x03c)] g5 →
  ∀ g6 : G, Ex g5 g6 →
  R (.slice x10a x10l x10c) g6)
theorem F11_eq (x0 : Int) (x1 : Int) (x2 : ByteArray) (x3a : Option Addr) (x3l : Nat) (x3c : Nat) (g : G) (R : Value → G → Prop) : fnG cfg11 20 [.tmp 2] c11 an11 [(.agg ⟨[(.int .i64 x0), (.int .i64 x1), (.string x2), (.slice x3a x3l x3c)]⟩)] g nobody R = F11 x0 x1 x2 x3a x3l x3c g R := by kernel_rfl
theorem call11 (x0 : Int) (x1 : Int) (x2 : ByteArray) (x3a : Option Addr) (x3l : Nat) (x3c : Nat) (g : G) (R : Value → G → Prop) (hF : F11 x0 x1 x2 x3a x3l x3c g R) : CallsG Try.prog 11 #[(.agg ⟨[(.int .i64 x0), (.int .i64 x1), (.string x2), (.slice x3a x3l x3c)]⟩)] g nobody R :=
  fn_soundG (c := cfg11) TTok FNSok mixed Try.func11 (show Try.f11.body = some c11 by kernel_rfl) (show Try.f11.ntmps = 20 by kernel_rfl) (show Try.f11.results.toList = [.tmp 2] by kernel_rfl) rfl ((F11_eq x0 x1 x2 x3a x3l x3c g R ).mpr hF)

/- 12 pilaster/pilasterlaw45.nodes -/
noncomputable def c12 : Code := match Try.f12.body with
  | some c => c
  | none => .skip
noncomputable def cfg12 : Cfg := ⟨Try.prog, TT, FNS, [3, 9], [(3, 3), (9, 9), (13, 3), (18, 3), (25, 3), (31, 3)], [], TCH, false, false, none, PNF, false⟩
def an12 : AnnG := (.seq .leaf (.join ⟨[], [], []⟩ (.seq .leaf (.cond (.seq .leaf .leaf) .leaf)) (.seq .leaf (.seq (.seq .leaf (.blk (.loop ⟨[(7, .int .i64), (34, .int .i64)], [], []⟩ (.seq .leaf (.seq (.cond .leaf .leaf) (.seq (.blk (.seq .leaf (.seq (.seq .leaf (.cond (.seq .leaf .leaf) .leaf)) .leaf))) .leaf)))))) (.seq .leaf .leaf)))))
def F12 (x0 : Int) (x1 : Int) (x2 : ByteArray) (x3a : Option Addr) (x3l : Nat) (x3c : Nat) (most : Int) (depth : Int) (g : G) (R : Value → G → Prop) : Prop :=
  ∀ J : G → Prop,
  (∀ g1 : G, (∃ Inv : Nat → Int → Int → G → Prop, ((∃ m0 : Nat, Inv m0 (1 : Int) (0 : Int) g1)) ∧
  ∀ m : Nat, ∀ n : Int, ∀ v_1 : Int, ∀ g2 : G, Le g1 g2 → Inv m n v_1 g2 →
  ifB (ltI v_1 ((x3l : Nat) : Int))
  ((0 ≤ v_1 ∧ v_1 < ((x3l : Nat) : Int)) ∧ derefP x3a fun ad => ∃ x0_1 : Int, ∃ x1_1 : Int, ∃ x2_1 : ByteArray, ∃ x3a_1 : Option Addr, ∃ x3l_1 : Nat, ∃ x3c_1 : Nat, g2.w.cell? (Addr.add ad (Int.toNat v_1 * 4)) = some (.int .i64 x0_1) ∧ g2.w.cell? (Addr.add (Addr.add ad (Int.toNat v_1 * 4)) 1) = some (.int .i64 x1_1) ∧ g2.w.cell? (Addr.add (Addr.add ad (Int.toNat v_1 * 4)) 2) = some (.string x2_1) ∧ g2.w.cell? (Addr.add (Addr.add ad (Int.toNat v_1 * 4)) 3) = some (.slice x3a_1 x3l_1 x3c_1) ∧ ifB (leI most n)
  (∀ g3 : G, Ex g2 g3 →
  R (.int .i64 most) g3)
  (InI64 (most - n) ∧ InI64 (depth + (1 : Int)) ∧ ∀ g4 : G, Ex g2 g4 →
  (CallsP Try.prog 12 #[(.agg ⟨[(.int .i64 x0_1), (.int .i64 x1_1), (.string x2_1), (.slice x3a_1 x3l_1 x3c_1)]⟩), (.int .i64 (most - n)), (.int .i64 (depth + (1 : Int)))] g4 fun v g5 =>
  ∃ x : Int, v = (.int .i64 x) ∧ InI64 (n + x) ∧ InI64 (v_1 + (1 : Int)) ∧ (∃ m_1 : Nat, m_1 < m ∧ Inv m_1 (n + x) (v_1 + (1 : Int)) g5))))
  (∀ g6 : G, Ex g2 g6 →
  R (.int .i64 (minI n most)) g6)) → J g1) →
  ifB (ltI (250 : Int) depth)
  (∀ g7 : G, Ex g g7 →
  R (.int .i64 most) g7)
  (ifB (ltI (300 : Int) ((x2.size : Nat) : Int))
  (ifB (leI ((x2.size : Nat) : Int) (16384 : Int))
  (∀ g8 : G, Ex g g8 →
  R (.int .i64 most) g8)
  (ifB (ltI (16484 : Int) ((x2.size : Nat) : Int))
  (∀ g9 : G, Ex g g9 →
  R (.int .i64 most) g9)
  (∀ g10 : G, Ex g g10 →
  J g10)))
  (ifB (ltI (16484 : Int) ((x2.size : Nat) : Int))
  (∀ g11 : G, Ex g g11 →
  R (.int .i64 most) g11)
  (∀ g12 : G, Ex g g12 →
  J g12)))
theorem F12_eq (x0 : Int) (x1 : Int) (x2 : ByteArray) (x3a : Option Addr) (x3l : Nat) (x3c : Nat) (most : Int) (depth : Int) (g : G) (R : Value → G → Prop) : fnG cfg12 55 [.tmp 6] c12 an12 [(.agg ⟨[(.int .i64 x0), (.int .i64 x1), (.string x2), (.slice x3a x3l x3c)]⟩), (.int .i64 most), (.int .i64 depth)] g nobody R = F12 x0 x1 x2 x3a x3l x3c most depth g R := by kernel_rfl
theorem call12 (x0 : Int) (x1 : Int) (x2 : ByteArray) (x3a : Option Addr) (x3l : Nat) (x3c : Nat) (most : Int) (depth : Int) (g : G) (R : Value → G → Prop) (hF : F12 x0 x1 x2 x3a x3l x3c most depth g R) : CallsG Try.prog 12 #[(.agg ⟨[(.int .i64 x0), (.int .i64 x1), (.string x2), (.slice x3a x3l x3c)]⟩), (.int .i64 most), (.int .i64 depth)] g nobody R :=
  fn_soundG (c := cfg12) TTok FNSok mixed Try.func12 (show Try.f12.body = some c12 by kernel_rfl) (show Try.f12.ntmps = 55 by kernel_rfl) (show Try.f12.results.toList = [.tmp 6] by kernel_rfl) rfl ((F12_eq x0 x1 x2 x3a x3l x3c most depth g R ).mpr hF)

/- 13 pilaster/pilasterlaw45.functions -/
noncomputable def c13 : Code := match Try.f13.body with
  | some c => c
  | none => .skip
noncomputable def cfg13 : Cfg := ⟨Try.prog, TT, FNS, [2, 7], [(2, 2), (7, 7), (8, 2), (12, 2), (24, 2), (33, 2)], [], TCH, false, false, none, PNF, false⟩
def an13 : AnnG := (.seq .leaf (.seq .leaf (.join ⟨[(5, .sl)], [], []⟩ (.join ⟨[(19, .bool)], [], []⟩ .leaf (.cond .leaf .leaf)) (.seq (.seq .leaf (.blk (.loop ⟨[(5, .sl), (27, .int .i64)], [], []⟩ (.seq .leaf (.seq (.cond .leaf .leaf) (.seq (.blk (.seq .leaf .leaf)) .leaf)))))) (.seq .leaf .leaf)))))
def F13 (x0 : Int) (x1 : Int) (x2 : ByteArray) (x3a : Option Addr) (x3l : Nat) (x3c : Nat) (fixed : Bool) (g : G) (R : Value → G → Prop) : Prop :=
  ∀ J : Option Addr → Nat → Nat → G → Prop,
  (∀ outa : Option Addr, ∀ outl : Nat, ∀ outc : Nat, ∀ g1 : G, (∃ Inv : Nat → Option Addr → Nat → Nat → Int → G → Prop, ((∃ m0 : Nat, Inv m0 outa outl outc (0 : Int) g1)) ∧
  ∀ m : Nat, ∀ outa_1 : Option Addr, ∀ outl_1 : Nat, ∀ outc_1 : Nat, ∀ v_1 : Int, ∀ g2 : G, Le g1 g2 → Inv m outa_1 outl_1 outc_1 v_1 g2 →
  ifB (ltI v_1 ((x3l : Nat) : Int))
  ((0 ≤ v_1 ∧ v_1 < ((x3l : Nat) : Int)) ∧ derefP x3a fun ad => ∃ x0_1 : Int, ∃ x1_1 : Int, ∃ x2_1 : ByteArray, ∃ x3a_1 : Option Addr, ∃ x3l_1 : Nat, ∃ x3c_1 : Nat, g2.w.cell? (Addr.add ad (Int.toNat v_1 * 4)) = some (.int .i64 x0_1) ∧ g2.w.cell? (Addr.add (Addr.add ad (Int.toNat v_1 * 4)) 1) = some (.int .i64 x1_1) ∧ g2.w.cell? (Addr.add (Addr.add ad (Int.toNat v_1 * 4)) 2) = some (.string x2_1) ∧ g2.w.cell? (Addr.add (Addr.add ad (Int.toNat v_1 * 4)) 3) = some (.slice x3a_1 x3l_1 x3c_1) ∧ ∀ g3 : G, Ex g2 g3 →
  (CallsP Try.prog 13 #[(.agg ⟨[(.int .i64 x0_1), (.int .i64 x1_1), (.string x2_1), (.slice x3a_1 x3l_1 x3c_1)]⟩), (.bool (eqI x0 (10 : Int)))] g3 fun v g4 =>
  ∃ xa : Option Addr, ∃ xl : Nat, ∃ xc : Nat, v = (.slice xa xl xc) ∧ ∃ outa_2 : Option Addr, ∃ outl_2 : Nat, ∃ outc_2 : Nat, ∃ wo1 : World, Sem.run Try.prog (Builtin.append_ #[22, 22] 22 #[(.slice outa_1 outl_1 outc_1), (.slice xa xl xc)]) g4.w = .ok (.slice outa_2 outl_2 outc_2) wo1 ∧ ∃ g5 : G, g5.w = wo1 ∧ Stp g.w.heap.size nobody g4 g5 ∧ InI64 (v_1 + (1 : Int)) ∧ (∃ m_1 : Nat, m_1 < m ∧ Inv m_1 outa_2 outl_2 outc_2 (v_1 + (1 : Int)) g5)))
  (∀ g6 : G, Ex g2 g6 →
  R (.slice outa_1 outl_1 outc_1) g6)) → J outa outl outc g1) →
  ∀ J_1 : Bool → G → Prop,
  (∀ v_2 : Bool, ∀ g7 : G, (ifB v_2
  (∀ g8 : G, NewL g7 g8 24 [(.int .i64 x0), (.int .i64 x1), (.string x2), (.slice x3a x3l x3c)] →
  ∃ outa_3 : Option Addr, ∃ outl_3 : Nat, ∃ outc_3 : Nat, ∃ wo2 : World, Sem.run Try.prog (Builtin.append_ #[22, 22] 22 #[(.slice none 0 0), (.slice (some ⟨g7.w.heap.size, 0, none⟩) 1 1)]) g8.w = .ok (.slice outa_3 outl_3 outc_3) wo2 ∧ ∃ g9 : G, g9.w = wo2 ∧ Stp g.w.heap.size nobody g8 g9 ∧ J outa_3 outl_3 outc_3 g9)
  (J none 0 0 g7)) → J_1 v_2 g7) →
  ifB (eqI x0 (10 : Int))
  (∀ g10 : G, Ex g g10 →
  J_1 true g10)
  (ifB (eqI x0 (4 : Int))
  (∀ g11 : G, Ex g g11 →
  J_1 (!fixed) g11)
  (∀ g12 : G, Ex g g12 →
  J_1 false g12))
theorem F13_eq (x0 : Int) (x1 : Int) (x2 : ByteArray) (x3a : Option Addr) (x3l : Nat) (x3c : Nat) (fixed : Bool) (g : G) (R : Value → G → Prop) : fnG cfg13 40 [.tmp 4] c13 an13 [(.agg ⟨[(.int .i64 x0), (.int .i64 x1), (.string x2), (.slice x3a x3l x3c)]⟩), (.bool fixed)] g nobody R = F13 x0 x1 x2 x3a x3l x3c fixed g R := by kernel_rfl
theorem call13 (x0 : Int) (x1 : Int) (x2 : ByteArray) (x3a : Option Addr) (x3l : Nat) (x3c : Nat) (fixed : Bool) (g : G) (R : Value → G → Prop) (hF : F13 x0 x1 x2 x3a x3l x3c fixed g R) : CallsG Try.prog 13 #[(.agg ⟨[(.int .i64 x0), (.int .i64 x1), (.string x2), (.slice x3a x3l x3c)]⟩), (.bool fixed)] g nobody R :=
  fn_soundG (c := cfg13) TTok FNSok mixed Try.func13 (show Try.f13.body = some c13 by kernel_rfl) (show Try.f13.ntmps = 40 by kernel_rfl) (show Try.f13.results.toList = [.tmp 4] by kernel_rfl) rfl ((F13_eq x0 x1 x2 x3a x3l x3c fixed g R ).mpr hF)

/- 14 pilaster/closure.Captures -/
noncomputable def c14 : Code := match Try.f14.body with
  | some c => c
  | none => .skip
noncomputable def cfg14 : Cfg := ⟨Try.prog, TT, FNS, [1], [(1, 1), (15, 1), (19, 1)], [], TCH, false, false, none, PNF, false⟩
def an14 : AnnG := (.seq .leaf (.seq .leaf (.seq (.blk (.seq .leaf (.cond (.seq .leaf .leaf) (.seq .leaf (.cond (.seq .leaf .leaf) .leaf))))) (.seq .leaf .leaf))))
def F14 (x0 : Int) (x1 : Int) (x2 : ByteArray) (x3a : Option Addr) (x3l : Nat) (x3c : Nat) (g : G) (R : Value → G → Prop) : Prop :=
  ∀ g1 : G, Ex g g1 →
  (CallsP Try.prog 17 #[(.agg ⟨[(.int .i64 x0), (.int .i64 x1), (.string x2), (.slice x3a x3l x3c)]⟩)] g1 fun v g2 =>
  ∃ x0a : Option Addr, ∃ x0l : Nat, ∃ x0c : Nat, ∃ x1_1 : Int, v = (.tuple ⟨[(.slice x0a x0l x0c), (.int .i64 x1_1)]⟩) ∧ ifB (!eqI x1_1 (0 : Int))
  (∀ g3 : G, Ex g2 g3 →
  R (.tuple ⟨[(.slice none 0 0), (.int .i64 (1 : Int))]⟩) g3)
  (ifB (!eqI x0 (4 : Int))
  (ifB (!eqI x0 (10 : Int))
  (∀ g4 : G, Ex g2 g4 →
  R (.tuple ⟨[(.slice none 0 0), (.int .i64 (12 : Int))]⟩) g4)
  (∀ g5 : G, Ex g2 g5 →
  R (.tuple ⟨[(.slice x0a x0l x0c), (.int .i64 (0 : Int))]⟩) g5))
  (∀ g6 : G, Ex g2 g6 →
  R (.tuple ⟨[(.slice x0a x0l x0c), (.int .i64 (0 : Int))]⟩) g6)))
theorem F14_eq (x0 : Int) (x1 : Int) (x2 : ByteArray) (x3a : Option Addr) (x3l : Nat) (x3c : Nat) (g : G) (R : Value → G → Prop) : fnG cfg14 24 [.tmp 2, .tmp 3] c14 an14 [(.agg ⟨[(.int .i64 x0), (.int .i64 x1), (.string x2), (.slice x3a x3l x3c)]⟩)] g nobody R = F14 x0 x1 x2 x3a x3l x3c g R := by kernel_rfl
theorem call14 (x0 : Int) (x1 : Int) (x2 : ByteArray) (x3a : Option Addr) (x3l : Nat) (x3c : Nat) (g : G) (R : Value → G → Prop) (hF : F14 x0 x1 x2 x3a x3l x3c g R) : CallsG Try.prog 14 #[(.agg ⟨[(.int .i64 x0), (.int .i64 x1), (.string x2), (.slice x3a x3l x3c)]⟩)] g nobody R :=
  fn_soundG (c := cfg14) TTok FNSok mixed Try.func14 (show Try.f14.body = some c14 by kernel_rfl) (show Try.f14.ntmps = 24 by kernel_rfl) (show Try.f14.results.toList = [.tmp 2, .tmp 3] by kernel_rfl) rfl ((F14_eq x0 x1 x2 x3a x3l x3c g R ).mpr hF)

/- 15 pilaster/closure.Locals -/
noncomputable def c15 : Code := match Try.f15.body with
  | some c => c
  | none => .skip
noncomputable def cfg15 : Cfg := ⟨Try.prog, TT, FNS, [1], [(1, 1), (10, 1)], [4], TCH, false, false, none, PNF, false⟩
def an15 : AnnG := (.seq .leaf (.seq .leaf (.seq (.seq .leaf (.cond (.seq .leaf .leaf) .leaf)) (.seq .leaf .leaf))))
def F15 (f0 : Int) (f1 : Int) (f2 : Int) (f3 : ByteArray) (f4a : Option Addr) (f4l : Nat) (f4c : Nat) (g : G) (R : Value → G → Prop) : Prop :=
  ∀ g1 : G, Ex g g1 →
  ∀ g2 : G, NewM g1 g2 →
  ∀ g3 : G, NewD g2 g3 58 [(.map none)] →
  stOk g3.w ⟨g2.w.heap.size, 0, none⟩ 1 ∧ ¬ g3.X (Addr.block ⟨g2.w.heap.size, 0, none⟩) ∧ mutAt g3 ⟨g2.w.heap.size, 0, none⟩ 1 ∧ ((Addr.block ⟨g2.w.heap.size, 0, none⟩) < g.w.heap.size → nobody (Addr.block ⟨g2.w.heap.size, 0, none⟩)) ∧ ∀ g4 : G, StG true g3 ⟨g2.w.heap.size, 0, none⟩ [(.map (some g1.w.heap.size))] g4 →
  ∃ M1 : Nat → Prop, (∀ b, b < g.w.heap.size → M1 b → nobody b) ∧ (CallsG Try.prog 26 #[(.agg ⟨[(.int .i64 f0), (.int .i64 f1), (.int .i64 f2), (.string f3), (.slice f4a f4l f4c)]⟩), (.func (.func 27) #[] ⟨[(.pointer (some ⟨g2.w.heap.size, 0, none⟩))]⟩)] g4 M1 fun v g5 =>
  ∃ x : Bool, v = (.bool x) ∧ ifB (!x)
  (∀ g6 : G, Ex g5 g6 →
  R (.tuple ⟨[(.int .i64 (0 : Int)), (.int .i64 (1 : Int))]⟩) g6)
  ((CallsP Try.prog 29 #[(.agg ⟨[(.int .i64 f1), (.int .i64 f2), (.string f3), (.slice f4a f4l f4c)]⟩), (.int .i64 (1 : Int))] g5 fun v g7 =>
  ∃ x_1 : Int, v = (.int .i64 x_1) ∧ ∀ g8 : G, Ex g7 g8 →
  R (.tuple ⟨[(.int .i64 x_1), (.int .i64 (0 : Int))]⟩) g8)))
theorem F15_eq (f0 : Int) (f1 : Int) (f2 : Int) (f3 : ByteArray) (f4a : Option Addr) (f4l : Nat) (f4c : Nat) (g : G) (R : Value → G → Prop) : fnG cfg15 13 [.tmp 2, .tmp 3] c15 an15 [(.agg ⟨[(.int .i64 f0), (.int .i64 f1), (.int .i64 f2), (.string f3), (.slice f4a f4l f4c)]⟩)] g nobody R = F15 f0 f1 f2 f3 f4a f4l f4c g R := by kernel_rfl
theorem call15 (f0 : Int) (f1 : Int) (f2 : Int) (f3 : ByteArray) (f4a : Option Addr) (f4l : Nat) (f4c : Nat) (g : G) (R : Value → G → Prop) (hF : F15 f0 f1 f2 f3 f4a f4l f4c g R) : CallsG Try.prog 15 #[(.agg ⟨[(.int .i64 f0), (.int .i64 f1), (.int .i64 f2), (.string f3), (.slice f4a f4l f4c)]⟩)] g nobody R :=
  fn_soundG (c := cfg15) TTok FNSok mixed Try.func15 (show Try.f15.body = some c15 by kernel_rfl) (show Try.f15.ntmps = 13 by kernel_rfl) (show Try.f15.results.toList = [.tmp 2, .tmp 3] by kernel_rfl) rfl ((F15_eq f0 f1 f2 f3 f4a f4l f4c g R ).mpr hF)

/- 16 pilaster/pilasterlaw45.node -/
noncomputable def c16 : Code := match Try.f16.body with
  | some c => c
  | none => .skip
noncomputable def cfg16 : Cfg := ⟨Try.prog, TT, FNS, [6], [(6, 6)], [], TCH, false, false, none, PNF, false⟩
def an16 : AnnG := (.seq .leaf (.seq .leaf .leaf))
def F16 (op : Int) (n : Int) (la : Option Addr) (ll : Nat) (lc : Nat) (g : G) (R : Value → G → Prop) : Prop :=
  ∀ g1 : G, Ex g g1 →
  ∀ g2 : G, Ex g1 g2 →
  R (.agg ⟨[(.int .i64 op), (.int .i64 n), (.string (bs [])), (.slice la ll lc)]⟩) g2
theorem F16_eq (op : Int) (n : Int) (la : Option Addr) (ll : Nat) (lc : Nat) (g : G) (R : Value → G → Prop) : fnG cfg16 11 [.cell 6 24] c16 an16 [(.int .i64 op), (.int .i64 n), (.slice la ll lc)] g nobody R = F16 op n la ll lc g R := by kernel_rfl
theorem call16 (op : Int) (n : Int) (la : Option Addr) (ll : Nat) (lc : Nat) (g : G) (R : Value → G → Prop) (hF : F16 op n la ll lc g R) : CallsG Try.prog 16 #[(.int .i64 op), (.int .i64 n), (.slice la ll lc)] g nobody R :=
  fn_soundG (c := cfg16) TTok FNSok mixed Try.func16 (show Try.f16.body = some c16 by kernel_rfl) (show Try.f16.ntmps = 11 by kernel_rfl) (show Try.f16.results.toList = [.cell 6 24] by kernel_rfl) rfl ((F16_eq op n la ll lc g R ).mpr hF)

/- 17 pilaster/lambda.Free -/
noncomputable def c17 : Code := match Try.f17.body with
  | some c => c
  | none => .skip
noncomputable def cfg17 : Cfg := ⟨Try.prog, TT, FNS, [1], [(1, 1), (1000015, 64)], [], TCH, false, false, none, PNF, false⟩
def an17 : AnnG := (.seq .leaf (.seq (.seq .leaf (.cond (.seq .leaf .leaf) .leaf)) (.seq .leaf (.seq .leaf (.seq .leaf (.seq (.seq .leaf (.blk (.loop ⟨[(5, .sl)], [], []⟩ (.seq .leaf (.seq (.cond .leaf .leaf) (.blk (.seq .leaf .leaf))))))) (.seq .leaf (.seq .leaf .leaf))))))))
def F17 (x0 : Int) (x1 : Int) (x2 : ByteArray) (x3a : Option Addr) (x3l : Nat) (x3c : Nat) (g : G) (R : Value → G → Prop) : Prop :=
  ∀ g1 : G, Ex g g1 →
  (CallsP Try.prog 30 #[(.agg ⟨[(.int .i64 x0), (.int .i64 x1), (.string x2), (.slice x3a x3l x3c)]⟩)] g1 fun v g2 =>
  ∃ x : Bool, v = (.bool x) ∧ ifB (!x)
  (∀ g3 : G, Ex g2 g3 →
  R (.tuple ⟨[(.slice none 0 0), (.int .i64 (1 : Int))]⟩) g3)
  (∀ g4 : G, NewM g2 g4 →
  ∃ M3 : Nat → Prop, (∀ b, b < g.w.heap.size → M3 b → nobody b) ∧ (CallsG Try.prog 31 #[(.map (some g2.w.heap.size)), (.agg ⟨[(.int .i64 x0), (.int .i64 x1), (.string x2), (.slice x3a x3l x3c)]⟩), (.int .i64 (0 : Int))] g4 M3 fun v g5 =>
  v = (.tuple ⟨[]⟩) ∧ ∃ x_1 : Option Addr, ∃ wo1 : World, Sem.run Try.prog (Instr.range 64 (.map (some g2.w.heap.size))) g5.w = .ok (.pointer x_1) wo1 ∧ ∃ g6 : G, g6.w = wo1 ∧ Stp g.w.heap.size nobody g5 g6 ∧ ∃ Inv : Nat → Option Addr → Nat → Nat → G → Prop, ((∃ m0 : Nat, Inv m0 none 0 0 g6)) ∧
  ∀ m : Nat, ∀ outa : Option Addr, ∀ outl : Nat, ∀ outc : Nat, ∀ g7 : G, Le g6 g7 → Inv m outa outl outc g7 →
  (∃ wo2 : World, Sem.run Try.prog (Instr.next (.pointer x_1) false 0) g7.w = .ok (.tuple ⟨[(.bool false)]⟩) wo2 ∧ ∃ g8 : G, g8.w = wo2 ∧ Stp g.w.heap.size nobody g7 g8 ∧ ∃ M1 : Nat → Prop, (∀ b, b < g.w.heap.size → M1 b → nobody b) ∧ (CallsG Try.prog 32 #[(.slice outa outl outc)] g8 M1 fun v g9 =>
  v = (.tuple ⟨[]⟩) ∧ ∀ g10 : G, Ex g9 g10 →
  R (.tuple ⟨[(.slice outa outl outc), (.int .i64 (0 : Int))]⟩) g10)) ∨
  (∃ x0_1 : Bool, ∃ x1_1 : Int, ∃ x2_1 : Bool, ∃ wo3 : World, Sem.run Try.prog (Instr.next (.pointer x_1) false 0) g7.w = .ok (.tuple ⟨[(.bool x0_1), (.int .i64 x1_1), (.bool x2_1)]⟩) wo3 ∧ ∃ g11 : G, g11.w = wo3 ∧ Stp g.w.heap.size nobody g7 g11 ∧ ifB x0_1
  (∃ x0_2 : Int, ∃ x1_2 : Bool, ∃ wo4 : World, Sem.run Try.prog (Instr.entry (.pointer x_1)) g11.w = .ok (.tuple ⟨[(.int .i64 x0_2), (.bool x1_2)]⟩) wo4 ∧ ∃ g12 : G, g12.w = wo4 ∧ Stp g.w.heap.size nobody g11 g12 ∧ ∀ g13 : G, NewL g12 g13 3 [(.int .i64 x0_2)] →
  ∃ outa_1 : Option Addr, ∃ outl_1 : Nat, ∃ outc_1 : Nat, ∃ wo5 : World, Sem.run Try.prog (Builtin.append_ #[31, 31] 31 #[(.slice outa outl outc), (.slice (some ⟨g12.w.heap.size, 0, none⟩) 1 1)]) g13.w = .ok (.slice outa_1 outl_1 outc_1) wo5 ∧ ∃ g14 : G, g14.w = wo5 ∧ Stp g.w.heap.size nobody g13 g14 ∧ (∃ m_1 : Nat, m_1 < m ∧ Inv m_1 outa_1 outl_1 outc_1 g14))
  (∃ M2 : Nat → Prop, (∀ b, b < g.w.heap.size → M2 b → nobody b) ∧ (CallsG Try.prog 32 #[(.slice outa outl outc)] g11 M2 fun v g15 =>
  v = (.tuple ⟨[]⟩) ∧ ∀ g16 : G, Ex g15 g16 →
  R (.tuple ⟨[(.slice outa outl outc), (.int .i64 (0 : Int))]⟩) g16))))))
theorem F17_eq (x0 : Int) (x1 : Int) (x2 : ByteArray) (x3a : Option Addr) (x3l : Nat) (x3c : Nat) (g : G) (R : Value → G → Prop) : fnG cfg17 27 [.tmp 2, .tmp 3] c17 an17 [(.agg ⟨[(.int .i64 x0), (.int .i64 x1), (.string x2), (.slice x3a x3l x3c)]⟩)] g nobody R = F17 x0 x1 x2 x3a x3l x3c g R := by kernel_rfl
theorem call17 (x0 : Int) (x1 : Int) (x2 : ByteArray) (x3a : Option Addr) (x3l : Nat) (x3c : Nat) (g : G) (R : Value → G → Prop) (hF : F17 x0 x1 x2 x3a x3l x3c g R) : CallsG Try.prog 17 #[(.agg ⟨[(.int .i64 x0), (.int .i64 x1), (.string x2), (.slice x3a x3l x3c)]⟩)] g nobody R :=
  fn_soundG (c := cfg17) TTok FNSok mixed Try.func17 (show Try.f17.body = some c17 by kernel_rfl) (show Try.f17.ntmps = 27 by kernel_rfl) (show Try.f17.results.toList = [.tmp 2, .tmp 3] by kernel_rfl) rfl ((F17_eq x0 x1 x2 x3a x3l x3c g R ).mpr hF)

/- 18 (*pilaster/closure.converter).convert -/
noncomputable def c18 : Code := match Try.f18.body with
  | some c => c
  | none => .skip
noncomputable def cfg18 : Cfg := ⟨Try.prog, TT, FNS, [4, 5, 6, 7, 9], [(4, 4), (5, 5), (6, 6), (7, 7), (9, 9), (15, 4), (20, 4), (30, 4), (32, 4), (34, 4), (37, 4), (40, 7), (41, 4), (49, 4), (53, 7), (62, 7), (63, 7), (71, 7)], [], TCH, false, false, none, PNF, false⟩
def an18 : AnnG := (.seq .leaf (.seq (.seq .leaf (.cond (.seq .leaf .leaf) .leaf)) (.join ⟨[], [(6, 6, 0)], [(6, [(.int .i64), (.int .i64), (.str), (.sl)])]⟩ (.seq .leaf (.blk (.seq .leaf (.cond (.seq .leaf .leaf) (.seq (.seq .leaf (.cond .leaf .leaf)) (.cond (.seq .leaf .leaf) .leaf)))))) (.seq .leaf (.join ⟨[], [(7, 7, 0)], [(7, [(.int .i64), (.int .i64), (.str), (.sl)])]⟩ (.seq .leaf (.cond .leaf .leaf)) (.seq (.seq .leaf (.blk (.loop ⟨[(44, .int .i64)], [(7, 7, 0)], [(7, [(.int .i64), (.int .i64), (.str), (.sl)])]⟩ (.seq .leaf (.seq (.cond .leaf .leaf) (.join ⟨[], [(7, 7, 0)], [(7, [(.int .i64), (.int .i64), (.str), (.sl)])]⟩ (.blk (.seq .leaf (.seq .leaf (.cond (.treeP true [7] 8 (.quiet 0 (.quiet 2 (.quiet 3 (.quiet 4 (.eff 1 (.eff 5 (.eff 6 (.eff 7 .fin .fin) .fin) .fin) (.eff 5 (.eff 1 (.eff 6 (.eff 7 .fin .fin) .fin) (.eff 6 (.eff 1 (.eff 7 .fin .fin) (.eff 7 (.eff 1 .fin .fin) .fin)) .fin)) .fin))))))) (.treeP true [7] 7 (.quiet 0 (.quiet 2 (.quiet 3 (.quiet 4 (.eff 1 (.eff 5 (.eff 6 .fin .fin) .fin) (.eff 5 (.eff 1 (.eff 6 .fin .fin) (.eff 6 (.eff 1 .fin .fin) .fin)) .fin))))))))))) .leaf)))))) (.seq .leaf .leaf)))))))
def F18 (c : Option Addr) (x0 : Int) (x1 : Int) (x2 : ByteArray) (x3a : Option Addr) (x3l : Nat) (x3c : Nat) (s0a : Option Addr) (s0l : Nat) (s0c : Nat) (s1 : Int) (g : G) (M : Nat → Prop) (R : Value → G → Prop) : Prop :=
  derefP c fun ad => ∀ g1 : G, Ex g g1 →
  ∃ x : Bool, g1.w.cell? (Addr.add ad 1) = some (.bool x) ∧ ifB x
  (∀ g2 : G, Ex g1 g2 →
  R (.agg ⟨[(.int .i64 (0 : Int)), (.int .i64 (0 : Int)), (.string (bs [])), (.slice none 0 0)]⟩) g2)
  (∀ J : Int → Int → ByteArray → Option Addr → Nat → Nat → G → Prop,
  (∀ x0_1 : Int, ∀ x1_1 : Int, ∀ x2_1 : ByteArray, ∀ x3a_1 : Option Addr, ∀ x3l_1 : Nat, ∀ x3c_1 : Nat, ∀ g3 : G, (∀ J_1 : Int → Int → ByteArray → Option Addr → Nat → Nat → G → Prop,
  (∀ out0 : Int, ∀ out1 : Int, ∀ out2 : ByteArray, ∀ out3a : Option Addr, ∀ out3l : Nat, ∀ out3c : Nat, ∀ g4 : G, (∃ Inv : Nat → Int → Int → Int → ByteArray → Option Addr → Nat → Nat → G → Prop, ((∃ m0 : Nat, Inv m0 (0 : Int) out0 out1 out2 out3a out3l out3c g4)) ∧
  ∀ m : Nat, ∀ v_1 : Int, ∀ out0_1 : Int, ∀ out1_1 : Int, ∀ out2_1 : ByteArray, ∀ out3a_1 : Option Addr, ∀ out3l_1 : Nat, ∀ out3c_1 : Nat, ∀ g5 : G, Le g4 g5 → Inv m v_1 out0_1 out1_1 out2_1 out3a_1 out3l_1 out3c_1 g5 →
  ifB (ltI v_1 ((x3l : Nat) : Int))
  (∀ J_2 : Int → Int → ByteArray → Option Addr → Nat → Nat → G → Prop,
  (∀ out0_2 : Int, ∀ out1_2 : Int, ∀ out2_2 : ByteArray, ∀ out3a_2 : Option Addr, ∀ out3l_2 : Nat, ∀ out3c_2 : Nat, ∀ g6 : G, (InI64 (v_1 + (1 : Int)) ∧ (∃ m_1 : Nat, m_1 < m ∧ Inv m_1 (v_1 + (1 : Int)) out0_2 out1_2 out2_2 out3a_2 out3l_2 out3c_2 g6)) → J_2 out0_2 out1_2 out2_2 out3a_2 out3l_2 out3c_2 g6) →
  (0 ≤ v_1 ∧ v_1 < ((x3l : Nat) : Int)) ∧ derefP x3a fun ad_1 => ∃ x0_2 : Int, ∃ x1_2 : Int, ∃ x2_2 : ByteArray, ∃ x3a_2 : Option Addr, ∃ x3l_2 : Nat, ∃ x3c_2 : Nat, g5.w.cell? (Addr.add ad_1 (Int.toNat v_1 * 4)) = some (.int .i64 x0_2) ∧ g5.w.cell? (Addr.add (Addr.add ad_1 (Int.toNat v_1 * 4)) 1) = some (.int .i64 x1_2) ∧ g5.w.cell? (Addr.add (Addr.add ad_1 (Int.toNat v_1 * 4)) 2) = some (.string x2_2) ∧ g5.w.cell? (Addr.add (Addr.add ad_1 (Int.toNat v_1 * 4)) 3) = some (.slice x3a_2 x3l_2 x3c_2) ∧ ∀ g7 : G, Ex g5 g7 →
  (CallsP Try.prog 35 #[(.int .i64 x0), (.int .i64 v_1)] g7 fun v g8 =>
  ∃ x_1 : Bool, v = (.bool x_1) ∧ ifB x_1
  (∀ g9 : G, Ex g8 g9 →
  ∃ MR1 : Nat → Prop, (∀ b, MR1 b → ¬ g9.X b) ∧ (∀ g10 : G, Ex g9 g10 →
  (CallsP Try.prog 36 #[(.agg ⟨[(.slice s0a s0l s0c), (.int .i64 s1)]⟩)] g10 fun v g11 =>
  ∃ x0a : Option Addr, ∃ x0l : Nat, ∃ x0c : Nat, ∃ x1_3 : Int, v = (.agg ⟨[(.slice x0a x0l x0c), (.int .i64 x1_3)]⟩) ∧ ∀ g12 : G, Ex g11 g12 →
  ∃ M2 : Nat → Prop, (∀ b, b < g.w.heap.size → M2 b → M b) ∧ (CallsG Try.prog 18 #[(.pointer c), (.agg ⟨[(.int .i64 x0_2), (.int .i64 x1_2), (.string x2_2), (.slice x3a_2 x3l_2 x3c_2)]⟩), (.agg ⟨[(.slice x0a x0l x0c), (.int .i64 x1_3)]⟩)] g12 M2 fun v g13 =>
  ∃ x0_3 : Int, ∃ x1_4 : Int, ∃ x2_3 : ByteArray, ∃ x3a_3 : Option Addr, ∃ x3l_3 : Nat, ∃ x3c_3 : Nat, v = (.agg ⟨[(.int .i64 x0_3), (.int .i64 x1_4), (.string x2_3), (.slice x3a_3 x3l_3 x3c_3)]⟩) ∧ SameBut MR1 g9 g13 ∧ ∀ g14 : G, Ex g13 g14 →
  ∀ g15 : G, NewL g14 g15 24 [(.int .i64 x0_3), (.int .i64 x1_4), (.string x2_3), (.slice x3a_3 x3l_3 x3c_3)] →
  ∃ xa : Option Addr, ∃ xl : Nat, ∃ xc : Nat, ∃ wo1 : World, Sem.run Try.prog (Builtin.append_ #[22, 22] 22 #[(.slice out3a_1 out3l_1 out3c_1), (.slice (some ⟨g14.w.heap.size, 0, none⟩) 1 1)]) g15.w = .ok (.slice xa xl xc) wo1 ∧ ∃ g16 : G, g16.w = wo1 ∧ Stp g.w.heap.size M g15 g16 ∧ ∀ g17 : G, Ex g16 g17 →
  J_2 out0_1 out1_1 out2_1 xa xl xc g17))) ∧ (∀ g18 : G, Ex g9 g18 →
  (CallsP Try.prog 36 #[(.agg ⟨[(.slice s0a s0l s0c), (.int .i64 s1)]⟩)] g18 fun v g19 =>
  ∃ x0a_1 : Option Addr, ∃ x0l_1 : Nat, ∃ x0c_1 : Nat, ∃ x1_5 : Int, v = (.agg ⟨[(.slice x0a_1 x0l_1 x0c_1), (.int .i64 x1_5)]⟩) ∧ (∀ g20 : G, Ex g19 g20 →
  ∃ M3 : Nat → Prop, (∀ b, b < g.w.heap.size → M3 b → M b) ∧ (CallsG Try.prog 18 #[(.pointer c), (.agg ⟨[(.int .i64 x0_2), (.int .i64 x1_2), (.string x2_2), (.slice x3a_2 x3l_2 x3c_2)]⟩), (.agg ⟨[(.slice x0a_1 x0l_1 x0c_1), (.int .i64 x1_5)]⟩)] g20 M3 fun v g21 =>
  ∃ x0_4 : Int, ∃ x1_6 : Int, ∃ x2_4 : ByteArray, ∃ x3a_4 : Option Addr, ∃ x3l_4 : Nat, ∃ x3c_4 : Nat, v = (.agg ⟨[(.int .i64 x0_4), (.int .i64 x1_6), (.string x2_4), (.slice x3a_4 x3l_4 x3c_4)]⟩) ∧ SameBut MR1 g9 g21 ∧ ∀ g22 : G, Ex g21 g22 →
  ∀ g23 : G, NewL g22 g23 24 [(.int .i64 x0_4), (.int .i64 x1_6), (.string x2_4), (.slice x3a_4 x3l_4 x3c_4)] →
  ∃ xa_1 : Option Addr, ∃ xl_1 : Nat, ∃ xc_1 : Nat, ∃ wo2 : World, Sem.run Try.prog (Builtin.append_ #[22, 22] 22 #[(.slice out3a_1 out3l_1 out3c_1), (.slice (some ⟨g22.w.heap.size, 0, none⟩) 1 1)]) g23.w = .ok (.slice xa_1 xl_1 xc_1) wo2 ∧ ∃ g24 : G, g24.w = wo2 ∧ Stp g.w.heap.size M g23 g24 ∧ ∀ g25 : G, Ex g24 g25 →
  J_2 out0_1 out1_1 out2_1 xa_1 xl_1 xc_1 g25)) ∧ (∀ g26 : G, Ex g19 g26 →
  ∃ M4 : Nat → Prop, (∀ b, b < g.w.heap.size → M4 b → M b) ∧ (CallsG Try.prog 18 #[(.pointer c), (.agg ⟨[(.int .i64 x0_2), (.int .i64 x1_2), (.string x2_2), (.slice x3a_2 x3l_2 x3c_2)]⟩), (.agg ⟨[(.slice x0a_1 x0l_1 x0c_1), (.int .i64 x1_5)]⟩)] g26 M4 fun v g27 =>
  ∃ x0_5 : Int, ∃ x1_7 : Int, ∃ x2_5 : ByteArray, ∃ x3a_5 : Option Addr, ∃ x3l_5 : Nat, ∃ x3c_5 : Nat, v = (.agg ⟨[(.int .i64 x0_5), (.int .i64 x1_7), (.string x2_5), (.slice x3a_5 x3l_5 x3c_5)]⟩) ∧ SameBut MR1 g9 g27 ∧ Rep 1 (∀ g28 : G, Ex g27 g28 →
  ∀ g29 : G, NewL g28 g29 24 [(.int .i64 x0_5), (.int .i64 x1_7), (.string x2_5), (.slice x3a_5 x3l_5 x3c_5)] →
  ∃ xa_2 : Option Addr, ∃ xl_2 : Nat, ∃ xc_2 : Nat, ∃ wo3 : World, Sem.run Try.prog (Builtin.append_ #[22, 22] 22 #[(.slice out3a_1 out3l_1 out3c_1), (.slice (some ⟨g28.w.heap.size, 0, none⟩) 1 1)]) g29.w = .ok (.slice xa_2 xl_2 xc_2) wo3 ∧ ∃ g30 : G, g30.w = wo3 ∧ Stp g.w.heap.size M g29 g30 ∧ ∀ g31 : G, Ex g30 g31 →
  J_2 out0_1 out1_1 out2_1 xa_2 xl_2 xc_2 g31))))))
  (∀ g36 : G, Ex g8 g36 →
  ∃ MR5 : Nat → Prop, (∀ b, MR5 b → ¬ g36.X b) ∧ (∀ g37 : G, Ex g36 g37 →
  ∃ M6 : Nat → Prop, (∀ b, b < g.w.heap.size → M6 b → M b) ∧ (CallsG Try.prog 18 #[(.pointer c), (.agg ⟨[(.int .i64 x0_2), (.int .i64 x1_2), (.string x2_2), (.slice x3a_2 x3l_2 x3c_2)]⟩), (.agg ⟨[(.slice s0a s0l s0c), (.int .i64 s1)]⟩)] g37 M6 fun v g38 =>
  ∃ x0_6 : Int, ∃ x1_8 : Int, ∃ x2_6 : ByteArray, ∃ x3a_6 : Option Addr, ∃ x3l_6 : Nat, ∃ x3c_6 : Nat, v = (.agg ⟨[(.int .i64 x0_6), (.int .i64 x1_8), (.string x2_6), (.slice x3a_6 x3l_6 x3c_6)]⟩) ∧ SameBut MR5 g36 g38 ∧ ∀ g39 : G, Ex g38 g39 →
  ∀ g40 : G, NewL g39 g40 24 [(.int .i64 x0_6), (.int .i64 x1_8), (.string x2_6), (.slice x3a_6 x3l_6 x3c_6)] →
  ∃ xa_4 : Option Addr, ∃ xl_4 : Nat, ∃ xc_4 : Nat, ∃ wo5 : World, Sem.run Try.prog (Builtin.append_ #[22, 22] 22 #[(.slice out3a_1 out3l_1 out3c_1), (.slice (some ⟨g39.w.heap.size, 0, none⟩) 1 1)]) g40.w = .ok (.slice xa_4 xl_4 xc_4) wo5 ∧ ∃ g41 : G, g41.w = wo5 ∧ Stp g.w.heap.size M g40 g41 ∧ ∀ g42 : G, Ex g41 g42 →
  J_2 out0_1 out1_1 out2_1 xa_4 xl_4 xc_4 g42)) ∧ (∀ g43 : G, Ex g36 g43 →
  ∃ M7 : Nat → Prop, (∀ b, b < g.w.heap.size → M7 b → M b) ∧ (CallsG Try.prog 18 #[(.pointer c), (.agg ⟨[(.int .i64 x0_2), (.int .i64 x1_2), (.string x2_2), (.slice x3a_2 x3l_2 x3c_2)]⟩), (.agg ⟨[(.slice s0a s0l s0c), (.int .i64 s1)]⟩)] g43 M7 fun v g44 =>
  ∃ x0_7 : Int, ∃ x1_9 : Int, ∃ x2_7 : ByteArray, ∃ x3a_7 : Option Addr, ∃ x3l_7 : Nat, ∃ x3c_7 : Nat, v = (.agg ⟨[(.int .i64 x0_7), (.int .i64 x1_9), (.string x2_7), (.slice x3a_7 x3l_7 x3c_7)]⟩) ∧ SameBut MR5 g36 g44 ∧ Rep 1 (∀ g45 : G, Ex g44 g45 →
  ∀ g46 : G, NewL g45 g46 24 [(.int .i64 x0_7), (.int .i64 x1_9), (.string x2_7), (.slice x3a_7 x3l_7 x3c_7)] →
  ∃ xa_5 : Option Addr, ∃ xl_5 : Nat, ∃ xc_5 : Nat, ∃ wo6 : World, Sem.run Try.prog (Builtin.append_ #[22, 22] 22 #[(.slice out3a_1 out3l_1 out3c_1), (.slice (some ⟨g45.w.heap.size, 0, none⟩) 1 1)]) g46.w = .ok (.slice xa_5 xl_5 xc_5) wo6 ∧ ∃ g47 : G, g47.w = wo6 ∧ Stp g.w.heap.size M g46 g47 ∧ ∀ g48 : G, Ex g47 g48 →
  J_2 out0_1 out1_1 out2_1 xa_5 xl_5 xc_5 g48))))))
  (∀ g53 : G, Ex g5 g53 →
  R (.agg ⟨[(.int .i64 out0_1), (.int .i64 out1_1), (.string out2_1), (.slice out3a_1 out3l_1 out3c_1)]⟩) g53)) → J_1 out0 out1 out2 out3a out3l out3c g4) →
  ifB (eqI x0 (5 : Int))
  (∀ g54 : G, Ex g3 g54 →
  J_1 (25 : Int) x1 x2 none 0 0 g54)
  (∀ g55 : G, Ex g3 g55 →
  J_1 x0 x1 x2 none 0 0 g55)) → J x0_1 x1_1 x2_1 x3a_1 x3l_1 x3c_1 g3) →
  ifB (eqI x0 (1 : Int))
  ((CallsP Try.prog 33 #[(.agg ⟨[(.slice s0a s0l s0c), (.int .i64 s1)]⟩), (.int .i64 x1)] g1 fun v g56 =>
  ∃ x0_8 : Int, ∃ x1_10 : Int, ∃ x2_8 : ByteArray, ∃ x3a_8 : Option Addr, ∃ x3l_8 : Nat, ∃ x3c_8 : Nat, v = (.agg ⟨[(.int .i64 x0_8), (.int .i64 x1_10), (.string x2_8), (.slice x3a_8 x3l_8 x3c_8)]⟩) ∧ ∀ g57 : G, Ex g56 g57 →
  R (.agg ⟨[(.int .i64 x0_8), (.int .i64 x1_10), (.string x2_8), (.slice x3a_8 x3l_8 x3c_8)]⟩) g57))
  (ifB (eqI x0 (4 : Int))
  (∃ M8 : Nat → Prop, (∀ b, b < g.w.heap.size → M8 b → M b) ∧ (CallsG Try.prog 34 #[(.pointer c), (.agg ⟨[(.int .i64 x0), (.int .i64 x1), (.string x2), (.slice x3a x3l x3c)]⟩), (.agg ⟨[(.slice s0a s0l s0c), (.int .i64 s1)]⟩)] g1 M8 fun v g58 =>
  ∃ x0_9 : Int, ∃ x1_11 : Int, ∃ x2_9 : ByteArray, ∃ x3a_9 : Option Addr, ∃ x3l_9 : Nat, ∃ x3c_9 : Nat, v = (.agg ⟨[(.int .i64 x0_9), (.int .i64 x1_11), (.string x2_9), (.slice x3a_9 x3l_9 x3c_9)]⟩) ∧ ∀ g59 : G, Ex g58 g59 →
  R (.agg ⟨[(.int .i64 x0_9), (.int .i64 x1_11), (.string x2_9), (.slice x3a_9 x3l_9 x3c_9)]⟩) g59))
  (ifB (eqI x0 (10 : Int))
  (∃ M9 : Nat → Prop, (∀ b, b < g.w.heap.size → M9 b → M b) ∧ (CallsG Try.prog 34 #[(.pointer c), (.agg ⟨[(.int .i64 x0), (.int .i64 x1), (.string x2), (.slice x3a x3l x3c)]⟩), (.agg ⟨[(.slice s0a s0l s0c), (.int .i64 s1)]⟩)] g1 M9 fun v g60 =>
  ∃ x0_10 : Int, ∃ x1_12 : Int, ∃ x2_10 : ByteArray, ∃ x3a_10 : Option Addr, ∃ x3l_10 : Nat, ∃ x3c_10 : Nat, v = (.agg ⟨[(.int .i64 x0_10), (.int .i64 x1_12), (.string x2_10), (.slice x3a_10 x3l_10 x3c_10)]⟩) ∧ ∀ g61 : G, Ex g60 g61 →
  R (.agg ⟨[(.int .i64 x0_10), (.int .i64 x1_12), (.string x2_10), (.slice x3a_10 x3l_10 x3c_10)]⟩) g61))
  (J (0 : Int) (0 : Int) (bs []) none 0 0 g1))))
theorem F18_eq (c : Option Addr) (x0 : Int) (x1 : Int) (x2 : ByteArray) (x3a : Option Addr) (x3l : Nat) (x3c : Nat) (s0a : Option Addr) (s0l : Nat) (s0c : Nat) (s1 : Int) (g : G) (M : Nat → Prop) (R : Value → G → Prop) : fnG cfg18 74 [.cell 6 24] c18 an18 [(.pointer c), (.agg ⟨[(.int .i64 x0), (.int .i64 x1), (.string x2), (.slice x3a x3l x3c)]⟩), (.agg ⟨[(.slice s0a s0l s0c), (.int .i64 s1)]⟩)] g M R = F18 c x0 x1 x2 x3a x3l x3c s0a s0l s0c s1 g M R := by kernel_rfl
theorem call18 (c : Option Addr) (x0 : Int) (x1 : Int) (x2 : ByteArray) (x3a : Option Addr) (x3l : Nat) (x3c : Nat) (s0a : Option Addr) (s0l : Nat) (s0c : Nat) (s1 : Int) (g : G) (M : Nat → Prop) (R : Value → G → Prop) (hF : F18 c x0 x1 x2 x3a x3l x3c s0a s0l s0c s1 g M R) : CallsG Try.prog 18 #[(.pointer c), (.agg ⟨[(.int .i64 x0), (.int .i64 x1), (.string x2), (.slice x3a x3l x3c)]⟩), (.agg ⟨[(.slice s0a s0l s0c), (.int .i64 s1)]⟩)] g M R :=
  fn_soundG (c := cfg18) TTok FNSok mixed Try.func18 (show Try.f18.body = some c18 by kernel_rfl) (show Try.f18.ntmps = 74 by kernel_rfl) (show Try.f18.results.toList = [.cell 6 24] by kernel_rfl) rfl ((F18_eq c x0 x1 x2 x3a x3l x3c s0a s0l s0c s1 g M R ).mpr hF)

/- 19 slices.ContainsFunc[[]pilaster/api.Flat,pilaster/api.Flat] -/
noncomputable def c19 : Code := match Try.f19.body with
  | some c => c
  | none => .skip
noncomputable def cfg19 : Cfg := ⟨Try.prog, TT, FNS, [], [], [], TCH, false, false, none, PNF, false⟩
def an19 : AnnG := (.seq .leaf (.seq .leaf .leaf))
def F19 (sa : Option Addr) (sl : Nat) (sc : Nat) (ff : FuncId) (fc : Array Value) (g : G) (R : Value → G → Prop) : Prop :=
  (CallsP Try.prog 37 #[(.slice sa sl sc), (.func (.func ff) #[] fc)] g fun v g1 =>
  ∃ x : Int, v = (.int .i64 x) ∧ ∀ g2 : G, Ex g1 g2 →
  R (.bool (leI (0 : Int) x)) g2)
theorem F19_eq (sa : Option Addr) (sl : Nat) (sc : Nat) (ff : FuncId) (fc : Array Value) (g : G) (R : Value → G → Prop) : fnG cfg19 9 [.tmp 4] c19 an19 [(.slice sa sl sc), (.func (.func ff) #[] fc)] g nobody R = F19 sa sl sc ff fc g R := by kernel_rfl
theorem call19 (sa : Option Addr) (sl : Nat) (sc : Nat) (ff : FuncId) (fc : Array Value) (g : G) (R : Value → G → Prop) (hF : F19 sa sl sc ff fc g R) : CallsG Try.prog 19 #[(.slice sa sl sc), (.func (.func ff) #[] fc)] g nobody R :=
  fn_soundG (c := cfg19) TTok FNSok mixed Try.func19 (show Try.f19.body = some c19 by kernel_rfl) (show Try.f19.ntmps = 9 by kernel_rfl) (show Try.f19.results.toList = [.tmp 4] by kernel_rfl) rfl ((F19_eq sa sl sc ff fc g R ).mpr hF)

/- 20 pilaster/closure.Convert$1 -/
noncomputable def c20 : Code := match Try.f20.body with
  | some c => c
  | none => .skip
noncomputable def cfg20 : Cfg := ⟨Try.prog, TT, FNS, [1], [(1, 1), (3, 1)], [], TCH, false, false, none, PNF, false⟩
def an20 : AnnG := (.seq .leaf (.seq .leaf .leaf))
def F20 (f0 : Int) (f1 : Int) (f2 : Int) (f3 : ByteArray) (f4a : Option Addr) (f4l : Nat) (f4c : Nat) (g : G) (R : Value → G → Prop) : Prop :=
  ∀ g1 : G, Ex g g1 →
  (CallsP Try.prog 21 #[(.agg ⟨[(.int .i64 f1), (.int .i64 f2), (.string f3), (.slice f4a f4l f4c)]⟩)] g1 fun v g2 =>
  ∃ x : Bool, v = (.bool x) ∧ ∀ g3 : G, Ex g2 g3 →
  R (.bool x) g3)
theorem F20_eq (f0 : Int) (f1 : Int) (f2 : Int) (f3 : ByteArray) (f4a : Option Addr) (f4l : Nat) (f4c : Nat) (g : G) (R : Value → G → Prop) : fnG cfg20 6 [.tmp 2] c20 an20 [(.agg ⟨[(.int .i64 f0), (.int .i64 f1), (.int .i64 f2), (.string f3), (.slice f4a f4l f4c)]⟩)] g nobody R = F20 f0 f1 f2 f3 f4a f4l f4c g R := by kernel_rfl
theorem call20 (f0 : Int) (f1 : Int) (f2 : Int) (f3 : ByteArray) (f4a : Option Addr) (f4l : Nat) (f4c : Nat) (g : G) (R : Value → G → Prop) (hF : F20 f0 f1 f2 f3 f4a f4l f4c g R) : CallsG Try.prog 20 #[(.agg ⟨[(.int .i64 f0), (.int .i64 f1), (.int .i64 f2), (.string f3), (.slice f4a f4l f4c)]⟩)] g nobody R :=
  fn_soundG (c := cfg20) TTok FNSok mixed Try.func20 (show Try.f20.body = some c20 by kernel_rfl) (show Try.f20.ntmps = 6 by kernel_rfl) (show Try.f20.results.toList = [.tmp 2] by kernel_rfl) rfl ((F20_eq f0 f1 f2 f3 f4a f4l f4c g R ).mpr hF)

/- 21 pilaster/closure.large -/
noncomputable def c21 : Code := match Try.f21.body with
  | some c => c
  | none => .skip
noncomputable def cfg21 : Cfg := ⟨Try.prog, TT, FNS, [1], [(1, 1)], [], TCH, false, false, none, PNF, false⟩
def an21 : AnnG := (.seq .leaf (.seq .leaf (.seq .leaf .leaf)))
def F21 (x0 : Int) (x1 : Int) (x2 : ByteArray) (x3a : Option Addr) (x3l : Nat) (x3c : Nat) (g : G) (R : Value → G → Prop) : Prop :=
  ∀ g1 : G, Ex g g1 →
  (CallsP Try.prog 38 #[(.agg ⟨[(.int .i64 x0), (.int .i64 x1), (.string x2), (.slice x3a x3l x3c)]⟩)] g1 fun v g2 =>
  ∃ x0_1 : Int, ∃ x1_1 : Int, v = (.tuple ⟨[(.int .i64 x0_1), (.int .i64 x1_1)]⟩) ∧ ifB (ltI (20000 : Int) x0_1)
  (∀ g3 : G, Ex g2 g3 →
  R (.bool true) g3)
  (∀ g4 : G, Ex g2 g4 →
  R (.bool (ltI (400 : Int) x1_1)) g4))
theorem F21_eq (x0 : Int) (x1 : Int) (x2 : ByteArray) (x3a : Option Addr) (x3l : Nat) (x3c : Nat) (g : G) (R : Value → G → Prop) : fnG cfg21 16 [.tmp 2] c21 an21 [(.agg ⟨[(.int .i64 x0), (.int .i64 x1), (.string x2), (.slice x3a x3l x3c)]⟩)] g nobody R = F21 x0 x1 x2 x3a x3l x3c g R := by kernel_rfl
theorem call21 (x0 : Int) (x1 : Int) (x2 : ByteArray) (x3a : Option Addr) (x3l : Nat) (x3c : Nat) (g : G) (R : Value → G → Prop) (hF : F21 x0 x1 x2 x3a x3l x3c g R) : CallsG Try.prog 21 #[(.agg ⟨[(.int .i64 x0), (.int .i64 x1), (.string x2), (.slice x3a x3l x3c)]⟩)] g nobody R :=
  fn_soundG (c := cfg21) TTok FNSok mixed Try.func21 (show Try.f21.body = some c21 by kernel_rfl) (show Try.f21.ntmps = 16 by kernel_rfl) (show Try.f21.results.toList = [.tmp 2] by kernel_rfl) rfl ((F21_eq x0 x1 x2 x3a x3l x3c g R ).mpr hF)

/- 22 pilaster/pilasterref44.count -/
noncomputable def c22 : Code := match Try.f22.body with
  | some c => c
  | none => .skip
noncomputable def cfg22 : Cfg := ⟨Try.prog, TT, FNS, [3], [(3, 3), (22, 3), (32, 3)], [], TCH, false, false, none, PNF, false⟩
def an22 : AnnG := (.seq .leaf (.join ⟨[], [], []⟩ (.seq .leaf (.cond (.seq .leaf .leaf) .leaf)) (.seq .leaf (.seq (.seq .leaf (.blk (.loop ⟨[(1, .int .i64), (7, .int .i64)], [], []⟩ (.join ⟨[], [], []⟩ (.seq .leaf (.cond .leaf .leaf)) (.seq (.blk .leaf) .leaf))))) (.seq .leaf .leaf)))))
def F22 (x0 : Int) (x1 : Int) (x2 : ByteArray) (x3a : Option Addr) (x3l : Nat) (x3c : Nat) (left : Int) (depth : Int) (g : G) (R : Value → G → Prop) : Prop :=
  ∀ J : G → Prop,
  (∀ g1 : G, (InI64 (left - (1 : Int)) ∧ ∃ Inv : Nat → Int → Int → G → Prop, ((∃ m0 : Nat, Inv m0 (left - (1 : Int)) (0 : Int) g1)) ∧
  ∀ m : Nat, ∀ left_1 : Int, ∀ i : Int, ∀ g2 : G, Le g1 g2 → Inv m left_1 i g2 →
  ∀ J_1 : G → Prop,
  (∀ g3 : G, ((0 ≤ i ∧ i < ((x3l : Nat) : Int)) ∧ derefP x3a fun ad => ∃ x0_1 : Int, ∃ x1_1 : Int, ∃ x2_1 : ByteArray, ∃ x3a_1 : Option Addr, ∃ x3l_1 : Nat, ∃ x3c_1 : Nat, g3.w.cell? (Addr.add ad (Int.toNat i * 4)) = some (.int .i64 x0_1) ∧ g3.w.cell? (Addr.add (Addr.add ad (Int.toNat i * 4)) 1) = some (.int .i64 x1_1) ∧ g3.w.cell? (Addr.add (Addr.add ad (Int.toNat i * 4)) 2) = some (.string x2_1) ∧ g3.w.cell? (Addr.add (Addr.add ad (Int.toNat i * 4)) 3) = some (.slice x3a_1 x3l_1 x3c_1) ∧ InI64 (depth - (1 : Int)) ∧ (CallsP Try.prog 22 #[(.agg ⟨[(.int .i64 x0_1), (.int .i64 x1_1), (.string x2_1), (.slice x3a_1 x3l_1 x3c_1)]⟩), (.int .i64 left_1), (.int .i64 (depth - (1 : Int)))] g3 fun v g4 =>
  ∃ left_2 : Int, v = (.int .i64 left_2) ∧ InI64 (i + (1 : Int)) ∧ (∃ m_1 : Nat, m_1 < m ∧ Inv m_1 left_2 (i + (1 : Int)) g4))) → J_1 g3) →
  ifB (ltI i ((x3l : Nat) : Int))
  (ifB (leI (0 : Int) left_1)
  (J_1 g2)
  (∀ g5 : G, Ex g2 g5 →
  R (.int .i64 left_1) g5))
  (∀ g6 : G, Ex g2 g6 →
  R (.int .i64 left_1) g6)) → J g1) →
  ifB (ltI left (1 : Int))
  (∀ g7 : G, Ex g g7 →
  R (.int .i64 (-1 : Int)) g7)
  (ifB (ltI depth (1 : Int))
  (∀ g8 : G, Ex g g8 →
  R (.int .i64 (-1 : Int)) g8)
  (∀ g9 : G, Ex g g9 →
  (CallsP Try.prog 39 #[(.agg ⟨[(.int .i64 x0), (.int .i64 x1), (.string x2), (.slice x3a x3l x3c)]⟩)] g9 fun v g10 =>
  ∃ x : Bool, v = (.bool x) ∧ ifB (!x)
  (∀ g11 : G, Ex g10 g11 →
  R (.int .i64 (-1 : Int)) g11)
  (J g10))))
theorem F22_eq (x0 : Int) (x1 : Int) (x2 : ByteArray) (x3a : Option Addr) (x3l : Nat) (x3c : Nat) (left : Int) (depth : Int) (g : G) (R : Value → G → Prop) : fnG cfg22 42 [.tmp 6] c22 an22 [(.agg ⟨[(.int .i64 x0), (.int .i64 x1), (.string x2), (.slice x3a x3l x3c)]⟩), (.int .i64 left), (.int .i64 depth)] g nobody R = F22 x0 x1 x2 x3a x3l x3c left depth g R := by kernel_rfl
theorem call22 (x0 : Int) (x1 : Int) (x2 : ByteArray) (x3a : Option Addr) (x3l : Nat) (x3c : Nat) (left : Int) (depth : Int) (g : G) (R : Value → G → Prop) (hF : F22 x0 x1 x2 x3a x3l x3c left depth g R) : CallsG Try.prog 22 #[(.agg ⟨[(.int .i64 x0), (.int .i64 x1), (.string x2), (.slice x3a x3l x3c)]⟩), (.int .i64 left), (.int .i64 depth)] g nobody R :=
  fn_soundG (c := cfg22) TTok FNSok mixed Try.func22 (show Try.f22.body = some c22 by kernel_rfl) (show Try.f22.ntmps = 42 by kernel_rfl) (show Try.f22.results.toList = [.tmp 6] by kernel_rfl) rfl ((F22_eq x0 x1 x2 x3a x3l x3c left depth g R ).mpr hF)

/- 23 pilaster/pilasterref44.free -/
noncomputable def c23 : Code := match Try.f23.body with
  | some c => c
  | none => .skip
noncomputable def cfg23 : Cfg := ⟨Try.prog, TT, FNS, [3], [(3, 3), (8, 3), (12, 3), (18, 3), (24, 3), (30, 3)], [], TCH, false, false, none, PNF, false⟩
def an23 : AnnG := (.seq .leaf (.seq (.join ⟨[(16, .bool)], [], []⟩ .leaf (.cond (.seq .leaf .leaf) .leaf)) (.seq (.seq .leaf (.blk (.loop ⟨[(2, .sl), (7, .int .i64)], [], []⟩ (.seq (.seq .leaf (.cond .leaf .leaf)) (.seq (.blk (.tree 11 (.quiet 0 (.quiet 1 (.quiet 2 (.quiet 3 (.quiet 4 (.quiet 5 (.quiet 6 (.quiet 7 (.quiet 10 (.eff 8 (.quiet 9 .fin) .fin)))))))))))) .leaf))))) (.seq .leaf .leaf))))
def F23 (x0 : Int) (x1 : Int) (x2 : ByteArray) (x3a : Option Addr) (x3l : Nat) (x3c : Nat) (under : Int) (la : Option Addr) (ll : Nat) (lc : Nat) (g : G) (R : Value → G → Prop) : Prop :=
  ∀ J : Bool → G → Prop,
  (∀ v_1 : Bool, ∀ g1 : G, (ifB v_1
  (InI64 (x1 - under) ∧ (CallsP Try.prog 40 #[(.slice la ll lc), (.int .i64 (x1 - under))] g1 fun v g2 =>
  ∃ xa : Option Addr, ∃ xl : Nat, ∃ xc : Nat, v = (.slice xa xl xc) ∧ ∀ g3 : G, Ex g2 g3 →
  R (.slice xa xl xc) g3))
  (∃ Inv : Nat → Option Addr → Nat → Nat → Int → G → Prop, ((∃ m0 : Nat, Inv m0 la ll lc (0 : Int) g1)) ∧
  ∀ m : Nat, ∀ la_1 : Option Addr, ∀ ll_1 : Nat, ∀ lc_1 : Nat, ∀ i : Int, ∀ g4 : G, Le g1 g4 → Inv m la_1 ll_1 lc_1 i g4 →
  ifB (ltI i ((x3l : Nat) : Int))
  (∀ g5 : G, Ex g4 g5 →
  (0 ≤ i ∧ i < ((x3l : Nat) : Int)) ∧ derefP x3a fun ad => ∃ x0_1 : Int, ∃ x1_1 : Int, ∃ x2_1 : ByteArray, ∃ x3a_1 : Option Addr, ∃ x3l_1 : Nat, ∃ x3c_1 : Nat, g5.w.cell? (Addr.add ad (Int.toNat i * 4)) = some (.int .i64 x0_1) ∧ g5.w.cell? (Addr.add (Addr.add ad (Int.toNat i * 4)) 1) = some (.int .i64 x1_1) ∧ g5.w.cell? (Addr.add (Addr.add ad (Int.toNat i * 4)) 2) = some (.string x2_1) ∧ g5.w.cell? (Addr.add (Addr.add ad (Int.toNat i * 4)) 3) = some (.slice x3a_1 x3l_1 x3c_1) ∧ (CallsP Try.prog 41 #[(.agg ⟨[(.int .i64 x0), (.int .i64 x1), (.string x2), (.slice x3a x3l x3c)]⟩), (.int .i64 i)] g5 fun v g6 =>
  ∃ x : Int, v = (.int .i64 x) ∧ InI64 (under + x) ∧ (CallsP Try.prog 23 #[(.agg ⟨[(.int .i64 x0_1), (.int .i64 x1_1), (.string x2_1), (.slice x3a_1 x3l_1 x3c_1)]⟩), (.int .i64 (under + x)), (.slice la_1 ll_1 lc_1)] g6 fun v g7 =>
  ∃ la_2 : Option Addr, ∃ ll_2 : Nat, ∃ lc_2 : Nat, v = (.slice la_2 ll_2 lc_2) ∧ InI64 (i + (1 : Int)) ∧ (∃ m_1 : Nat, m_1 < m ∧ Inv m_1 la_2 ll_2 lc_2 (i + (1 : Int)) g7))))
  (∀ g8 : G, Ex g4 g8 →
  R (.slice la_1 ll_1 lc_1) g8))) → J v_1 g1) →
  ifB (eqI x0 (1 : Int))
  (∀ g9 : G, Ex g g9 →
  J (leI under x1) g9)
  (∀ g10 : G, Ex g g10 →
  J false g10)
theorem F23_eq (x0 : Int) (x1 : Int) (x2 : ByteArray) (x3a : Option Addr) (x3l : Nat) (x3c : Nat) (under : Int) (la : Option Addr) (ll : Nat) (lc : Nat) (g : G) (R : Value → G → Prop) : fnG cfg23 43 [.tmp 6] c23 an23 [(.agg ⟨[(.int .i64 x0), (.int .i64 x1), (.string x2), (.slice x3a x3l x3c)]⟩), (.int .i64 under), (.slice la ll lc)] g nobody R = F23 x0 x1 x2 x3a x3l x3c under la ll lc g R := by kernel_rfl
theorem call23 (x0 : Int) (x1 : Int) (x2 : ByteArray) (x3a : Option Addr) (x3l : Nat) (x3c : Nat) (under : Int) (la : Option Addr) (ll : Nat) (lc : Nat) (g : G) (R : Value → G → Prop) (hF : F23 x0 x1 x2 x3a x3l x3c under la ll lc g R) : CallsG Try.prog 23 #[(.agg ⟨[(.int .i64 x0), (.int .i64 x1), (.string x2), (.slice x3a x3l x3c)]⟩), (.int .i64 under), (.slice la ll lc)] g nobody R :=
  fn_soundG (c := cfg23) TTok FNSok mixed Try.func23 (show Try.f23.body = some c23 by kernel_rfl) (show Try.f23.ntmps = 43 by kernel_rfl) (show Try.f23.results.toList = [.tmp 6] by kernel_rfl) rfl ((F23_eq x0 x1 x2 x3a x3l x3c under la ll lc g R ).mpr hF)

/- 24 pilaster/pilasterref45.SameExp -/
noncomputable def c24 : Code := match Try.f24.body with
  | some c => c
  | none => .skip
noncomputable def cfg24 : Cfg := ⟨Try.prog, TT, FNS, [2, 3], [(2, 2), (3, 3), (6, 2), (8, 3), (12, 2), (14, 3), (19, 2), (21, 3), (26, 2), (29, 3), (35, 2), (41, 2), (46, 3)], [], TCH, false, false, none, PNF, false⟩
def an24 : AnnG := (.seq .leaf (.join ⟨[], [], []⟩ (.seq .leaf (.cond (.seq .leaf .leaf) .leaf)) (.seq (.seq .leaf (.blk (.loop ⟨[(5, .int .i64)], [], []⟩ (.seq (.seq .leaf (.cond .leaf .leaf)) (.seq (.blk (.seq (.tree 10 (.quiet 0 (.quiet 1 (.quiet 2 (.quiet 3 (.quiet 4 (.quiet 5 (.quiet 6 (.quiet 7 (.quiet 8 (.quiet 9 .fin))))))))))) (.cond (.seq .leaf .leaf) .leaf))) .leaf))))) (.seq .leaf .leaf))))
def F24 (a0 : Int) (a1 : Int) (a2 : ByteArray) (a3a : Option Addr) (a3l : Nat) (a3c : Nat) (b0 : Int) (b1 : Int) (b2 : ByteArray) (b3a : Option Addr) (b3l : Nat) (b3c : Nat) (g : G) (R : Value → G → Prop) : Prop :=
  ∀ J : G → Prop,
  (∀ g1 : G, (∃ Inv : Nat → Int → G → Prop, ((∃ m0 : Nat, Inv m0 (0 : Int) g1)) ∧
  ∀ m : Nat, ∀ i : Int, ∀ g2 : G, Le g1 g2 → Inv m i g2 →
  ifB (ltI i ((a3l : Nat) : Int))
  (∀ g3 : G, Ex g2 g3 →
  (0 ≤ i ∧ i < ((a3l : Nat) : Int)) ∧ derefP a3a fun ad => ∃ x0 : Int, ∃ x1 : Int, ∃ x2 : ByteArray, ∃ x3a : Option Addr, ∃ x3l : Nat, ∃ x3c : Nat, g3.w.cell? (Addr.add ad (Int.toNat i * 4)) = some (.int .i64 x0) ∧ g3.w.cell? (Addr.add (Addr.add ad (Int.toNat i * 4)) 1) = some (.int .i64 x1) ∧ g3.w.cell? (Addr.add (Addr.add ad (Int.toNat i * 4)) 2) = some (.string x2) ∧ g3.w.cell? (Addr.add (Addr.add ad (Int.toNat i * 4)) 3) = some (.slice x3a x3l x3c) ∧ (0 ≤ i ∧ i < ((b3l : Nat) : Int)) ∧ derefP b3a fun ad_1 => ∃ x0_1 : Int, ∃ x1_1 : Int, ∃ x2_1 : ByteArray, ∃ x3a_1 : Option Addr, ∃ x3l_1 : Nat, ∃ x3c_1 : Nat, g3.w.cell? (Addr.add ad_1 (Int.toNat i * 4)) = some (.int .i64 x0_1) ∧ g3.w.cell? (Addr.add (Addr.add ad_1 (Int.toNat i * 4)) 1) = some (.int .i64 x1_1) ∧ g3.w.cell? (Addr.add (Addr.add ad_1 (Int.toNat i * 4)) 2) = some (.string x2_1) ∧ g3.w.cell? (Addr.add (Addr.add ad_1 (Int.toNat i * 4)) 3) = some (.slice x3a_1 x3l_1 x3c_1) ∧ (CallsP Try.prog 24 #[(.agg ⟨[(.int .i64 x0), (.int .i64 x1), (.string x2), (.slice x3a x3l x3c)]⟩), (.agg ⟨[(.int .i64 x0_1), (.int .i64 x1_1), (.string x2_1), (.slice x3a_1 x3l_1 x3c_1)]⟩)] g3 fun v g4 =>
  ∃ x : Bool, v = (.bool x) ∧ ifB (!x)
  (∀ g5 : G, Ex g4 g5 →
  R (.bool false) g5)
  (InI64 (i + (1 : Int)) ∧ (∃ m_1 : Nat, m_1 < m ∧ Inv m_1 (i + (1 : Int)) g4))))
  (∀ g6 : G, Ex g2 g6 →
  R (.bool true) g6)) → J g1) →
  ifB (!eqI a0 b0)
  (∀ g7 : G, Ex g g7 →
  R (.bool false) g7)
  (ifB (!eqI a1 b1)
  (∀ g8 : G, Ex g g8 →
  R (.bool false) g8)
  (ifB (!strEq a2 b2)
  (∀ g9 : G, Ex g g9 →
  R (.bool false) g9)
  (ifB (!eqI ((a3l : Nat) : Int) ((b3l : Nat) : Int))
  (∀ g10 : G, Ex g g10 →
  R (.bool false) g10)
  (∀ g11 : G, Ex g g11 →
  J g11))))
theorem F24_eq (a0 : Int) (a1 : Int) (a2 : ByteArray) (a3a : Option Addr) (a3l : Nat) (a3c : Nat) (b0 : Int) (b1 : Int) (b2 : ByteArray) (b3a : Option Addr) (b3l : Nat) (b3c : Nat) (g : G) (R : Value → G → Prop) : fnG cfg24 53 [.tmp 4] c24 an24 [(.agg ⟨[(.int .i64 a0), (.int .i64 a1), (.string a2), (.slice a3a a3l a3c)]⟩), (.agg ⟨[(.int .i64 b0), (.int .i64 b1), (.string b2), (.slice b3a b3l b3c)]⟩)] g nobody R = F24 a0 a1 a2 a3a a3l a3c b0 b1 b2 b3a b3l b3c g R := by kernel_rfl
theorem call24 (a0 : Int) (a1 : Int) (a2 : ByteArray) (a3a : Option Addr) (a3l : Nat) (a3c : Nat) (b0 : Int) (b1 : Int) (b2 : ByteArray) (b3a : Option Addr) (b3l : Nat) (b3c : Nat) (g : G) (R : Value → G → Prop) (hF : F24 a0 a1 a2 a3a a3l a3c b0 b1 b2 b3a b3l b3c g R) : CallsG Try.prog 24 #[(.agg ⟨[(.int .i64 a0), (.int .i64 a1), (.string a2), (.slice a3a a3l a3c)]⟩), (.agg ⟨[(.int .i64 b0), (.int .i64 b1), (.string b2), (.slice b3a b3l b3c)]⟩)] g nobody R :=
  fn_soundG (c := cfg24) TTok FNSok mixed Try.func24 (show Try.f24.body = some c24 by kernel_rfl) (show Try.f24.ntmps = 53 by kernel_rfl) (show Try.f24.results.toList = [.tmp 4] by kernel_rfl) rfl ((F24_eq a0 a1 a2 a3a a3l a3c b0 b1 b2 b3a b3l b3c g R ).mpr hF)

/- 25 pilaster/pilasterref45.convert -/
noncomputable def c25 : Code := match Try.f25.body with
  | some c => c
  | none => .skip
noncomputable def cfg25 : Cfg := ⟨Try.prog, TT, FNS, [4, 7, 8, 9, 10, 14], [(4, 4), (7, 7), (8, 8), (9, 9), (10, 10), (14, 14), (15, 4), (20, 4), (36, 4), (47, 4), (49, 4), (51, 4), (54, 4), (57, 10), (59, 4), (80, 4), (91, 10), (96, 10)], [], TCH, false, false, none, PNF, false⟩
def an25 : AnnG := (.seq .leaf (.seq (.seq .leaf (.blk (.seq .leaf (.cond (.seq (.treeP true [8, 9] 6 (.quiet 0 (.quiet 1 (.quiet 2 (.quiet 4 (.eff 3 (.eff 5 .fin .fin) .fin)))))) .leaf) (.seq .leaf (.cond (.seq (.treeP true [8, 9] 8 (.quiet 0 (.quiet 1 (.quiet 3 (.quiet 4 (.eff 2 (.eff 5 (.quiet 6 (.quiet 7 .fin)) .fin) .fin)))))) .leaf) (.seq .leaf (.cond (.seq (.treeP true [8, 9] 11 (.quiet 0 (.quiet 1 (.quiet 2 (.quiet 3 (.quiet 4 (.quiet 6 (.quiet 7 (.eff 5 (.eff 8 (.quiet 9 (.quiet 10 .fin)) .fin) .fin))))))))) .leaf) .leaf)))))))) (.seq .leaf (.join ⟨[], [(10, 10, 0)], [(10, [(.int .i64), (.int .i64), (.str), (.sl)])]⟩ (.seq .leaf (.cond .leaf .leaf)) (.seq (.seq .leaf (.blk (.loop ⟨[(11, .int .i64)], [(7, 7, 0), (10, 10, 0)], [(7, [(.sl)]), (10, [(.int .i64), (.int .i64), (.str), (.sl)])]⟩ (.seq (.seq .leaf (.cond .leaf .leaf)) (.seq (.blk (.seq .leaf (.join ⟨[(12, .sl), (13, .int .i64)], [], []⟩ (.seq .leaf (.cond (.seq .leaf .leaf) .leaf)) (.seq .leaf (.seq (.treeP true [7, 14] 13 (.quiet 0 (.quiet 1 (.quiet 2 (.quiet 3 (.quiet 4 (.quiet 5 (.quiet 6 (.eff 7 (.eff 8 (.quiet 9 (.quiet 10 (.quiet 11 (.eff 12 .fin .fin)))) .fin) .fin))))))))) .leaf))))) .leaf))))) (.seq (.treeP true [8, 9] 3 (.quiet 0 (.quiet 1 (.eff 2 .fin .fin)))) .leaf))))))
def F25 (x0 : Int) (x1 : Int) (x2 : ByteArray) (x3a : Option Addr) (x3l : Nat) (x3c : Nat) (enva : Option Addr) (envl : Nat) (envc : Nat) (locals : Int) (c0a : Option Addr) (c0l : Nat) (c0c : Nat) (g : G) (M : Nat → Prop) (R : Value → G → Prop) : Prop :=
  ifB (eqI x0 (1 : Int))
  (∀ g1 : G, Ex g g1 →
  ∃ MR1 : Nat → Prop, (∀ b, MR1 b → ¬ g1.X b) ∧ ∀ g2 : G, Ex g1 g2 →
  (CallsP Try.prog 42 #[(.slice enva envl envc), (.int .i64 x1)] g2 fun v g3 =>
  ∃ x0_1 : Int, ∃ x1_1 : Int, ∃ x2_1 : ByteArray, ∃ x3a_1 : Option Addr, ∃ x3l_1 : Nat, ∃ x3c_1 : Nat, v = (.agg ⟨[(.int .i64 x0_1), (.int .i64 x1_1), (.string x2_1), (.slice x3a_1 x3l_1 x3c_1)]⟩) ∧ ∀ g4 : G, Ex g3 g4 →
  R (.tuple ⟨[(.agg ⟨[(.int .i64 x0_1), (.int .i64 x1_1), (.string x2_1), (.slice x3a_1 x3l_1 x3c_1)]⟩), (.agg ⟨[(.slice c0a c0l c0c)]⟩)]⟩) g4))
  (ifB (eqI x0 (4 : Int))
  (∀ g5 : G, Ex g g5 →
  ∃ MR2 : Nat → Prop, (∀ b, MR2 b → ¬ g5.X b) ∧ ∀ g6 : G, Ex g5 g6 →
  (CallsP Try.prog 9 #[(.agg ⟨[(.int .i64 x0), (.int .i64 x1), (.string x2), (.slice x3a x3l x3c)]⟩)] g6 fun v g7 =>
  ∃ xa : Option Addr, ∃ xl : Nat, ∃ xc : Nat, v = (.slice xa xl xc) ∧ ∀ g8 : G, Ex g7 g8 →
  ∃ M3 : Nat → Prop, (∀ b, b < g.w.heap.size → M3 b → M b) ∧ (CallsG Try.prog 43 #[(.agg ⟨[(.int .i64 x0), (.int .i64 x1), (.string x2), (.slice x3a x3l x3c)]⟩), (.slice xa xl xc), (.bool false), (.slice enva envl envc), (.agg ⟨[(.slice c0a c0l c0c)]⟩)] g8 M3 fun v g9 =>
  ∃ x00 : Int, ∃ x01 : Int, ∃ x02 : ByteArray, ∃ x03a : Option Addr, ∃ x03l : Nat, ∃ x03c : Nat, ∃ x10a : Option Addr, ∃ x10l : Nat, ∃ x10c : Nat, v = (.tuple ⟨[(.agg ⟨[(.int .i64 x00), (.int .i64 x01), (.string x02), (.slice x03a x03l x03c)]⟩), (.agg ⟨[(.slice x10a x10l x10c)]⟩)]⟩) ∧ SameBut MR2 g5 g9 ∧ ∀ g10 : G, Ex g9 g10 →
  R (.tuple ⟨[(.agg ⟨[(.int .i64 x00), (.int .i64 x01), (.string x02), (.slice x03a x03l x03c)]⟩), (.agg ⟨[(.slice x10a x10l x10c)]⟩)]⟩) g10)))
  (ifB (eqI x0 (10 : Int))
  (∀ g11 : G, Ex g g11 →
  ∃ MR4 : Nat → Prop, (∀ b, MR4 b → ¬ g11.X b) ∧ (0 ≤ (0 : Int) ∧ (0 : Int) < ((x3l : Nat) : Int)) ∧ derefP x3a fun ad => ¬ g11.X (Addr.block (Addr.add ad (Int.toNat (0 : Int) * 4))) ∧ ¬ MR4 (Addr.block (Addr.add ad (Int.toNat (0 : Int) * 4))) ∧ ∃ x0_2 : Int, ∃ x1_2 : Int, ∃ x2_2 : ByteArray, ∃ x3a_2 : Option Addr, ∃ x3l_2 : Nat, ∃ x3c_2 : Nat, g11.w.cell? (Addr.add ad (Int.toNat (0 : Int) * 4)) = some (.int .i64 x0_2) ∧ g11.w.cell? (Addr.add (Addr.add ad (Int.toNat (0 : Int) * 4)) 1) = some (.int .i64 x1_2) ∧ g11.w.cell? (Addr.add (Addr.add ad (Int.toNat (0 : Int) * 4)) 2) = some (.string x2_2) ∧ g11.w.cell? (Addr.add (Addr.add ad (Int.toNat (0 : Int) * 4)) 3) = some (.slice x3a_2 x3l_2 x3c_2) ∧ ∀ g12 : G, Ex g11 g12 →
  (CallsP Try.prog 9 #[(.agg ⟨[(.int .i64 x0), (.int .i64 x1), (.string x2), (.slice x3a x3l x3c)]⟩)] g12 fun v g13 =>
  ∃ xa_1 : Option Addr, ∃ xl_1 : Nat, ∃ xc_1 : Nat, v = (.slice xa_1 xl_1 xc_1) ∧ ∀ g14 : G, Ex g13 g14 →
  ∃ M5 : Nat → Prop, (∀ b, b < g.w.heap.size → M5 b → M b) ∧ (CallsG Try.prog 43 #[(.agg ⟨[(.int .i64 x0_2), (.int .i64 x1_2), (.string x2_2), (.slice x3a_2 x3l_2 x3c_2)]⟩), (.slice xa_1 xl_1 xc_1), (.bool true), (.slice enva envl envc), (.agg ⟨[(.slice c0a c0l c0c)]⟩)] g14 M5 fun v g15 =>
  ∃ x00_1 : Int, ∃ x01_1 : Int, ∃ x02_1 : ByteArray, ∃ x03a_1 : Option Addr, ∃ x03l_1 : Nat, ∃ x03c_1 : Nat, ∃ x10a_1 : Option Addr, ∃ x10l_1 : Nat, ∃ x10c_1 : Nat, v = (.tuple ⟨[(.agg ⟨[(.int .i64 x00_1), (.int .i64 x01_1), (.string x02_1), (.slice x03a_1 x03l_1 x03c_1)]⟩), (.agg ⟨[(.slice x10a_1 x10l_1 x10c_1)]⟩)]⟩) ∧ SameBut MR4 g11 g15 ∧ ∀ g16 : G, Ex g15 g16 →
  R (.tuple ⟨[(.agg ⟨[(.int .i64 x00_1), (.int .i64 x01_1), (.string x02_1), (.slice x03a_1 x03l_1 x03c_1)]⟩), (.agg ⟨[(.slice x10a_1 x10l_1 x10c_1)]⟩)]⟩) g16)))
  (∀ g17 : G, Ex g g17 →
  ∀ J : Int → Int → ByteArray → Option Addr → Nat → Nat → G → Prop,
  (∀ out0 : Int, ∀ out1 : Int, ∀ out2 : ByteArray, ∀ out3a : Option Addr, ∀ out3l : Nat, ∀ out3c : Nat, ∀ g18 : G, (∃ Inv : Nat → Int → Option Addr → Nat → Nat → Int → Int → ByteArray → Option Addr → Nat → Nat → G → Prop, ((∃ m0 : Nat, Inv m0 (0 : Int) c0a c0l c0c out0 out1 out2 out3a out3l out3c g18)) ∧
  ∀ m : Nat, ∀ i : Int, ∀ ca : Option Addr, ∀ cl : Nat, ∀ cc : Nat, ∀ out0_1 : Int, ∀ out1_1 : Int, ∀ out2_1 : ByteArray, ∀ out3a_1 : Option Addr, ∀ out3l_1 : Nat, ∀ out3c_1 : Nat, ∀ g19 : G, Le g18 g19 → Inv m i ca cl cc out0_1 out1_1 out2_1 out3a_1 out3l_1 out3c_1 g19 →
  ifB (ltI i ((x3l : Nat) : Int))
  (∀ J_1 : Option Addr → Nat → Nat → Int → G → Prop,
  (∀ owna : Option Addr, ∀ ownl : Nat, ∀ ownc : Nat, ∀ n : Int, ∀ g20 : G, (∀ g21 : G, Ex g20 g21 →
  ∃ MR6 : Nat → Prop, (∀ b, MR6 b → ¬ g21.X b) ∧ (0 ≤ i ∧ i < ((x3l : Nat) : Int)) ∧ derefP x3a fun ad_1 => ¬ g21.X (Addr.block (Addr.add ad_1 (Int.toNat i * 4))) ∧ ¬ MR6 (Addr.block (Addr.add ad_1 (Int.toNat i * 4))) ∧ ∃ x0_3 : Int, ∃ x1_3 : Int, ∃ x2_3 : ByteArray, ∃ x3a_3 : Option Addr, ∃ x3l_3 : Nat, ∃ x3c_3 : Nat, g21.w.cell? (Addr.add ad_1 (Int.toNat i * 4)) = some (.int .i64 x0_3) ∧ g21.w.cell? (Addr.add (Addr.add ad_1 (Int.toNat i * 4)) 1) = some (.int .i64 x1_3) ∧ g21.w.cell? (Addr.add (Addr.add ad_1 (Int.toNat i * 4)) 2) = some (.string x2_3) ∧ g21.w.cell? (Addr.add (Addr.add ad_1 (Int.toNat i * 4)) 3) = some (.slice x3a_3 x3l_3 x3c_3) ∧ ∀ g22 : G, Ex g21 g22 →
  ∃ M7 : Nat → Prop, (∀ b, b < g.w.heap.size → M7 b → M b) ∧ (CallsG Try.prog 25 #[(.agg ⟨[(.int .i64 x0_3), (.int .i64 x1_3), (.string x2_3), (.slice x3a_3 x3l_3 x3c_3)]⟩), (.slice owna ownl ownc), (.int .i64 n), (.agg ⟨[(.slice ca cl cc)]⟩)] g22 M7 fun v g23 =>
  ∃ x00_2 : Int, ∃ x01_2 : Int, ∃ x02_2 : ByteArray, ∃ x03a_2 : Option Addr, ∃ x03l_2 : Nat, ∃ x03c_2 : Nat, ∃ x10a_2 : Option Addr, ∃ x10l_2 : Nat, ∃ x10c_2 : Nat, v = (.tuple ⟨[(.agg ⟨[(.int .i64 x00_2), (.int .i64 x01_2), (.string x02_2), (.slice x03a_2 x03l_2 x03c_2)]⟩), (.agg ⟨[(.slice x10a_2 x10l_2 x10c_2)]⟩)]⟩) ∧ SameBut MR6 g21 g23 ∧ ∀ g24 : G, Ex g23 g24 →
  ∀ g25 : G, NewL g24 g25 24 [(.int .i64 x00_2), (.int .i64 x01_2), (.string x02_2), (.slice x03a_2 x03l_2 x03c_2)] →
  ∃ xa_2 : Option Addr, ∃ xl_2 : Nat, ∃ xc_2 : Nat, ∃ wo1 : World, Sem.run Try.prog (Builtin.append_ #[22, 22] 22 #[(.slice out3a_1 out3l_1 out3c_1), (.slice (some ⟨g24.w.heap.size, 0, none⟩) 1 1)]) g25.w = .ok (.slice xa_2 xl_2 xc_2) wo1 ∧ ∃ g26 : G, g26.w = wo1 ∧ Stp g.w.heap.size M g25 g26 ∧ InI64 (i + (1 : Int)) ∧ ∀ g27 : G, Ex g26 g27 →
  (∃ m_1 : Nat, m_1 < m ∧ Inv m_1 (i + (1 : Int)) x10a_2 x10l_2 x10c_2 out0_1 out1_1 out2_1 xa_2 xl_2 xc_2 g27))) → J_1 owna ownl ownc n g20) →
  (CallsP Try.prog 44 #[(.agg ⟨[(.int .i64 x0), (.int .i64 x1), (.string x2), (.slice x3a x3l x3c)]⟩), (.int .i64 i)] g19 fun v g28 =>
  ∃ x : Bool, v = (.bool x) ∧ ifB x
  (∀ g29 : G, NewL g28 g29 24 [] →
  ∃ xa_3 : Option Addr, ∃ xl_3 : Nat, ∃ xc_3 : Nat, ∃ wo2 : World, Sem.run Try.prog (Builtin.append_ #[22, 22] 22 #[(.slice (some ⟨g28.w.heap.size, 0, none⟩) 0 0), (.slice enva envl envc)]) g29.w = .ok (.slice xa_3 xl_3 xc_3) wo2 ∧ ∃ g30 : G, g30.w = wo2 ∧ Stp g.w.heap.size M g29 g30 ∧ (CallsP Try.prog 45 #[(.int .i64 (21 : Int)), (.int .i64 locals)] g30 fun v g31 =>
  ∃ x0_4 : Int, ∃ x1_4 : Int, ∃ x2_4 : ByteArray, ∃ x3a_4 : Option Addr, ∃ x3l_4 : Nat, ∃ x3c_4 : Nat, v = (.agg ⟨[(.int .i64 x0_4), (.int .i64 x1_4), (.string x2_4), (.slice x3a_4 x3l_4 x3c_4)]⟩) ∧ ∀ g32 : G, NewL g31 g32 24 [(.int .i64 x0_4), (.int .i64 x1_4), (.string x2_4), (.slice x3a_4 x3l_4 x3c_4)] →
  ∃ owna_1 : Option Addr, ∃ ownl_1 : Nat, ∃ ownc_1 : Nat, ∃ wo3 : World, Sem.run Try.prog (Builtin.append_ #[22, 22] 22 #[(.slice xa_3 xl_3 xc_3), (.slice (some ⟨g31.w.heap.size, 0, none⟩) 1 1)]) g32.w = .ok (.slice owna_1 ownl_1 ownc_1) wo3 ∧ ∃ g33 : G, g33.w = wo3 ∧ Stp g.w.heap.size M g32 g33 ∧ InI64 (locals + (1 : Int)) ∧ J_1 owna_1 ownl_1 ownc_1 (locals + (1 : Int)) g33))
  (J_1 enva envl envc locals g28)))
  (∀ g34 : G, Ex g19 g34 →
  ∃ MR8 : Nat → Prop, (∀ b, MR8 b → ¬ g34.X b) ∧ ∀ g35 : G, Ex g34 g35 →
  R (.tuple ⟨[(.agg ⟨[(.int .i64 out0_1), (.int .i64 out1_1), (.string out2_1), (.slice out3a_1 out3l_1 out3c_1)]⟩), (.agg ⟨[(.slice ca cl cc)]⟩)]⟩) g35)) → J out0 out1 out2 out3a out3l out3c g18) →
  ifB (eqI x0 (5 : Int))
  (∀ g36 : G, Ex g17 g36 →
  J (25 : Int) x1 x2 none 0 0 g36)
  (∀ g37 : G, Ex g17 g37 →
  J x0 x1 x2 none 0 0 g37))))
theorem F25_eq (x0 : Int) (x1 : Int) (x2 : ByteArray) (x3a : Option Addr) (x3l : Nat) (x3c : Nat) (enva : Option Addr) (envl : Nat) (envc : Nat) (locals : Int) (c0a : Option Addr) (c0l : Nat) (c0c : Nat) (g : G) (M : Nat → Prop) (R : Value → G → Prop) : fnG cfg25 99 [.cell 8 24, .cell 9 55] c25 an25 [(.agg ⟨[(.int .i64 x0), (.int .i64 x1), (.string x2), (.slice x3a x3l x3c)]⟩), (.slice enva envl envc), (.int .i64 locals), (.agg ⟨[(.slice c0a c0l c0c)]⟩)] g M R = F25 x0 x1 x2 x3a x3l x3c enva envl envc locals c0a c0l c0c g M R := by kernel_rfl
theorem call25 (x0 : Int) (x1 : Int) (x2 : ByteArray) (x3a : Option Addr) (x3l : Nat) (x3c : Nat) (enva : Option Addr) (envl : Nat) (envc : Nat) (locals : Int) (c0a : Option Addr) (c0l : Nat) (c0c : Nat) (g : G) (M : Nat → Prop) (R : Value → G → Prop) (hF : F25 x0 x1 x2 x3a x3l x3c enva envl envc locals c0a c0l c0c g M R) : CallsG Try.prog 25 #[(.agg ⟨[(.int .i64 x0), (.int .i64 x1), (.string x2), (.slice x3a x3l x3c)]⟩), (.slice enva envl envc), (.int .i64 locals), (.agg ⟨[(.slice c0a c0l c0c)]⟩)] g M R :=
  fn_soundG (c := cfg25) TTok FNSok mixed Try.func25 (show Try.f25.body = some c25 by kernel_rfl) (show Try.f25.ntmps = 99 by kernel_rfl) (show Try.f25.results.toList = [.cell 8 24, .cell 9 55] by kernel_rfl) rfl ((F25_eq x0 x1 x2 x3a x3l x3c enva envl envc locals c0a c0l c0c g M R ).mpr hF)

/- 26 pilaster/closure.function -/
noncomputable def c26 : Code := match Try.f26.body with
  | some c => c
  | none => .skip
noncomputable def cfg26 : Cfg := ⟨Try.prog, TT, FNS, [2], [(2, 2), (6, 2), (11, 2), (15, 2), (22, 2)], [], TCH, true, false, none, PNF, false⟩
def an26 : AnnG := (.seq .leaf (.seq .leaf (.seq .leaf .leaf)))
def F26 (f0 : Int) (f1 : Int) (f2 : Int) (f3 : ByteArray) (f4a : Option Addr) (f4l : Nat) (f4c : Nat) (closuresf : FuncId) (closuresc : Array Value) (g : G) (M : Nat → Prop) (R : Value → G → Prop) : Prop :=
  ∀ g1 : G, Ex g g1 →
  ∀ g2 : G, NewD g1 g2 79 ([(.int .i64 f0), (.func (.func closuresf) #[] closuresc)] : List Value) →
  (CallsP Try.prog 28 #[(.int .i64 f0), (.int .i64 (0 : Int)), (.int .i64 (1000 : Int))] g2 fun v g3 =>
  ∃ x : Bool, v = (.bool x) ∧ ifB x
  ((CallsP Try.prog 21 #[(.agg ⟨[(.int .i64 f1), (.int .i64 f2), (.string f3), (.slice f4a f4l f4c)]⟩)] g3 fun v g4 =>
  ∃ x_1 : Bool, v = (.bool x_1) ∧ ifB (!x_1)
  (∃ M1 : Nat → Prop, (∀ b, b < g.w.heap.size → M1 b → M b) ∧ (CallsG Try.prog 46 #[(.pointer (some ⟨g1.w.heap.size, 0, none⟩)), (.agg ⟨[(.int .i64 f1), (.int .i64 f2), (.string f3), (.slice f4a f4l f4c)]⟩), (.int .i64 (1 : Int))] g4 M1 fun v g5 =>
  ∃ x_2 : Bool, v = (.bool x_2) ∧ ∀ g6 : G, Ex g5 g6 →
  R (.bool x_2) g6))
  (∀ g7 : G, Ex g4 g7 →
  R (.bool false) g7)))
  (∀ g8 : G, Ex g3 g8 →
  R (.bool false) g8))
theorem F26_eq (f0 : Int) (f1 : Int) (f2 : Int) (f3 : ByteArray) (f4a : Option Addr) (f4l : Nat) (f4c : Nat) (closuresf : FuncId) (closuresc : Array Value) (g : G) (M : Nat → Prop) (R : Value → G → Prop) : fnG cfg26 26 [.tmp 4] c26 an26 [(.agg ⟨[(.int .i64 f0), (.int .i64 f1), (.int .i64 f2), (.string f3), (.slice f4a f4l f4c)]⟩), (.func (.func closuresf) #[] closuresc)] g M R = F26 f0 f1 f2 f3 f4a f4l f4c closuresf closuresc g M R := by kernel_rfl
theorem call26 (f0 : Int) (f1 : Int) (f2 : Int) (f3 : ByteArray) (f4a : Option Addr) (f4l : Nat) (f4c : Nat) (closuresf : FuncId) (closuresc : Array Value) (g : G) (M : Nat → Prop) (R : Value → G → Prop) (hF : F26 f0 f1 f2 f3 f4a f4l f4c closuresf closuresc g M R) : CallsG Try.prog 26 #[(.agg ⟨[(.int .i64 f0), (.int .i64 f1), (.int .i64 f2), (.string f3), (.slice f4a f4l f4c)]⟩), (.func (.func closuresf) #[] closuresc)] g M R :=
  fn_soundG (c := cfg26) TTok FNSok mixed Try.func26 (show Try.f26.body = some c26 by kernel_rfl) (show Try.f26.ntmps = 26 by kernel_rfl) (show Try.f26.results.toList = [.tmp 4] by kernel_rfl) rfl ((F26_eq f0 f1 f2 f3 f4a f4l f4c closuresf closuresc g M R ).mpr hF)

/- 27 pilaster/closure.Locals$1 -/
noncomputable def c27 : Code := match Try.f27.body with
  | some c => c
  | none => .skip
noncomputable def cfg27 : Cfg := ⟨Try.prog, TT, FNS, [], [], [], TCH, false, false, none, PNF, false⟩
def an27 : AnnG := (.seq .leaf (.seq .leaf (.seq .leaf (.seq .leaf .leaf))))
def F27 (n : Int) (parts : Int) (c0 : Option Addr) (g : G) (M : Nat → Prop) (R : Value → G → Prop) : Prop :=
  derefP c0 fun ad => ∃ x : Option Nat, g.w.cell? ad = some (.map x) ∧ ∃ x0 : Int, ∃ x1 : Bool, ∃ wo1 : World, Sem.run Try.prog (Instr.lookup 58 (.map x) (.int .i64 n) true) g.w = .ok (.tuple ⟨[(.int .i64 x0), (.bool x1)]⟩) wo1 ∧ ∃ g1 : G, g1.w = wo1 ∧ Stp g.w.heap.size M g g1 ∧ derefP c0 fun ad_1 => ∃ x_1 : Option Nat, g1.w.cell? ad_1 = some (.map x_1) ∧ ∃ wo2 : World, Sem.run Try.prog (Instr.mapUpdate 58 (.map x_1) (.int .i64 n) (.int .i64 parts)) g1.w = .ok () wo2 ∧ ∃ g2 : G, g2.w = wo2 ∧ Stp g.w.heap.size M g1 g2 ∧ (CallsP Try.prog 28 #[(.int .i64 n), (.int .i64 (0 : Int)), (.int .i64 (4095 : Int))] g2 fun v g3 =>
  ∃ x_2 : Bool, v = (.bool x_2) ∧ ifB x_2
  (ifB (!x1)
  (∀ g4 : G, Ex g3 g4 →
  R (.bool true) g4)
  (∀ g5 : G, Ex g3 g5 →
  R (.bool (eqI x0 parts)) g5))
  (∀ g6 : G, Ex g3 g6 →
  R (.bool false) g6))
theorem F27_eq (n : Int) (parts : Int) (c0 : Option Addr) (g : G) (M : Nat → Prop) (R : Value → G → Prop) : fnG cfg27 28 [.tmp 5] c27 an27 [(.int .i64 n), (.int .i64 parts), (.pointer c0)] g M R = F27 n parts c0 g M R := by kernel_rfl
theorem call27 (n : Int) (parts : Int) (c0 : Option Addr) (g : G) (M : Nat → Prop) (R : Value → G → Prop) (hF : F27 n parts c0 g M R) : CallsG Try.prog 27 #[(.int .i64 n), (.int .i64 parts), (.pointer c0)] g M R :=
  fn_soundG (c := cfg27) TTok FNSok mixed Try.func27 (show Try.f27.body = some c27 by kernel_rfl) (show Try.f27.ntmps = 28 by kernel_rfl) (show Try.f27.results.toList = [.tmp 5] by kernel_rfl) rfl ((F27_eq n parts c0 g M R ).mpr hF)

/- 28 pilaster/closure.within -/
noncomputable def c28 : Code := match Try.f28.body with
  | some c => c
  | none => .skip
noncomputable def cfg28 : Cfg := ⟨Try.prog, TT, FNS, [], [], [], TCH, false, false, none, PNF, false⟩
def an28 : AnnG := (.seq .leaf (.seq .leaf .leaf))
def F28 (n : Int) (low : Int) (high : Int) (g : G) (R : Value → G → Prop) : Prop :=
  ifB (leI low n)
  (∀ g1 : G, Ex g g1 →
  R (.bool (leI n high)) g1)
  (∀ g2 : G, Ex g g2 →
  R (.bool false) g2)
theorem F28_eq (n : Int) (low : Int) (high : Int) (g : G) (R : Value → G → Prop) : fnG cfg28 15 [.tmp 6] c28 an28 [(.int .i64 n), (.int .i64 low), (.int .i64 high)] g nobody R = F28 n low high g R := by kernel_rfl
theorem call28 (n : Int) (low : Int) (high : Int) (g : G) (R : Value → G → Prop) (hF : F28 n low high g R) : CallsG Try.prog 28 #[(.int .i64 n), (.int .i64 low), (.int .i64 high)] g nobody R :=
  fn_soundG (c := cfg28) TTok FNSok mixed Try.func28 (show Try.f28.body = some c28 by kernel_rfl) (show Try.f28.ntmps = 15 by kernel_rfl) (show Try.f28.results.toList = [.tmp 6] by kernel_rfl) rfl ((F28_eq n low high g R ).mpr hF)

/- 29 pilaster/closure.locals -/
noncomputable def c29 : Code := match Try.f29.body with
  | some c => c
  | none => .skip
noncomputable def cfg29 : Cfg := ⟨Try.prog, TT, FNS, [2, 7], [(2, 2), (7, 7), (9, 2), (17, 2)], [], TCH, false, false, none, PNF, false⟩
def an29 : AnnG := (.seq .leaf (.seq .leaf (.seq (.seq .leaf (.blk (.loop ⟨[(5, .int .i64), (12, .int .i64)], [], []⟩ (.seq .leaf (.seq (.cond .leaf .leaf) (.seq (.blk (.seq .leaf (.seq .leaf (.cond .leaf .leaf)))) .leaf)))))) (.seq .leaf .leaf))))
def F29 (x0 : Int) (x1 : Int) (x2 : ByteArray) (x3a : Option Addr) (x3l : Nat) (x3c : Nat) (n : Int) (g : G) (R : Value → G → Prop) : Prop :=
  ∃ Inv : Nat → Int → Int → G → Prop, (∀ g1 : G, Ex g g1 →
  (∃ m0 : Nat, Inv m0 n (0 : Int) g1)) ∧
  ∀ m : Nat, ∀ most : Int, ∀ v_1 : Int, ∀ g2 : G, Le g g2 → Inv m most v_1 g2 →
  ifB (ltI v_1 ((x3l : Nat) : Int))
  ((0 ≤ v_1 ∧ v_1 < ((x3l : Nat) : Int)) ∧ derefP x3a fun ad => ∃ x0_1 : Int, ∃ x1_1 : Int, ∃ x2_1 : ByteArray, ∃ x3a_1 : Option Addr, ∃ x3l_1 : Nat, ∃ x3c_1 : Nat, g2.w.cell? (Addr.add ad (Int.toNat v_1 * 4)) = some (.int .i64 x0_1) ∧ g2.w.cell? (Addr.add (Addr.add ad (Int.toNat v_1 * 4)) 1) = some (.int .i64 x1_1) ∧ g2.w.cell? (Addr.add (Addr.add ad (Int.toNat v_1 * 4)) 2) = some (.string x2_1) ∧ g2.w.cell? (Addr.add (Addr.add ad (Int.toNat v_1 * 4)) 3) = some (.slice x3a_1 x3l_1 x3c_1) ∧ ∀ g3 : G, Ex g2 g3 →
  (CallsP Try.prog 35 #[(.int .i64 x0), (.int .i64 v_1)] g3 fun v g4 =>
  ∃ x : Bool, v = (.bool x) ∧ ifB x
  (InI64 (n + (1 : Int)) ∧ (CallsP Try.prog 29 #[(.agg ⟨[(.int .i64 x0_1), (.int .i64 x1_1), (.string x2_1), (.slice x3a_1 x3l_1 x3c_1)]⟩), (.int .i64 (n + (1 : Int)))] g4 fun v g5 =>
  ∃ x_1 : Int, v = (.int .i64 x_1) ∧ InI64 (v_1 + (1 : Int)) ∧ (∃ m_1 : Nat, m_1 < m ∧ Inv m_1 (maxI most x_1) (v_1 + (1 : Int)) g5)))
  ((CallsP Try.prog 29 #[(.agg ⟨[(.int .i64 x0_1), (.int .i64 x1_1), (.string x2_1), (.slice x3a_1 x3l_1 x3c_1)]⟩), (.int .i64 n)] g4 fun v g6 =>
  ∃ x_2 : Int, v = (.int .i64 x_2) ∧ InI64 (v_1 + (1 : Int)) ∧ (∃ m_1 : Nat, m_1 < m ∧ Inv m_1 (maxI most x_2) (v_1 + (1 : Int)) g6)))))
  (∀ g7 : G, Ex g2 g7 →
  R (.int .i64 most) g7)
theorem F29_eq (x0 : Int) (x1 : Int) (x2 : ByteArray) (x3a : Option Addr) (x3l : Nat) (x3c : Nat) (n : Int) (g : G) (R : Value → G → Prop) : fnG cfg29 34 [.tmp 4] c29 an29 [(.agg ⟨[(.int .i64 x0), (.int .i64 x1), (.string x2), (.slice x3a x3l x3c)]⟩), (.int .i64 n)] g nobody R = F29 x0 x1 x2 x3a x3l x3c n g R := by kernel_rfl
theorem call29 (x0 : Int) (x1 : Int) (x2 : ByteArray) (x3a : Option Addr) (x3l : Nat) (x3c : Nat) (n : Int) (g : G) (R : Value → G → Prop) (hF : F29 x0 x1 x2 x3a x3l x3c n g R) : CallsG Try.prog 29 #[(.agg ⟨[(.int .i64 x0), (.int .i64 x1), (.string x2), (.slice x3a x3l x3c)]⟩), (.int .i64 n)] g nobody R :=
  fn_soundG (c := cfg29) TTok FNSok mixed Try.func29 (show Try.f29.body = some c29 by kernel_rfl) (show Try.f29.ntmps = 34 by kernel_rfl) (show Try.f29.results.toList = [.tmp 4] by kernel_rfl) rfl ((F29_eq x0 x1 x2 x3a x3l x3c n g R ).mpr hF)

/- 30 pilaster/lambda.Valid -/
noncomputable def c30 : Code := match Try.f30.body with
  | some c => c
  | none => .skip
noncomputable def cfg30 : Cfg := ⟨Try.prog, TT, FNS, [1], [(1, 1)], [], TCH, false, false, none, PNF, false⟩
def an30 : AnnG := (.seq .leaf (.seq .leaf (.seq .leaf .leaf)))
def F30 (x0 : Int) (x1 : Int) (x2 : ByteArray) (x3a : Option Addr) (x3l : Nat) (x3c : Nat) (g : G) (R : Value → G → Prop) : Prop :=
  ∀ g1 : G, Ex g g1 →
  (CallsP Try.prog 47 #[(.agg ⟨[(.int .i64 x0), (.int .i64 x1), (.string x2), (.slice x3a x3l x3c)]⟩), (.int .i64 (20000 : Int)), (.int .i64 (1 : Int))] g1 fun v g2 =>
  ∃ x0_1 : Int, ∃ x1_1 : Bool, v = (.tuple ⟨[(.int .i64 x0_1), (.bool x1_1)]⟩) ∧ ∀ g3 : G, Ex g2 g3 →
  R (.bool x1_1) g3)
theorem F30_eq (x0 : Int) (x1 : Int) (x2 : ByteArray) (x3a : Option Addr) (x3l : Nat) (x3c : Nat) (g : G) (R : Value → G → Prop) : fnG cfg30 11 [.tmp 2] c30 an30 [(.agg ⟨[(.int .i64 x0), (.int .i64 x1), (.string x2), (.slice x3a x3l x3c)]⟩)] g nobody R = F30 x0 x1 x2 x3a x3l x3c g R := by kernel_rfl
theorem call30 (x0 : Int) (x1 : Int) (x2 : ByteArray) (x3a : Option Addr) (x3l : Nat) (x3c : Nat) (g : G) (R : Value → G → Prop) (hF : F30 x0 x1 x2 x3a x3l x3c g R) : CallsG Try.prog 30 #[(.agg ⟨[(.int .i64 x0), (.int .i64 x1), (.string x2), (.slice x3a x3l x3c)]⟩)] g nobody R :=
  fn_soundG (c := cfg30) TTok FNSok mixed Try.func30 (show Try.f30.body = some c30 by kernel_rfl) (show Try.f30.ntmps = 11 by kernel_rfl) (show Try.f30.results.toList = [.tmp 2] by kernel_rfl) rfl ((F30_eq x0 x1 x2 x3a x3l x3c g R ).mpr hF)

/- 31 pilaster/lambda.collect -/
noncomputable def c31 : Code := match Try.f31.body with
  | some c => c
  | none => .skip
noncomputable def cfg31 : Cfg := ⟨Try.prog, TT, FNS, [4, 7], [(4, 4), (7, 7), (9, 4), (13, 4), (19, 4), (23, 4)], [], TCH, false, false, none, PNF, false⟩
def an31 : AnnG := (.seq .leaf (.join ⟨[], [], []⟩ (.seq .leaf (.cond .leaf .leaf)) (.seq .leaf (.blk (.loop ⟨[(26, .int .i64)], [], []⟩ (.seq .leaf (.seq (.cond .leaf .leaf) (.seq (.blk (.seq .leaf (.seq .leaf (.seq (.seq .leaf (.cond .leaf .leaf)) .leaf)))) .leaf))))))))
def F31 (m : Option Nat) (x0 : Int) (x1 : Int) (x2 : ByteArray) (x3a : Option Addr) (x3l : Nat) (x3c : Nat) (depth : Int) (g : G) (M : Nat → Prop) (R : Value → G → Prop) : Prop :=
  ∀ J : G → Prop,
  (∀ g1 : G, (∃ Inv : Nat → Int → G → Prop, ((∃ m0 : Nat, Inv m0 (0 : Int) g1)) ∧
  ∀ m_1 : Nat, ∀ v_1 : Int, ∀ g2 : G, Le g1 g2 → Inv m_1 v_1 g2 →
  ifB (ltI v_1 ((x3l : Nat) : Int))
  ((0 ≤ v_1 ∧ v_1 < ((x3l : Nat) : Int)) ∧ derefP x3a fun ad => ∃ x0_1 : Int, ∃ x1_1 : Int, ∃ x2_1 : ByteArray, ∃ x3a_1 : Option Addr, ∃ x3l_1 : Nat, ∃ x3c_1 : Nat, g2.w.cell? (Addr.add ad (Int.toNat v_1 * 4)) = some (.int .i64 x0_1) ∧ g2.w.cell? (Addr.add (Addr.add ad (Int.toNat v_1 * 4)) 1) = some (.int .i64 x1_1) ∧ g2.w.cell? (Addr.add (Addr.add ad (Int.toNat v_1 * 4)) 2) = some (.string x2_1) ∧ g2.w.cell? (Addr.add (Addr.add ad (Int.toNat v_1 * 4)) 3) = some (.slice x3a_1 x3l_1 x3c_1) ∧ ∀ g3 : G, Ex g2 g3 →
  (CallsP Try.prog 48 #[(.agg ⟨[(.int .i64 x0), (.int .i64 x1), (.string x2), (.slice x3a x3l x3c)]⟩), (.int .i64 v_1)] g3 fun v g4 =>
  ∃ x : Bool, v = (.bool x) ∧ ifB x
  (InI64 (depth + (1 : Int)) ∧ ∃ M1 : Nat → Prop, (∀ b, b < g.w.heap.size → M1 b → M b) ∧ (CallsG Try.prog 31 #[(.map m), (.agg ⟨[(.int .i64 x0_1), (.int .i64 x1_1), (.string x2_1), (.slice x3a_1 x3l_1 x3c_1)]⟩), (.int .i64 (depth + (1 : Int)))] g4 M1 fun v g5 =>
  v = (.tuple ⟨[]⟩) ∧ InI64 (v_1 + (1 : Int)) ∧ (∃ m_2 : Nat, m_2 < m_1 ∧ Inv m_2 (v_1 + (1 : Int)) g5)))
  (∃ M2 : Nat → Prop, (∀ b, b < g.w.heap.size → M2 b → M b) ∧ (CallsG Try.prog 31 #[(.map m), (.agg ⟨[(.int .i64 x0_1), (.int .i64 x1_1), (.string x2_1), (.slice x3a_1 x3l_1 x3c_1)]⟩), (.int .i64 depth)] g4 M2 fun v g6 =>
  v = (.tuple ⟨[]⟩) ∧ InI64 (v_1 + (1 : Int)) ∧ (∃ m_2 : Nat, m_2 < m_1 ∧ Inv m_2 (v_1 + (1 : Int)) g6)))))
  (∀ g7 : G, Ex g2 g7 →
  R (.tuple ⟨[]⟩) g7)) → J g1) →
  ifB (eqI x0 (1 : Int))
  (ifB (leI depth x1)
  (InI64 (x1 - depth) ∧ ∀ g8 : G, Ex g g8 →
  ∃ wo1 : World, Sem.run Try.prog (Instr.mapUpdate 64 (.map m) (.int .i64 (x1 - depth)) (.bool true)) g8.w = .ok () wo1 ∧ ∃ g9 : G, g9.w = wo1 ∧ Stp g.w.heap.size M g8 g9 ∧ J g9)
  (∀ g10 : G, Ex g g10 →
  J g10))
  (∀ g11 : G, Ex g g11 →
  J g11)
theorem F31_eq (m : Option Nat) (x0 : Int) (x1 : Int) (x2 : ByteArray) (x3a : Option Addr) (x3l : Nat) (x3c : Nat) (depth : Int) (g : G) (M : Nat → Prop) (R : Value → G → Prop) : fnG cfg31 42 [] c31 an31 [(.map m), (.agg ⟨[(.int .i64 x0), (.int .i64 x1), (.string x2), (.slice x3a x3l x3c)]⟩), (.int .i64 depth)] g M R = F31 m x0 x1 x2 x3a x3l x3c depth g M R := by kernel_rfl
theorem call31 (m : Option Nat) (x0 : Int) (x1 : Int) (x2 : ByteArray) (x3a : Option Addr) (x3l : Nat) (x3c : Nat) (depth : Int) (g : G) (M : Nat → Prop) (R : Value → G → Prop) (hF : F31 m x0 x1 x2 x3a x3l x3c depth g M R) : CallsG Try.prog 31 #[(.map m), (.agg ⟨[(.int .i64 x0), (.int .i64 x1), (.string x2), (.slice x3a x3l x3c)]⟩), (.int .i64 depth)] g M R :=
  fn_soundG (c := cfg31) TTok FNSok mixed Try.func31 (show Try.f31.body = some c31 by kernel_rfl) (show Try.f31.ntmps = 42 by kernel_rfl) (show Try.f31.results.toList = [] by kernel_rfl) rfl ((F31_eq m x0 x1 x2 x3a x3l x3c depth g M R ).mpr hF)

/- 33 (pilaster/closure.scope).at -/
noncomputable def c33 : Code := match Try.f33.body with
  | some c => c
  | none => .skip
noncomputable def cfg33 : Cfg := ⟨Try.prog, TT, FNS, [2, 4], [(2, 2), (4, 4), (5, 2), (7, 2)], [], TCH, false, false, none, PNF, false⟩
def an33 : AnnG := (.seq .leaf (.seq .leaf .leaf))
def F33 (s0a : Option Addr) (s0l : Nat) (s0c : Nat) (s1 : Int) (n : Int) (g : G) (R : Value → G → Prop) : Prop :=
  InI64 (((s0l : Nat) : Int) - (1 : Int)) ∧ InI64 ((((s0l : Nat) : Int) - (1 : Int)) - n) ∧ (0 ≤ ((((s0l : Nat) : Int) - (1 : Int)) - n) ∧ ((((s0l : Nat) : Int) - (1 : Int)) - n) < ((s0l : Nat) : Int)) ∧ derefP s0a fun ad => ∀ g1 : G, Ex g g1 →
  ∃ x0 : Int, ∃ x1 : Int, ∃ x2 : ByteArray, ∃ x3a : Option Addr, ∃ x3l : Nat, ∃ x3c : Nat, g1.w.cell? (Addr.add ad (Int.toNat ((((s0l : Nat) : Int) - (1 : Int)) - n) * 4)) = some (.int .i64 x0) ∧ g1.w.cell? (Addr.add (Addr.add ad (Int.toNat ((((s0l : Nat) : Int) - (1 : Int)) - n) * 4)) 1) = some (.int .i64 x1) ∧ g1.w.cell? (Addr.add (Addr.add ad (Int.toNat ((((s0l : Nat) : Int) - (1 : Int)) - n) * 4)) 2) = some (.string x2) ∧ g1.w.cell? (Addr.add (Addr.add ad (Int.toNat ((((s0l : Nat) : Int) - (1 : Int)) - n) * 4)) 3) = some (.slice x3a x3l x3c) ∧ ∀ g2 : G, Ex g1 g2 →
  R (.agg ⟨[(.int .i64 x0), (.int .i64 x1), (.string x2), (.slice x3a x3l x3c)]⟩) g2
theorem F33_eq (s0a : Option Addr) (s0l : Nat) (s0c : Nat) (s1 : Int) (n : Int) (g : G) (R : Value → G → Prop) : fnG cfg33 15 [.cell 4 24] c33 an33 [(.agg ⟨[(.slice s0a s0l s0c), (.int .i64 s1)]⟩), (.int .i64 n)] g nobody R = F33 s0a s0l s0c s1 n g R := by kernel_rfl
theorem call33 (s0a : Option Addr) (s0l : Nat) (s0c : Nat) (s1 : Int) (n : Int) (g : G) (R : Value → G → Prop) (hF : F33 s0a s0l s0c s1 n g R) : CallsG Try.prog 33 #[(.agg ⟨[(.slice s0a s0l s0c), (.int .i64 s1)]⟩), (.int .i64 n)] g nobody R :=
  fn_soundG (c := cfg33) TTok FNSok mixed Try.func33 (show Try.f33.body = some c33 by kernel_rfl) (show Try.f33.ntmps = 15 by kernel_rfl) (show Try.f33.results.toList = [.cell 4 24] by kernel_rfl) rfl ((F33_eq s0a s0l s0c s1 n g R ).mpr hF)

/- 34 (*pilaster/closure.converter).closure -/
noncomputable def c34 : Code := match Try.f34.body with
  | some c => c
  | none => .skip
noncomputable def cfg34 : Cfg := ⟨Try.prog, TT, FNS, [4, 5, 6, 10, 11, 14, 15], [(4, 4), (5, 5), (6, 6), (10, 10), (11, 11), (14, 14), (15, 15), (49, 5), (63, 10), (65, 5), (74, 11), (81, 11), (84, 4), (87, 10), (92, 10), (93, 4), (98, 14)], [], TCH, false, false, none, PNF, false⟩
def an34 : AnnG := (.seq .leaf (.seq .leaf (.seq .leaf (.join ⟨[], [(6, 6, 0)], [(6, [(.int .i64), (.int .i64), (.str), (.sl)])]⟩ (.seq .leaf (.cond (.seq .leaf (.seq .leaf .leaf)) .leaf)) (.seq .leaf (.seq .leaf (.seq .leaf (.seq (.seq .leaf (.blk (.loop ⟨[(58, .int .i64)], [(11, 11, 0)], [(11, [(.int .i64), (.int .i64), (.str), (.sl)])]⟩ (.seq .leaf (.seq (.cond .leaf .leaf) (.seq (.blk (.seq .leaf (.seq (.treeB 10 (.quiet 0 (.quiet 1 (.quiet 2 (.quiet 3 (.quiet 4 (.quiet 5 (.quiet 6 (.quiet 7 (.quiet 8 (.eff 9 .fin .fin))))))))))) (.treeP true [11] 6 (.quiet 0 (.quiet 2 (.quiet 3 (.eff 1 (.eff 4 (.eff 5 .fin .fin) .fin) (.eff 4 (.eff 1 (.eff 5 .fin .fin) (.eff 5 (.eff 1 .fin .fin) .fin)) .fin))))))))) .leaf)))))) (.seq .leaf (.join ⟨[], [(10, 10, 0), (14, 14, 0)], [(10, [(.sl), (.int .i64)]), (14, [(.int .i64), (.int .i64), (.str), (.sl)])]⟩ (.seq .leaf (.cond (.join ⟨[], [(10, 10, 0)], [(10, [(.sl), (.int .i64)])]⟩ (.treeP true [10] 4 (.quiet 0 (.eff 1 (.eff 2 (.eff 3 .fin .fin) .fin) (.eff 2 (.eff 1 (.eff 3 .fin .fin) (.eff 3 (.eff 1 .fin .fin) .fin)) .fin)))) .leaf) .leaf)) (.join ⟨[], [(15, 15, 0)], [(15, [(.int .i64), (.int .i64), (.str), (.sl)])]⟩ (.treeP true [] 9 (.quiet 0 (.quiet 1 (.quiet 2 (.quiet 3 (.quiet 4 (.quiet 5 (.eff 6 (.eff 7 (.eff 8 .fin .fin) (.eff 8 (.eff 7 .fin .fin) .fin)) (.eff 8 (.eff 6 (.eff 7 .fin .fin) .fin) .fin))))))))) (.seq (.treeB 6 (.quiet 0 (.quiet 1 (.quiet 2 (.quiet 3 (.quiet 4 (.quiet 5 .fin))))))) (.seq .leaf .leaf)))))))))))))
def F34 (c : Option Addr) (x0 : Int) (x1 : Int) (x2 : ByteArray) (x3a : Option Addr) (x3l : Nat) (x3c : Nat) (s0a : Option Addr) (s0l : Nat) (s0c : Nat) (s1 : Int) (g : G) (M : Nat → Prop) (R : Value → G → Prop) : Prop :=
  ∀ g1 : G, Ex g g1 →
  (CallsP Try.prog 17 #[(.agg ⟨[(.int .i64 x0), (.int .i64 x1), (.string x2), (.slice x3a x3l x3c)]⟩)] g1 fun v g2 =>
  ∃ x0a : Option Addr, ∃ x0l : Nat, ∃ x0c : Nat, ∃ x1_1 : Int, v = (.tuple ⟨[(.slice x0a x0l x0c), (.int .i64 x1_1)]⟩) ∧ derefP c fun ad => ∃ xa : Option Addr, ∃ xl : Nat, ∃ xc : Nat, g2.w.cell? ad = some (.slice xa xl xc) ∧ ∀ J : Int → Int → ByteArray → Option Addr → Nat → Nat → G → Prop,
  (∀ x0_1 : Int, ∀ x1_2 : Int, ∀ x2_1 : ByteArray, ∀ x3a_1 : Option Addr, ∀ x3l_1 : Nat, ∀ x3c_1 : Nat, ∀ g3 : G, (derefP c fun ad_1 => ∃ xa_1 : Option Addr, ∃ xl_1 : Nat, ∃ xc_1 : Nat, g3.w.cell? ad_1 = some (.slice xa_1 xl_1 xc_1) ∧ ∀ g4 : G, NewL g3 g4 38 [(.int .i64 ((x0l : Nat) : Int)), (.int .i64 (0 : Int)), (.int .i64 (0 : Int)), (.string (bs [])), (.slice none 0 0)] →
  ∃ xa_2 : Option Addr, ∃ xl_2 : Nat, ∃ xc_2 : Nat, ∃ wo1 : World, Sem.run Try.prog (Builtin.append_ #[27, 27] 27 #[(.slice xa_1 xl_1 xc_1), (.slice (some ⟨g3.w.heap.size, 0, none⟩) 1 1)]) g4.w = .ok (.slice xa_2 xl_2 xc_2) wo1 ∧ ∃ g5 : G, g5.w = wo1 ∧ Stp g.w.heap.size M g4 g5 ∧ derefP c fun ad_2 => stOk g5.w ad_2 1 ∧ ¬ g5.X (Addr.block ad_2) ∧ mutAt g5 ad_2 1 ∧ ((Addr.block ad_2) < g.w.heap.size → M (Addr.block ad_2)) ∧ ∀ g6 : G, StG false g5 ad_2 [(.slice xa_2 xl_2 xc_2)] g6 →
  ∃ xa_3 : Option Addr, ∃ xl_3 : Nat, ∃ xc_3 : Nat, ∃ wo2 : World, Sem.run Try.prog (Instr.makeSlice 22 (.int .i64 ((s0l : Nat) : Int)) (.int .i64 ((s0l : Nat) : Int))) g6.w = .ok (.slice xa_3 xl_3 xc_3) wo2 ∧ ∃ g7 : G, g7.w = wo2 ∧ Stp g.w.heap.size M g6 g7 ∧ ∀ g8 : G, Ex g7 g8 →
  (CallsP Try.prog 51 #[(.int .i64 (24 : Int)), (.int .i64 ((xl : Nat) : Int)), (.slice none 0 0)] g8 fun v g9 =>
  ∃ x0_2 : Int, ∃ x1_3 : Int, ∃ x2_2 : ByteArray, ∃ x3a_2 : Option Addr, ∃ x3l_2 : Nat, ∃ x3c_2 : Nat, v = (.agg ⟨[(.int .i64 x0_2), (.int .i64 x1_3), (.string x2_2), (.slice x3a_2 x3l_2 x3c_2)]⟩) ∧ ∃ Inv : Nat → Int → Int → Int → ByteArray → Option Addr → Nat → Nat → G → Prop, (∀ g10 : G, Ex g9 g10 →
  (∃ m0 : Nat, Inv m0 (0 : Int) x0_2 x1_3 x2_2 x3a_2 x3l_2 x3c_2 g10)) ∧
  ∀ m : Nat, ∀ v_1 : Int, ∀ out0 : Int, ∀ out1 : Int, ∀ out2 : ByteArray, ∀ out3a : Option Addr, ∀ out3l : Nat, ∀ out3c : Nat, ∀ g11 : G, Le g9 g11 → Inv m v_1 out0 out1 out2 out3a out3l out3c g11 →
  ifB (ltI v_1 ((x0l : Nat) : Int))
  ((0 ≤ v_1 ∧ v_1 < ((x0l : Nat) : Int)) ∧ derefP x0a fun ad_3 => ∃ i : Int, g11.w.cell? (Addr.add ad_3 (Int.toNat v_1 * 1)) = some (.int .i64 i) ∧ ∀ g12 : G, Ex g11 g12 →
  ∃ MR1 : Nat → Prop, (∀ b, MR1 b → ¬ g12.X b) ∧ InI64 (((s0l : Nat) : Int) - (1 : Int)) ∧ InI64 ((((s0l : Nat) : Int) - (1 : Int)) - i) ∧ (CallsP Try.prog 51 #[(.int .i64 (23 : Int)), (.int .i64 v_1), (.slice none 0 0)] g12 fun v g13 =>
  ∃ x0_3 : Int, ∃ x1_4 : Int, ∃ x2_3 : ByteArray, ∃ x3a_3 : Option Addr, ∃ x3l_3 : Nat, ∃ x3c_3 : Nat, v = (.agg ⟨[(.int .i64 x0_3), (.int .i64 x1_4), (.string x2_3), (.slice x3a_3 x3l_3 x3c_3)]⟩) ∧ (0 ≤ ((((s0l : Nat) : Int) - (1 : Int)) - i) ∧ ((((s0l : Nat) : Int) - (1 : Int)) - i) < ((xl_3 : Nat) : Int)) ∧ derefP xa_3 fun ad_4 => stOk g13.w (Addr.add ad_4 (Int.toNat ((((s0l : Nat) : Int) - (1 : Int)) - i) * 4)) 4 ∧ ¬ g13.X (Addr.block (Addr.add ad_4 (Int.toNat ((((s0l : Nat) : Int) - (1 : Int)) - i) * 4))) ∧ mutAt g13 (Addr.add ad_4 (Int.toNat ((((s0l : Nat) : Int) - (1 : Int)) - i) * 4)) 4 ∧ ((Addr.block (Addr.add ad_4 (Int.toNat ((((s0l : Nat) : Int) - (1 : Int)) - i) * 4))) < g.w.heap.size → M (Addr.block (Addr.add ad_4 (Int.toNat ((((s0l : Nat) : Int) - (1 : Int)) - i) * 4)))) ∧ ∀ g14 : G, StG false g13 (Addr.add ad_4 (Int.toNat ((((s0l : Nat) : Int) - (1 : Int)) - i) * 4)) [(.int .i64 x0_3), (.int .i64 x1_4), (.string x2_3), (.slice x3a_3 x3l_3 x3c_3)] g14 →
  ∀ g15 : G, Ex g14 g15 →
  ∃ MR2 : Nat → Prop, (∀ b, MR2 b → ¬ g15.X b) ∧ (∀ g16 : G, Ex g15 g16 →
  (CallsP Try.prog 33 #[(.agg ⟨[(.slice s0a s0l s0c), (.int .i64 s1)]⟩), (.int .i64 i)] g16 fun v g17 =>
  ∃ x0_4 : Int, ∃ x1_5 : Int, ∃ x2_4 : ByteArray, ∃ x3a_4 : Option Addr, ∃ x3l_4 : Nat, ∃ x3c_4 : Nat, v = (.agg ⟨[(.int .i64 x0_4), (.int .i64 x1_5), (.string x2_4), (.slice x3a_4 x3l_4 x3c_4)]⟩) ∧ ∀ g18 : G, Ex g17 g18 →
  ∀ g19 : G, NewL g18 g19 24 [(.int .i64 x0_4), (.int .i64 x1_5), (.string x2_4), (.slice x3a_4 x3l_4 x3c_4)] →
  ∃ xa_4 : Option Addr, ∃ xl_4 : Nat, ∃ xc_4 : Nat, ∃ wo3 : World, Sem.run Try.prog (Builtin.append_ #[22, 22] 22 #[(.slice out3a out3l out3c), (.slice (some ⟨g18.w.heap.size, 0, none⟩) 1 1)]) g19.w = .ok (.slice xa_4 xl_4 xc_4) wo3 ∧ ∃ g20 : G, g20.w = wo3 ∧ Stp g.w.heap.size M g19 g20 ∧ InI64 (v_1 + (1 : Int)) ∧ ∀ g21 : G, Ex g20 g21 →
  (∃ m_1 : Nat, m_1 < m ∧ Inv m_1 (v_1 + (1 : Int)) out0 out1 out2 xa_4 xl_4 xc_4 g21))) ∧ (∀ g22 : G, Ex g15 g22 →
  (CallsP Try.prog 33 #[(.agg ⟨[(.slice s0a s0l s0c), (.int .i64 s1)]⟩), (.int .i64 i)] g22 fun v g23 =>
  ∃ x0_5 : Int, ∃ x1_6 : Int, ∃ x2_5 : ByteArray, ∃ x3a_5 : Option Addr, ∃ x3l_5 : Nat, ∃ x3c_5 : Nat, v = (.agg ⟨[(.int .i64 x0_5), (.int .i64 x1_6), (.string x2_5), (.slice x3a_5 x3l_5 x3c_5)]⟩) ∧ Rep 1 (∀ g24 : G, Ex g23 g24 →
  ∀ g25 : G, NewL g24 g25 24 [(.int .i64 x0_5), (.int .i64 x1_6), (.string x2_5), (.slice x3a_5 x3l_5 x3c_5)] →
  ∃ xa_5 : Option Addr, ∃ xl_5 : Nat, ∃ xc_5 : Nat, ∃ wo4 : World, Sem.run Try.prog (Builtin.append_ #[22, 22] 22 #[(.slice out3a out3l out3c), (.slice (some ⟨g24.w.heap.size, 0, none⟩) 1 1)]) g25.w = .ok (.slice xa_5 xl_5 xc_5) wo4 ∧ ∃ g26 : G, g26.w = wo4 ∧ Stp g.w.heap.size M g25 g26 ∧ InI64 (v_1 + (1 : Int)) ∧ ∀ g27 : G, Ex g26 g27 →
  (∃ m_1 : Nat, m_1 < m ∧ Inv m_1 (v_1 + (1 : Int)) out0 out1 out2 xa_5 xl_5 xc_5 g27))))))
  (∀ J_1 : Option Addr → Nat → Nat → Int → Int → Int → ByteArray → Option Addr → Nat → Nat → G → Prop,
  (∀ inner0a : Option Addr, ∀ inner0l : Nat, ∀ inner0c : Nat, ∀ inner1 : Int, ∀ f0 : Int, ∀ f1 : Int, ∀ f2 : ByteArray, ∀ f3a : Option Addr, ∀ f3l : Nat, ∀ f3c : Nat, ∀ g32 : G, (∀ J_2 : Int → Int → ByteArray → Option Addr → Nat → Nat → G → Prop,
  (∀ body0 : Int, ∀ body1 : Int, ∀ body2 : ByteArray, ∀ body3a : Option Addr, ∀ body3l : Nat, ∀ body3c : Nat, ∀ g33 : G, (∀ g34 : G, Ex g33 g34 →
  ∃ MR3 : Nat → Prop, (∀ b, MR3 b → ¬ g34.X b) ∧ derefP c fun ad_5 => ¬ MR3 (Addr.block ad_5) ∧ ∃ xa_7 : Option Addr, ∃ xl_7 : Nat, ∃ xc_7 : Nat, g34.w.cell? ad_5 = some (.slice xa_7 xl_7 xc_7) ∧ (0 ≤ ((xl : Nat) : Int) ∧ ((xl : Nat) : Int) < ((xl_7 : Nat) : Int)) ∧ derefP xa_7 fun ad_6 => stOk g34.w (Addr.add (Addr.add ad_6 (Int.toNat ((xl : Nat) : Int) * 5)) 1) 4 ∧ ¬ g34.X (Addr.block (Addr.add (Addr.add ad_6 (Int.toNat ((xl : Nat) : Int) * 5)) 1)) ∧ mutAt g34 (Addr.add (Addr.add ad_6 (Int.toNat ((xl : Nat) : Int) * 5)) 1) 4 ∧ ((Addr.block (Addr.add (Addr.add ad_6 (Int.toNat ((xl : Nat) : Int) * 5)) 1)) < g.w.heap.size → M (Addr.block (Addr.add (Addr.add ad_6 (Int.toNat ((xl : Nat) : Int) * 5)) 1))) ∧ ∀ g35 : G, StG false g34 (Addr.add (Addr.add ad_6 (Int.toNat ((xl : Nat) : Int) * 5)) 1) [(.int .i64 body0), (.int .i64 body1), (.string body2), (.slice body3a body3l body3c)] g35 →
  ∀ g36 : G, Ex g35 g36 →
  R (.agg ⟨[(.int .i64 out0), (.int .i64 out1), (.string out2), (.slice out3a out3l out3c)]⟩) g36) → J_2 body0 body1 body2 body3a body3l body3c g33) →
  ∀ g37 : G, Ex g32 g37 →
  ∃ MR4 : Nat → Prop, (∀ b, MR4 b → ¬ g37.X b) ∧ (0 ≤ (0 : Int) ∧ (0 : Int) < ((f3l : Nat) : Int)) ∧ derefP f3a fun ad_7 => ¬ g37.X (Addr.block (Addr.add ad_7 (Int.toNat (0 : Int) * 4))) ∧ ¬ MR4 (Addr.block (Addr.add ad_7 (Int.toNat (0 : Int) * 4))) ∧ ∃ x0_6 : Int, ∃ x1_7 : Int, ∃ x2_6 : ByteArray, ∃ x3a_6 : Option Addr, ∃ x3l_6 : Nat, ∃ x3c_6 : Nat, g37.w.cell? (Addr.add ad_7 (Int.toNat (0 : Int) * 4)) = some (.int .i64 x0_6) ∧ g37.w.cell? (Addr.add (Addr.add ad_7 (Int.toNat (0 : Int) * 4)) 1) = some (.int .i64 x1_7) ∧ g37.w.cell? (Addr.add (Addr.add ad_7 (Int.toNat (0 : Int) * 4)) 2) = some (.string x2_6) ∧ g37.w.cell? (Addr.add (Addr.add ad_7 (Int.toNat (0 : Int) * 4)) 3) = some (.slice x3a_6 x3l_6 x3c_6) ∧ (∀ g38 : G, Ex g37 g38 →
  (CallsP Try.prog 36 #[(.agg ⟨[(.slice inner0a inner0l inner0c), (.int .i64 inner1)]⟩)] g38 fun v g39 =>
  ∃ x0a_1 : Option Addr, ∃ x0l_1 : Nat, ∃ x0c_1 : Nat, ∃ x1_8 : Int, v = (.agg ⟨[(.slice x0a_1 x0l_1 x0c_1), (.int .i64 x1_8)]⟩) ∧ Rep 1 (∀ g40 : G, Ex g39 g40 →
  ∃ M5 : Nat → Prop, (∀ b, b < g.w.heap.size → M5 b → M b) ∧ (CallsG Try.prog 18 #[(.pointer c), (.agg ⟨[(.int .i64 x0_6), (.int .i64 x1_7), (.string x2_6), (.slice x3a_6 x3l_6 x3c_6)]⟩), (.agg ⟨[(.slice x0a_1 x0l_1 x0c_1), (.int .i64 x1_8)]⟩)] g40 M5 fun v g41 =>
  ∃ x0_7 : Int, ∃ x1_9 : Int, ∃ x2_7 : ByteArray, ∃ x3a_7 : Option Addr, ∃ x3l_7 : Nat, ∃ x3c_7 : Nat, v = (.agg ⟨[(.int .i64 x0_7), (.int .i64 x1_9), (.string x2_7), (.slice x3a_7 x3l_7 x3c_7)]⟩) ∧ SameBut MR4 g37 g41 ∧ ∀ g42 : G, Ex g41 g42 →
  J_2 x0_7 x1_9 x2_7 x3a_7 x3l_7 x3c_7 g42)))) ∧ (∀ g46 : G, Ex g37 g46 →
  (CallsP Try.prog 36 #[(.agg ⟨[(.slice inner0a inner0l inner0c), (.int .i64 inner1)]⟩)] g46 fun v g47 =>
  ∃ x0a_2 : Option Addr, ∃ x0l_2 : Nat, ∃ x0c_2 : Nat, ∃ x1_11 : Int, v = (.agg ⟨[(.slice x0a_2 x0l_2 x0c_2), (.int .i64 x1_11)]⟩) ∧ ∀ g48 : G, Ex g47 g48 →
  ∃ M7 : Nat → Prop, (∀ b, b < g.w.heap.size → M7 b → M b) ∧ (CallsG Try.prog 18 #[(.pointer c), (.agg ⟨[(.int .i64 x0_6), (.int .i64 x1_7), (.string x2_6), (.slice x3a_6 x3l_6 x3c_6)]⟩), (.agg ⟨[(.slice x0a_2 x0l_2 x0c_2), (.int .i64 x1_11)]⟩)] g48 M7 fun v g49 =>
  ∃ x0_9 : Int, ∃ x1_12 : Int, ∃ x2_9 : ByteArray, ∃ x3a_9 : Option Addr, ∃ x3l_9 : Nat, ∃ x3c_9 : Nat, v = (.agg ⟨[(.int .i64 x0_9), (.int .i64 x1_12), (.string x2_9), (.slice x3a_9 x3l_9 x3c_9)]⟩) ∧ SameBut MR4 g37 g49 ∧ ∀ g50 : G, Ex g49 g50 →
  J_2 x0_9 x1_12 x2_9 x3a_9 x3l_9 x3c_9 g50)))) → J_1 inner0a inner0l inner0c inner1 f0 f1 f2 f3a f3l f3c g32) →
  ifB (eqI x0 (10 : Int))
  (∀ J_3 : Option Addr → Nat → Nat → Int → G → Prop,
  (∀ inner0a_1 : Option Addr, ∀ inner0l_1 : Nat, ∀ inner0c_1 : Nat, ∀ inner1_1 : Int, ∀ g51 : G, ((0 ≤ (0 : Int) ∧ (0 : Int) < ((x3l : Nat) : Int)) ∧ derefP x3a fun ad_8 => ∃ x0_10 : Int, ∃ x1_13 : Int, ∃ x2_10 : ByteArray, ∃ x3a_10 : Option Addr, ∃ x3l_10 : Nat, ∃ x3c_10 : Nat, g51.w.cell? (Addr.add ad_8 (Int.toNat (0 : Int) * 4)) = some (.int .i64 x0_10) ∧ g51.w.cell? (Addr.add (Addr.add ad_8 (Int.toNat (0 : Int) * 4)) 1) = some (.int .i64 x1_13) ∧ g51.w.cell? (Addr.add (Addr.add ad_8 (Int.toNat (0 : Int) * 4)) 2) = some (.string x2_10) ∧ g51.w.cell? (Addr.add (Addr.add ad_8 (Int.toNat (0 : Int) * 4)) 3) = some (.slice x3a_10 x3l_10 x3c_10) ∧ ∀ g52 : G, Ex g51 g52 →
  J_1 inner0a_1 inner0l_1 inner0c_1 inner1_1 x0_10 x1_13 x2_10 x3a_10 x3l_10 x3c_10 g52) → J_3 inner0a_1 inner0l_1 inner0c_1 inner1_1 g51) →
  ∀ g53 : G, Ex g11 g53 →
  ∃ MR8 : Nat → Prop, (∀ b, MR8 b → ¬ g53.X b) ∧ (∀ g54 : G, Ex g53 g54 →
  (CallsP Try.prog 51 #[(.int .i64 (22 : Int)), (.int .i64 (0 : Int)), (.slice none 0 0)] g54 fun v g55 =>
  ∃ x0_11 : Int, ∃ x1_14 : Int, ∃ x2_11 : ByteArray, ∃ x3a_11 : Option Addr, ∃ x3l_11 : Nat, ∃ x3c_11 : Nat, v = (.agg ⟨[(.int .i64 x0_11), (.int .i64 x1_14), (.string x2_11), (.slice x3a_11 x3l_11 x3c_11)]⟩) ∧ ∀ g56 : G, Ex g55 g56 →
  ∀ g57 : G, NewL g56 g57 24 [(.int .i64 x0_11), (.int .i64 x1_14), (.string x2_11), (.slice x3a_11 x3l_11 x3c_11)] →
  ∃ xa_8 : Option Addr, ∃ xl_8 : Nat, ∃ xc_8 : Nat, ∃ wo6 : World, Sem.run Try.prog (Builtin.append_ #[22, 22] 22 #[(.slice xa_3 xl_3 xc_3), (.slice (some ⟨g56.w.heap.size, 0, none⟩) 1 1)]) g57.w = .ok (.slice xa_8 xl_8 xc_8) wo6 ∧ ∃ g58 : G, g58.w = wo6 ∧ Stp g.w.heap.size M g57 g58 ∧ ∀ g59 : G, Ex g58 g59 →
  J_3 xa_8 xl_8 xc_8 (0 : Int) g59)) ∧ (∀ g60 : G, Ex g53 g60 →
  (CallsP Try.prog 51 #[(.int .i64 (22 : Int)), (.int .i64 (0 : Int)), (.slice none 0 0)] g60 fun v g61 =>
  ∃ x0_12 : Int, ∃ x1_15 : Int, ∃ x2_12 : ByteArray, ∃ x3a_12 : Option Addr, ∃ x3l_12 : Nat, ∃ x3c_12 : Nat, v = (.agg ⟨[(.int .i64 x0_12), (.int .i64 x1_15), (.string x2_12), (.slice x3a_12 x3l_12 x3c_12)]⟩) ∧ Rep 1 (∀ g62 : G, Ex g61 g62 →
  ∀ g63 : G, NewL g62 g63 24 [(.int .i64 x0_12), (.int .i64 x1_15), (.string x2_12), (.slice x3a_12 x3l_12 x3c_12)] →
  ∃ xa_9 : Option Addr, ∃ xl_9 : Nat, ∃ xc_9 : Nat, ∃ wo7 : World, Sem.run Try.prog (Builtin.append_ #[22, 22] 22 #[(.slice xa_3 xl_3 xc_3), (.slice (some ⟨g62.w.heap.size, 0, none⟩) 1 1)]) g63.w = .ok (.slice xa_9 xl_9 xc_9) wo7 ∧ ∃ g64 : G, g64.w = wo7 ∧ Stp g.w.heap.size M g63 g64 ∧ ∀ g65 : G, Ex g64 g65 →
  J_3 xa_9 xl_9 xc_9 (0 : Int) g65))))
  (∀ g70 : G, Ex g11 g70 →
  J_1 xa_3 xl_3 xc_3 (0 : Int) x0 x1 x2 x3a x3l x3c g70)))) → J x0_1 x1_2 x2_1 x3a_1 x3l_1 x3c_1 g3) →
  ifB (ltI (1000 : Int) ((x0l : Nat) : Int))
  (derefP c fun ad_9 => stOk g2.w (Addr.add ad_9 1) 1 ∧ ¬ g2.X (Addr.block (Addr.add ad_9 1)) ∧ mutAt g2 (Addr.add ad_9 1) 1 ∧ ((Addr.block (Addr.add ad_9 1)) < g.w.heap.size → M (Addr.block (Addr.add ad_9 1))) ∧ ∀ g71 : G, StG false g2 (Addr.add ad_9 1) [(.bool true)] g71 →
  ∀ g72 : G, Ex g71 g72 →
  R (.agg ⟨[(.int .i64 (0 : Int)), (.int .i64 (0 : Int)), (.string (bs [])), (.slice none 0 0)]⟩) g72)
  (ifB (leI (4096 : Int) ((xl : Nat) : Int))
  (derefP c fun ad_10 => stOk g2.w (Addr.add ad_10 1) 1 ∧ ¬ g2.X (Addr.block (Addr.add ad_10 1)) ∧ mutAt g2 (Addr.add ad_10 1) 1 ∧ ((Addr.block (Addr.add ad_10 1)) < g.w.heap.size → M (Addr.block (Addr.add ad_10 1))) ∧ ∀ g73 : G, StG false g2 (Addr.add ad_10 1) [(.bool true)] g73 →
  ∀ g74 : G, Ex g73 g74 →
  R (.agg ⟨[(.int .i64 (0 : Int)), (.int .i64 (0 : Int)), (.string (bs [])), (.slice none 0 0)]⟩) g74)
  (J (0 : Int) (0 : Int) (bs []) none 0 0 g2)))
theorem F34_eq (c : Option Addr) (x0 : Int) (x1 : Int) (x2 : ByteArray) (x3a : Option Addr) (x3l : Nat) (x3c : Nat) (s0a : Option Addr) (s0l : Nat) (s0c : Nat) (s1 : Int) (g : G) (M : Nat → Prop) (R : Value → G → Prop) : fnG cfg34 114 [.cell 6 24] c34 an34 [(.pointer c), (.agg ⟨[(.int .i64 x0), (.int .i64 x1), (.string x2), (.slice x3a x3l x3c)]⟩), (.agg ⟨[(.slice s0a s0l s0c), (.int .i64 s1)]⟩)] g M R = F34 c x0 x1 x2 x3a x3l x3c s0a s0l s0c s1 g M R := by kernel_rfl
theorem call34 (c : Option Addr) (x0 : Int) (x1 : Int) (x2 : ByteArray) (x3a : Option Addr) (x3l : Nat) (x3c : Nat) (s0a : Option Addr) (s0l : Nat) (s0c : Nat) (s1 : Int) (g : G) (M : Nat → Prop) (R : Value → G → Prop) (hF : F34 c x0 x1 x2 x3a x3l x3c s0a s0l s0c s1 g M R) : CallsG Try.prog 34 #[(.pointer c), (.agg ⟨[(.int .i64 x0), (.int .i64 x1), (.string x2), (.slice x3a x3l x3c)]⟩), (.agg ⟨[(.slice s0a s0l s0c), (.int .i64 s1)]⟩)] g M R :=
  fn_soundG (c := cfg34) TTok FNSok mixed Try.func34 (show Try.f34.body = some c34 by kernel_rfl) (show Try.f34.ntmps = 114 by kernel_rfl) (show Try.f34.results.toList = [.cell 6 24] by kernel_rfl) rfl ((F34_eq c x0 x1 x2 x3a x3l x3c s0a s0l s0c s1 g M R ).mpr hF)

/- 35 pilaster/closure.binds -/
noncomputable def c35 : Code := match Try.f35.body with
  | some c => c
  | none => .skip
noncomputable def cfg35 : Cfg := ⟨Try.prog, TT, FNS, [], [], [], TCH, false, false, none, PNF, false⟩
def an35 : AnnG := (.seq .leaf (.seq .leaf .leaf))
def F35 (op : Int) (part : Int) (g : G) (R : Value → G → Prop) : Prop :=
  ifB (eqI op (11 : Int))
  (∀ g1 : G, Ex g g1 →
  R (.bool (ltI (0 : Int) part)) g1)
  (ifB (eqI op (9 : Int))
  (∀ g2 : G, Ex g g2 →
  R (.bool (ltI (0 : Int) part)) g2)
  (∀ g3 : G, Ex g g3 →
  R (.bool false) g3))
theorem F35_eq (op : Int) (part : Int) (g : G) (R : Value → G → Prop) : fnG cfg35 15 [.tmp 4] c35 an35 [(.int .i64 op), (.int .i64 part)] g nobody R = F35 op part g R := by kernel_rfl
theorem call35 (op : Int) (part : Int) (g : G) (R : Value → G → Prop) (hF : F35 op part g R) : CallsG Try.prog 35 #[(.int .i64 op), (.int .i64 part)] g nobody R :=
  fn_soundG (c := cfg35) TTok FNSok mixed Try.func35 (show Try.f35.body = some c35 by kernel_rfl) (show Try.f35.ntmps = 15 by kernel_rfl) (show Try.f35.results.toList = [.tmp 4] by kernel_rfl) rfl ((F35_eq op part g R ).mpr hF)

/- 36 (pilaster/closure.scope).with -/
noncomputable def c36 : Code := match Try.f36.body with
  | some c => c
  | none => .skip
noncomputable def cfg36 : Cfg := ⟨Try.prog, TT, FNS, [1, 2], [(1, 1), (2, 2), (3, 1), (6, 1), (11, 1)], [], TCH, false, false, none, PNF, false⟩
def an36 : AnnG := (.seq .leaf (.seq (.treeP false [2] 11 (.quiet 0 (.quiet 1 (.quiet 3 (.quiet 4 (.quiet 8 (.quiet 9 (.quiet 10 (.eff 2 (.eff 5 (.eff 6 (.eff 7 .fin .fin) .fin) .fin) .fin))))))))) .leaf))
def F36 (s0a : Option Addr) (s0l : Nat) (s0c : Nat) (s1 : Int) (g : G) (R : Value → G → Prop) : Prop :=
  ∀ g1 : G, Ex g g1 →
  InI64 (s1 + (1 : Int)) ∧ ∀ g2 : G, Ex g1 g2 →
  (CallsP Try.prog 52 #[(.slice s0a s0l s0c)] g2 fun v g3 =>
  ∃ xa : Option Addr, ∃ xl : Nat, ∃ xc : Nat, v = (.slice xa xl xc) ∧ ∀ g4 : G, Ex g3 g4 →
  (CallsP Try.prog 51 #[(.int .i64 (21 : Int)), (.int .i64 s1), (.slice none 0 0)] g4 fun v g5 =>
  ∃ x0 : Int, ∃ x1 : Int, ∃ x2 : ByteArray, ∃ x3a : Option Addr, ∃ x3l : Nat, ∃ x3c : Nat, v = (.agg ⟨[(.int .i64 x0), (.int .i64 x1), (.string x2), (.slice x3a x3l x3c)]⟩) ∧ ∀ g6 : G, Ex g5 g6 →
  ∀ g7 : G, NewL g6 g7 24 [(.int .i64 x0), (.int .i64 x1), (.string x2), (.slice x3a x3l x3c)] →
  ∀ g8 : G, Ex g7 g8 →
  ∃ xa_1 : Option Addr, ∃ xl_1 : Nat, ∃ xc_1 : Nat, ∃ wo1 : World, Sem.run Try.prog (Builtin.append_ #[22, 22] 22 #[(.slice xa xl xc), (.slice (some ⟨g6.w.heap.size, 0, none⟩) 1 1)]) g8.w = .ok (.slice xa_1 xl_1 xc_1) wo1 ∧ ∃ g9 : G, g9.w = wo1 ∧ Stp g.w.heap.size nobody g8 g9 ∧ SameB g1 g9 ∧ ∀ g10 : G, Ex g9 g10 →
  R (.agg ⟨[(.slice xa_1 xl_1 xc_1), (.int .i64 (s1 + (1 : Int)))]⟩) g10))
theorem F36_eq (s0a : Option Addr) (s0l : Nat) (s0c : Nat) (s1 : Int) (g : G) (R : Value → G → Prop) : fnG cfg36 15 [.cell 2 49] c36 an36 [(.agg ⟨[(.slice s0a s0l s0c), (.int .i64 s1)]⟩)] g nobody R = F36 s0a s0l s0c s1 g R := by kernel_rfl
theorem call36 (s0a : Option Addr) (s0l : Nat) (s0c : Nat) (s1 : Int) (g : G) (R : Value → G → Prop) (hF : F36 s0a s0l s0c s1 g R) : CallsG Try.prog 36 #[(.agg ⟨[(.slice s0a s0l s0c), (.int .i64 s1)]⟩)] g nobody R :=
  fn_soundG (c := cfg36) TTok FNSok mixed Try.func36 (show Try.f36.body = some c36 by kernel_rfl) (show Try.f36.ntmps = 15 by kernel_rfl) (show Try.f36.results.toList = [.cell 2 49] by kernel_rfl) rfl ((F36_eq s0a s0l s0c s1 g R ).mpr hF)

/- 37 slices.IndexFunc[[]pilaster/api.Flat,pilaster/api.Flat] -/
noncomputable def c37 : Code := match Try.f37.body with
  | some c => c
  | none => .skip
noncomputable def cfg37 : Cfg := ⟨Try.prog, TT, FNS, [], [], [], TCH, false, false, none, PNF, false⟩
def an37 : AnnG := (.seq .leaf (.seq (.seq .leaf (.blk (.loop ⟨[(8, .int .i64)], [], []⟩ (.seq .leaf (.seq (.cond .leaf .leaf) (.seq (.blk (.seq .leaf (.seq .leaf (.cond (.seq .leaf .leaf) .leaf)))) .leaf)))))) (.seq .leaf .leaf)))
def F37 (sa : Option Addr) (sl : Nat) (sc : Nat) (ff : FuncId) (fc : Array Value) (g : G) (R : Value → G → Prop) : Prop :=
  ∃ Inv : Nat → Int → G → Prop, ((∃ m0 : Nat, Inv m0 (0 : Int) g)) ∧
  ∀ m : Nat, ∀ v_1 : Int, ∀ g1 : G, Le g g1 → Inv m v_1 g1 →
  ifB (ltI v_1 ((sl : Nat) : Int))
  ((0 ≤ v_1 ∧ v_1 < ((sl : Nat) : Int)) ∧ derefP sa fun ad => ∃ x0 : Int, ∃ x1 : Int, ∃ x2 : Int, ∃ x3 : ByteArray, ∃ x4a : Option Addr, ∃ x4l : Nat, ∃ x4c : Nat, g1.w.cell? (Addr.add ad (Int.toNat v_1 * 5)) = some (.int .i64 x0) ∧ g1.w.cell? (Addr.add (Addr.add ad (Int.toNat v_1 * 5)) 1) = some (.int .i64 x1) ∧ g1.w.cell? (Addr.add (Addr.add ad (Int.toNat v_1 * 5)) 2) = some (.int .i64 x2) ∧ g1.w.cell? (Addr.add (Addr.add ad (Int.toNat v_1 * 5)) 3) = some (.string x3) ∧ g1.w.cell? (Addr.add (Addr.add ad (Int.toNat v_1 * 5)) 4) = some (.slice x4a x4l x4c) ∧ Enters Try.prog ff ∧ (CallsP Try.prog ff ((⟨[(.agg ⟨[(.int .i64 x0), (.int .i64 x1), (.int .i64 x2), (.string x3), (.slice x4a x4l x4c)]⟩)]⟩ : Array Value) ++ fc) g1 fun v g2 =>
  ∃ x : Bool, v = (.bool x) ∧ ifB x
  (∀ g3 : G, Ex g2 g3 →
  R (.int .i64 v_1) g3)
  (InI64 (v_1 + (1 : Int)) ∧ (∃ m_1 : Nat, m_1 < m ∧ Inv m_1 (v_1 + (1 : Int)) g2))))
  (∀ g4 : G, Ex g1 g4 →
  R (.int .i64 (-1 : Int)) g4)
theorem F37_eq (sa : Option Addr) (sl : Nat) (sc : Nat) (ff : FuncId) (fc : Array Value) (g : G) (R : Value → G → Prop) : fnG cfg37 19 [.tmp 4] c37 an37 [(.slice sa sl sc), (.func (.func ff) #[] fc)] g nobody R = F37 sa sl sc ff fc g R := by kernel_rfl
theorem call37 (sa : Option Addr) (sl : Nat) (sc : Nat) (ff : FuncId) (fc : Array Value) (g : G) (R : Value → G → Prop) (hF : F37 sa sl sc ff fc g R) : CallsG Try.prog 37 #[(.slice sa sl sc), (.func (.func ff) #[] fc)] g nobody R :=
  fn_soundG (c := cfg37) TTok FNSok mixed Try.func37 (show Try.f37.body = some c37 by kernel_rfl) (show Try.f37.ntmps = 19 by kernel_rfl) (show Try.f37.results.toList = [.tmp 4] by kernel_rfl) rfl ((F37_eq sa sl sc ff fc g R ).mpr hF)

/- 38 pilaster/closure.measure -/
noncomputable def c38 : Code := match Try.f38.body with
  | some c => c
  | none => .skip
noncomputable def cfg38 : Cfg := ⟨Try.prog, TT, FNS, [1, 5], [(1, 1), (5, 5), (8, 1)], [], TCH, false, false, none, PNF, false⟩
def an38 : AnnG := (.seq .leaf (.seq (.seq .leaf (.blk (.loop ⟨[(2, .int .i64), (3, .int .i64), (11, .int .i64)], [], []⟩ (.seq .leaf (.seq (.cond .leaf .leaf) (.seq (.blk (.seq .leaf (.seq .leaf (.seq .leaf .leaf)))) .leaf)))))) (.seq .leaf .leaf)))
def F38 (x0 : Int) (x1 : Int) (x2 : ByteArray) (x3a : Option Addr) (x3l : Nat) (x3c : Nat) (g : G) (R : Value → G → Prop) : Prop :=
  ∃ Inv : Nat → Int → Int → Int → G → Prop, (∀ g1 : G, Ex g g1 →
  (∃ m0 : Nat, Inv m0 (0 : Int) (0 : Int) (0 : Int) g1)) ∧
  ∀ m : Nat, ∀ nodes : Int, ∀ depth : Int, ∀ v_1 : Int, ∀ g2 : G, Le g g2 → Inv m nodes depth v_1 g2 →
  ifB (ltI v_1 ((x3l : Nat) : Int))
  ((0 ≤ v_1 ∧ v_1 < ((x3l : Nat) : Int)) ∧ derefP x3a fun ad => ∃ x0_1 : Int, ∃ x1_1 : Int, ∃ x2_1 : ByteArray, ∃ x3a_1 : Option Addr, ∃ x3l_1 : Nat, ∃ x3c_1 : Nat, g2.w.cell? (Addr.add ad (Int.toNat v_1 * 4)) = some (.int .i64 x0_1) ∧ g2.w.cell? (Addr.add (Addr.add ad (Int.toNat v_1 * 4)) 1) = some (.int .i64 x1_1) ∧ g2.w.cell? (Addr.add (Addr.add ad (Int.toNat v_1 * 4)) 2) = some (.string x2_1) ∧ g2.w.cell? (Addr.add (Addr.add ad (Int.toNat v_1 * 4)) 3) = some (.slice x3a_1 x3l_1 x3c_1) ∧ ∀ g3 : G, Ex g2 g3 →
  (CallsP Try.prog 38 #[(.agg ⟨[(.int .i64 x0_1), (.int .i64 x1_1), (.string x2_1), (.slice x3a_1 x3l_1 x3c_1)]⟩)] g3 fun v g4 =>
  ∃ x0_2 : Int, ∃ x1_2 : Int, v = (.tuple ⟨[(.int .i64 x0_2), (.int .i64 x1_2)]⟩) ∧ InI64 (nodes + x0_2) ∧ InI64 (v_1 + (1 : Int)) ∧ (∃ m_1 : Nat, m_1 < m ∧ Inv m_1 (nodes + x0_2) (maxI depth x1_2) (v_1 + (1 : Int)) g4)))
  (InI64 (nodes + (1 : Int)) ∧ InI64 (depth + (1 : Int)) ∧ ∀ g5 : G, Ex g2 g5 →
  R (.tuple ⟨[(.int .i64 (nodes + (1 : Int))), (.int .i64 (depth + (1 : Int)))]⟩) g5)
theorem F38_eq (x0 : Int) (x1 : Int) (x2 : ByteArray) (x3a : Option Addr) (x3l : Nat) (x3c : Nat) (g : G) (R : Value → G → Prop) : fnG cfg38 31 [.tmp 2, .tmp 3] c38 an38 [(.agg ⟨[(.int .i64 x0), (.int .i64 x1), (.string x2), (.slice x3a x3l x3c)]⟩)] g nobody R = F38 x0 x1 x2 x3a x3l x3c g R := by kernel_rfl
theorem call38 (x0 : Int) (x1 : Int) (x2 : ByteArray) (x3a : Option Addr) (x3l : Nat) (x3c : Nat) (g : G) (R : Value → G → Prop) (hF : F38 x0 x1 x2 x3a x3l x3c g R) : CallsG Try.prog 38 #[(.agg ⟨[(.int .i64 x0), (.int .i64 x1), (.string x2), (.slice x3a x3l x3c)]⟩)] g nobody R :=
  fn_soundG (c := cfg38) TTok FNSok mixed Try.func38 (show Try.f38.body = some c38 by kernel_rfl) (show Try.f38.ntmps = 31 by kernel_rfl) (show Try.f38.results.toList = [.tmp 2, .tmp 3] by kernel_rfl) rfl ((F38_eq x0 x1 x2 x3a x3l x3c g R ).mpr hF)

/- 39 pilaster/pilasterref44.node -/
noncomputable def c39 : Code := match Try.f39.body with
  | some c => c
  | none => .skip
noncomputable def cfg39 : Cfg := ⟨Try.prog, TT, FNS, [1], [(1, 1), (5, 1), (7, 1), (10, 1), (14, 1), (18, 1), (49, 1), (113, 1)], [], TCH, false, false, none, PNF, false⟩
def an39 : AnnG := (.seq .leaf (.seq (.tree 6 (.quiet 0 (.quiet 1 (.quiet 2 (.quiet 3 (.quiet 4 (.quiet 5 .fin))))))) (.join ⟨[], [], []⟩ (.seq .leaf (.cond (.seq .leaf .leaf) .leaf)) (.seq (.seq .leaf (.blk (.seq .leaf (.cond (.seq .leaf .leaf) (.seq .leaf (.cond (.seq .leaf .leaf) (.seq .leaf (.cond (.seq .leaf .leaf) (.seq .leaf (.cond (.seq .leaf .leaf) (.join ⟨[(62, .bool)], [], []⟩ (.seq .leaf (.cond .leaf .leaf)) (.cond (.seq .leaf .leaf) (.seq .leaf (.cond (.seq .leaf .leaf) (.join ⟨[(79, .bool)], [], []⟩ (.seq .leaf (.cond .leaf .leaf)) (.cond (.seq .leaf .leaf) (.seq .leaf (.cond (.seq .leaf .leaf) (.seq .leaf (.cond (.seq .leaf .leaf) (.seq .leaf (.cond (.seq .leaf .leaf) (.seq .leaf (.cond (.seq .leaf .leaf) .leaf)))))))))))))))))))))))) (.seq .leaf .leaf)))))
def F39 (x0 : Int) (x1 : Int) (x2 : ByteArray) (x3a : Option Addr) (x3l : Nat) (x3c : Nat) (g : G) (R : Value → G → Prop) : Prop :=
  ∀ g1 : G, Ex g g1 →
  ∀ J : G → Prop,
  (∀ g2 : G, (ifB (eqI x0 (1 : Int))
  (ifB (leI (0 : Int) x1)
  (∀ g3 : G, Ex g2 g3 →
  R (.bool (eqI ((x3l : Nat) : Int) (0 : Int))) g3)
  (∀ g4 : G, Ex g2 g4 →
  R (.bool false) g4))
  (ifB (eqI x0 (2 : Int))
  (ifB (leI (-4503599627370496 : Int) x1)
  (ifB (leI x1 (4503599627370496 : Int))
  (∀ g5 : G, Ex g2 g5 →
  R (.bool (eqI ((x3l : Nat) : Int) (0 : Int))) g5)
  (∀ g6 : G, Ex g2 g6 →
  R (.bool false) g6))
  (∀ g7 : G, Ex g2 g7 →
  R (.bool false) g7))
  (ifB (eqI x0 (3 : Int))
  (ifB (eqI x1 (0 : Int))
  (ifB (eqI ((x3l : Nat) : Int) (0 : Int))
  (∀ g8 : G, Ex g2 g8 →
  R (.bool (leI ((x2.size : Nat) : Int) (16384 : Int))) g8)
  (∀ g9 : G, Ex g2 g9 →
  R (.bool false) g9))
  (∀ g10 : G, Ex g2 g10 →
  R (.bool false) g10))
  (ifB (eqI x0 (4 : Int))
  (ifB (eqI x1 (0 : Int))
  (∀ g11 : G, Ex g2 g11 →
  R (.bool (eqI ((x3l : Nat) : Int) (1 : Int))) g11)
  (∀ g12 : G, Ex g2 g12 →
  R (.bool false) g12))
  (∀ J_1 : Bool → G → Prop,
  (∀ v_1 : Bool, ∀ g13 : G, (ifB v_1
  (ifB (eqI x1 (0 : Int))
  (∀ g14 : G, Ex g13 g14 →
  R (.bool (eqI ((x3l : Nat) : Int) (2 : Int))) g14)
  (∀ g15 : G, Ex g13 g15 →
  R (.bool false) g15))
  (ifB (eqI x0 (6 : Int))
  (ifB (eqI x1 (0 : Int))
  (∀ g16 : G, Ex g13 g16 →
  R (.bool (leI ((x3l : Nat) : Int) (1000 : Int))) g16)
  (∀ g17 : G, Ex g13 g17 →
  R (.bool false) g17))
  (∀ J_2 : Bool → G → Prop,
  (∀ v_2 : Bool, ∀ g18 : G, (ifB v_2
  (ifB (leI (0 : Int) x1)
  (ifB (ltI x1 (1000 : Int))
  (∀ g19 : G, Ex g18 g19 →
  R (.bool (eqI ((x3l : Nat) : Int) (1 : Int))) g19)
  (∀ g20 : G, Ex g18 g20 →
  R (.bool false) g20))
  (∀ g21 : G, Ex g18 g21 →
  R (.bool false) g21))
  (ifB (eqI x0 (9 : Int))
  (ifB (eqI x1 (0 : Int))
  (ifB (leI (2 : Int) ((x3l : Nat) : Int))
  (∀ g22 : G, Ex g18 g22 →
  R (.bool (leI ((x3l : Nat) : Int) (1001 : Int))) g22)
  (∀ g23 : G, Ex g18 g23 →
  R (.bool false) g23))
  (∀ g24 : G, Ex g18 g24 →
  R (.bool false) g24))
  (ifB (eqI x0 (10 : Int))
  (ifB (eqI x1 (0 : Int))
  (ifB (eqI ((x3l : Nat) : Int) (1 : Int))
  ((0 ≤ (0 : Int) ∧ (0 : Int) < ((x3l : Nat) : Int)) ∧ derefP x3a fun ad => ∃ x : Int, g18.w.cell? (Addr.add ad (Int.toNat (0 : Int) * 4)) = some (.int .i64 x) ∧ ∀ g25 : G, Ex g18 g25 →
  R (.bool (eqI x (4 : Int))) g25)
  (∀ g26 : G, Ex g18 g26 →
  R (.bool false) g26))
  (∀ g27 : G, Ex g18 g27 →
  R (.bool false) g27))
  (ifB (eqI x0 (12 : Int))
  ((CallsP Try.prog 53 #[(.int .i64 x1)] g18 fun v g28 =>
  ∃ x_1 : Int, v = (.int .i64 x_1) ∧ ifB (ltI (0 : Int) x_1)
  ((CallsP Try.prog 53 #[(.int .i64 x1)] g28 fun v g29 =>
  ∃ x_2 : Int, v = (.int .i64 x_2) ∧ ∀ g30 : G, Ex g29 g30 →
  R (.bool (eqI ((x3l : Nat) : Int) x_2)) g30))
  (∀ g31 : G, Ex g28 g31 →
  R (.bool false) g31)))
  (ifB (eqI x0 (13 : Int))
  (ifB (leI (1 : Int) x1)
  (ifB (leI x1 (1000000 : Int))
  (∀ g32 : G, Ex g18 g32 →
  R (.bool (eqI ((x3l : Nat) : Int) (0 : Int))) g32)
  (∀ g33 : G, Ex g18 g33 →
  R (.bool false) g33))
  (∀ g34 : G, Ex g18 g34 →
  R (.bool false) g34))
  (∀ g35 : G, Ex g18 g35 →
  R (.bool false) g35)))))) → J_2 v_2 g18) →
  ifB (eqI x0 (7 : Int))
  (J_2 true g13)
  (J_2 (eqI x0 (8 : Int)) g13)))) → J_1 v_1 g13) →
  ifB (eqI x0 (5 : Int))
  (J_1 true g2)
  (J_1 (eqI x0 (11 : Int)) g2)))))) → J g2) →
  ifB (!eqI x0 (3 : Int))
  (ifB (!strEq x2 (bs []))
  (∀ g36 : G, Ex g1 g36 →
  R (.bool false) g36)
  (J g1))
  (J g1)
theorem F39_eq (x0 : Int) (x1 : Int) (x2 : ByteArray) (x3a : Option Addr) (x3l : Nat) (x3c : Nat) (g : G) (R : Value → G → Prop) : fnG cfg39 143 [.tmp 2] c39 an39 [(.agg ⟨[(.int .i64 x0), (.int .i64 x1), (.string x2), (.slice x3a x3l x3c)]⟩)] g nobody R = F39 x0 x1 x2 x3a x3l x3c g R := by kernel_rfl
theorem call39 (x0 : Int) (x1 : Int) (x2 : ByteArray) (x3a : Option Addr) (x3l : Nat) (x3c : Nat) (g : G) (R : Value → G → Prop) (hF : F39 x0 x1 x2 x3a x3l x3c g R) : CallsG Try.prog 39 #[(.agg ⟨[(.int .i64 x0), (.int .i64 x1), (.string x2), (.slice x3a x3l x3c)]⟩)] g nobody R :=
  fn_soundG (c := cfg39) TTok FNSok mixed Try.func39 (show Try.f39.body = some c39 by kernel_rfl) (show Try.f39.ntmps = 143 by kernel_rfl) (show Try.f39.results.toList = [.tmp 2] by kernel_rfl) rfl ((F39_eq x0 x1 x2 x3a x3l x3c g R ).mpr hF)

/- 40 pilaster/pilasterref44.insert -/
noncomputable def c40 : Code := match Try.f40.body with
  | some c => c
  | none => .skip
noncomputable def cfg40 : Cfg := ⟨Try.prog, TT, FNS, [], [], [], TCH, false, false, none, PNF, false⟩
def an40 : AnnG := (.seq .leaf (.seq .leaf (.join ⟨[(5, .int .i64)], [], []⟩ (.blk (.loop ⟨[(5, .int .i64)], [], []⟩ (.seq (.seq .leaf (.cond .leaf .leaf)) (.blk .leaf)))) (.join ⟨[], [], []⟩ (.seq .leaf (.cond (.seq .leaf .leaf) .leaf)) (.seq .leaf (.seq .leaf (.seq .leaf .leaf)))))))
def F40 (la : Option Addr) (ll : Nat) (lc : Nat) (n : Int) (g : G) (R : Value → G → Prop) : Prop :=
  ∀ J : Int → G → Prop,
  (∀ i : Int, ∀ g1 : G, (∀ J_1 : G → Prop,
  (∀ g2 : G, (∀ g3 : G, NewL g2 g3 3 [] →
  (0 ≤ i ∧ i ≤ ((lc : Nat) : Int)) ∧ ∃ outa : Option Addr, ∃ outl : Nat, ∃ outc : Nat, ∃ wo1 : World, Sem.run Try.prog (Builtin.append_ #[31, 31] 31 #[(.slice (some ⟨g2.w.heap.size, 0, none⟩) 0 0), (.slice (slAddr la lc 0 1) ((Int.toNat i) - 0) (lc - 0))]) g3.w = .ok (.slice outa outl outc) wo1 ∧ ∃ g4 : G, g4.w = wo1 ∧ Stp g.w.heap.size nobody g3 g4 ∧ ∀ g5 : G, NewL g4 g5 3 [(.int .i64 n)] →
  ∃ outa_1 : Option Addr, ∃ outl_1 : Nat, ∃ outc_1 : Nat, ∃ wo2 : World, Sem.run Try.prog (Builtin.append_ #[31, 31] 31 #[(.slice outa outl outc), (.slice (some ⟨g4.w.heap.size, 0, none⟩) 1 1)]) g5.w = .ok (.slice outa_1 outl_1 outc_1) wo2 ∧ ∃ g6 : G, g6.w = wo2 ∧ Stp g.w.heap.size nobody g5 g6 ∧ (0 ≤ i ∧ i ≤ ((ll : Nat) : Int)) ∧ ∃ xa : Option Addr, ∃ xl : Nat, ∃ xc : Nat, ∃ wo3 : World, Sem.run Try.prog (Builtin.append_ #[31, 31] 31 #[(.slice outa_1 outl_1 outc_1), (.slice (slAddr la lc (Int.toNat i) 1) (ll - (Int.toNat i)) (lc - (Int.toNat i)))]) g6.w = .ok (.slice xa xl xc) wo3 ∧ ∃ g7 : G, g7.w = wo3 ∧ Stp g.w.heap.size nobody g6 g7 ∧ ∀ g8 : G, Ex g7 g8 →
  R (.slice xa xl xc) g8) → J_1 g2) →
  ifB (ltI i ((ll : Nat) : Int))
  ((0 ≤ i ∧ i < ((ll : Nat) : Int)) ∧ derefP la fun ad => ∃ x : Int, g1.w.cell? (Addr.add ad (Int.toNat i * 1)) = some (.int .i64 x) ∧ ifB (eqI x n)
  (∀ g9 : G, Ex g1 g9 →
  R (.slice la ll lc) g9)
  (J_1 g1))
  (J_1 g1)) → J i g1) →
  ∃ Inv : Nat → Int → G → Prop, ((∃ m0 : Nat, Inv m0 (0 : Int) g)) ∧
  ∀ m : Nat, ∀ i_1 : Int, ∀ g10 : G, Le g g10 → Inv m i_1 g10 →
  ifB (ltI i_1 ((ll : Nat) : Int))
  ((0 ≤ i_1 ∧ i_1 < ((ll : Nat) : Int)) ∧ derefP la fun ad_1 => ∃ x_1 : Int, g10.w.cell? (Addr.add ad_1 (Int.toNat i_1 * 1)) = some (.int .i64 x_1) ∧ ifB (ltI x_1 n)
  (InI64 (i_1 + (1 : Int)) ∧ (∃ m_1 : Nat, m_1 < m ∧ Inv m_1 (i_1 + (1 : Int)) g10))
  (J i_1 g10))
  (J i_1 g10)
theorem F40_eq (la : Option Addr) (ll : Nat) (lc : Nat) (n : Int) (g : G) (R : Value → G → Prop) : fnG cfg40 48 [.tmp 4] c40 an40 [(.slice la ll lc), (.int .i64 n)] g nobody R = F40 la ll lc n g R := by kernel_rfl
theorem call40 (la : Option Addr) (ll : Nat) (lc : Nat) (n : Int) (g : G) (R : Value → G → Prop) (hF : F40 la ll lc n g R) : CallsG Try.prog 40 #[(.slice la ll lc), (.int .i64 n)] g nobody R :=
  fn_soundG (c := cfg40) TTok FNSok mixed Try.func40 (show Try.f40.body = some c40 by kernel_rfl) (show Try.f40.ntmps = 48 by kernel_rfl) (show Try.f40.results.toList = [.tmp 4] by kernel_rfl) rfl ((F40_eq la ll lc n g R ).mpr hF)

/- 41 pilaster/pilasterref44.Bound -/
noncomputable def c41 : Code := match Try.f41.body with
  | some c => c
  | none => .skip
noncomputable def cfg41 : Cfg := ⟨Try.prog, TT, FNS, [2], [(2, 2), (5, 2)], [], TCH, false, false, none, PNF, false⟩
def an41 : AnnG := (.seq .leaf (.seq (.seq .leaf (.blk (.join ⟨[(7, .bool)], [], []⟩ (.seq .leaf (.cond .leaf .leaf)) (.cond (.seq .leaf .leaf) (.seq (.seq .leaf (.cond .leaf .leaf)) (.cond (.seq .leaf (.cond (.seq .leaf .leaf) .leaf)) .leaf)))))) (.seq .leaf .leaf)))
def F41 (x0 : Int) (x1 : Int) (x2 : ByteArray) (x3a : Option Addr) (x3l : Nat) (x3c : Nat) (part : Int) (g : G) (R : Value → G → Prop) : Prop :=
  ∀ J : Bool → G → Prop,
  (∀ v_1 : Bool, ∀ g1 : G, (ifB v_1
  (∀ g2 : G, Ex g1 g2 →
  R (.int .i64 (1 : Int)) g2)
  (ifB (eqI x0 (11 : Int))
  (ifB (ltI (0 : Int) part)
  (∀ g3 : G, Ex g1 g3 →
  R (.int .i64 (1 : Int)) g3)
  (∀ g4 : G, Ex g1 g4 →
  R (.int .i64 (0 : Int)) g4))
  (ifB (eqI x0 (9 : Int))
  (ifB (ltI (0 : Int) part)
  (∀ g5 : G, Ex g1 g5 →
  R (.int .i64 (1 : Int)) g5)
  (∀ g6 : G, Ex g1 g6 →
  R (.int .i64 (0 : Int)) g6))
  (∀ g7 : G, Ex g1 g7 →
  R (.int .i64 (0 : Int)) g7)))) → J v_1 g1) →
  ifB (eqI x0 (4 : Int))
  (∀ g8 : G, Ex g g8 →
  J true g8)
  (∀ g9 : G, Ex g g9 →
  J (eqI x0 (10 : Int)) g9)
theorem F41_eq (x0 : Int) (x1 : Int) (x2 : ByteArray) (x3a : Option Addr) (x3l : Nat) (x3c : Nat) (part : Int) (g : G) (R : Value → G → Prop) : fnG cfg41 15 [.tmp 4] c41 an41 [(.agg ⟨[(.int .i64 x0), (.int .i64 x1), (.string x2), (.slice x3a x3l x3c)]⟩), (.int .i64 part)] g nobody R = F41 x0 x1 x2 x3a x3l x3c part g R := by kernel_rfl
theorem call41 (x0 : Int) (x1 : Int) (x2 : ByteArray) (x3a : Option Addr) (x3l : Nat) (x3c : Nat) (part : Int) (g : G) (R : Value → G → Prop) (hF : F41 x0 x1 x2 x3a x3l x3c part g R) : CallsG Try.prog 41 #[(.agg ⟨[(.int .i64 x0), (.int .i64 x1), (.string x2), (.slice x3a x3l x3c)]⟩), (.int .i64 part)] g nobody R :=
  fn_soundG (c := cfg41) TTok FNSok mixed Try.func41 (show Try.f41.body = some c41 by kernel_rfl) (show Try.f41.ntmps = 15 by kernel_rfl) (show Try.f41.results.toList = [.tmp 4] by kernel_rfl) rfl ((F41_eq x0 x1 x2 x3a x3l x3c part g R ).mpr hF)

/- 42 pilaster/pilasterref45.variable -/
noncomputable def c42 : Code := match Try.f42.body with
  | some c => c
  | none => .skip
noncomputable def cfg42 : Cfg := ⟨Try.prog, TT, FNS, [4], [(4, 4)], [], TCH, false, false, none, PNF, false⟩
def an42 : AnnG := (.seq .leaf (.seq .leaf .leaf))
def F42 (enva : Option Addr) (envl : Nat) (envc : Nat) (n : Int) (g : G) (R : Value → G → Prop) : Prop :=
  InI64 (((envl : Nat) : Int) - (1 : Int)) ∧ InI64 ((((envl : Nat) : Int) - (1 : Int)) - n) ∧ (0 ≤ ((((envl : Nat) : Int) - (1 : Int)) - n) ∧ ((((envl : Nat) : Int) - (1 : Int)) - n) < ((envl : Nat) : Int)) ∧ derefP enva fun ad => ∀ g1 : G, Ex g g1 →
  ∃ x0 : Int, ∃ x1 : Int, ∃ x2 : ByteArray, ∃ x3a : Option Addr, ∃ x3l : Nat, ∃ x3c : Nat, g1.w.cell? (Addr.add ad (Int.toNat ((((envl : Nat) : Int) - (1 : Int)) - n) * 4)) = some (.int .i64 x0) ∧ g1.w.cell? (Addr.add (Addr.add ad (Int.toNat ((((envl : Nat) : Int) - (1 : Int)) - n) * 4)) 1) = some (.int .i64 x1) ∧ g1.w.cell? (Addr.add (Addr.add ad (Int.toNat ((((envl : Nat) : Int) - (1 : Int)) - n) * 4)) 2) = some (.string x2) ∧ g1.w.cell? (Addr.add (Addr.add ad (Int.toNat ((((envl : Nat) : Int) - (1 : Int)) - n) * 4)) 3) = some (.slice x3a x3l x3c) ∧ ∀ g2 : G, Ex g1 g2 →
  R (.agg ⟨[(.int .i64 x0), (.int .i64 x1), (.string x2), (.slice x3a x3l x3c)]⟩) g2
theorem F42_eq (enva : Option Addr) (envl : Nat) (envc : Nat) (n : Int) (g : G) (R : Value → G → Prop) : fnG cfg42 13 [.cell 4 24] c42 an42 [(.slice enva envl envc), (.int .i64 n)] g nobody R = F42 enva envl envc n g R := by kernel_rfl
theorem call42 (enva : Option Addr) (envl : Nat) (envc : Nat) (n : Int) (g : G) (R : Value → G → Prop) (hF : F42 enva envl envc n g R) : CallsG Try.prog 42 #[(.slice enva envl envc), (.int .i64 n)] g nobody R :=
  fn_soundG (c := cfg42) TTok FNSok mixed Try.func42 (show Try.f42.body = some c42 by kernel_rfl) (show Try.f42.ntmps = 13 by kernel_rfl) (show Try.f42.results.toList = [.cell 4 24] by kernel_rfl) rfl ((F42_eq enva envl envc n g R ).mpr hF)

/- 43 pilaster/pilasterref45.function -/
noncomputable def c43 : Code := match Try.f43.body with
  | some c => c
  | none => .skip
noncomputable def cfg43 : Cfg := ⟨Try.prog, TT, FNS, [5, 9, 10, 11, 12, 16, 17], [(5, 5), (9, 9), (10, 10), (11, 11), (12, 12), (16, 16), (17, 17), (18, 9), (31, 12), (41, 12), (63, 9), (66, 9), (73, 9), (75, 5), (84, 17)], [], TCH, false, false, none, PNF, false⟩
def an43 : AnnG := (.seq .leaf (.seq .leaf (.seq .leaf (.seq (.seq .leaf (.blk (.loop ⟨[(14, .int .i64)], [(12, 12, 0)], [(12, [(.int .i64), (.int .i64), (.str), (.sl)])]⟩ (.seq (.seq .leaf (.cond .leaf .leaf)) (.seq (.blk (.join ⟨[], [(12, 12, 0)], [(12, [(.int .i64), (.int .i64), (.str), (.sl)])]⟩ (.treeP true [12] 9 (.quiet 0 (.quiet 2 (.quiet 3 (.quiet 4 (.quiet 5 (.quiet 6 (.eff 1 (.eff 7 (.eff 8 .fin .fin) .fin) (.eff 7 (.eff 1 (.eff 8 .fin .fin) (.eff 8 (.eff 1 .fin .fin) .fin)) .fin))))))))) (.treeB 11 (.quiet 0 (.quiet 1 (.quiet 2 (.quiet 3 (.quiet 4 (.quiet 5 (.quiet 6 (.quiet 7 (.quiet 8 (.quiet 9 (.eff 10 .fin .fin)))))))))))))) .leaf))))) (.join ⟨[(13, .sl)], [], []⟩ (.seq .leaf (.cond .leaf .leaf)) (.seq .leaf (.seq .leaf (.seq .leaf (.join ⟨[], [(16, 16, 0), (17, 17, 0)], [(16, [(.int .i64), (.int .i64), (.str), (.sl)]), (17, [(.sl)])]⟩ (.treeP true [] 13 (.quiet 0 (.quiet 1 (.quiet 2 (.quiet 3 (.quiet 4 (.quiet 5 (.eff 6 (.quiet 7 (.quiet 8 (.quiet 9 (.eff 10 (.eff 11 (.eff 12 .fin .fin) .fin) (.eff 11 (.eff 10 (.eff 12 .fin .fin) .fin) .fin))))) (.eff 10 (.eff 6 (.quiet 7 (.quiet 8 (.quiet 9 (.eff 11 (.eff 12 .fin .fin) .fin)))) (.eff 11 (.eff 6 (.quiet 7 (.quiet 8 (.quiet 9 (.eff 12 .fin .fin)))) .fin) .fin)) (.eff 11 (.eff 6 (.quiet 7 (.quiet 8 (.quiet 9 (.eff 10 (.eff 12 .fin .fin) .fin)))) (.eff 10 (.eff 6 (.quiet 7 (.quiet 8 (.quiet 9 (.eff 12 .fin .fin)))) .fin) .fin)) .fin)))))))))) (.seq .leaf (.seq (.treeP true [10, 11] 3 (.quiet 0 (.quiet 1 (.eff 2 .fin .fin)))) .leaf)))))))))))
def F43 (fun0 : Int) (fun1 : Int) (fun2 : ByteArray) (fun3a : Option Addr) (fun3l : Nat) (fun3c : Nat) (capturesa : Option Addr) (capturesl : Nat) (capturesc : Nat) (fixed : Bool) (enva : Option Addr) (envl : Nat) (envc : Nat) (c0a : Option Addr) (c0l : Nat) (c0c : Nat) (g : G) (M : Nat → Prop) (R : Value → G → Prop) : Prop :=
  ∀ g1 : G, Ex g g1 →
  ∀ g2 : G, Ex g1 g2 →
  ∃ innera : Option Addr, ∃ innerl : Nat, ∃ innerc : Nat, ∃ wo1 : World, Sem.run Try.prog (Instr.makeSlice 22 (.int .i64 ((envl : Nat) : Int)) (.int .i64 ((envl : Nat) : Int))) g2.w = .ok (.slice innera innerl innerc) wo1 ∧ ∃ g3 : G, g3.w = wo1 ∧ Stp g.w.heap.size M g2 g3 ∧ ∃ Inv : Nat → Int → Int → Int → ByteArray → Option Addr → Nat → Nat → G → Prop, ((∃ m0 : Nat, Inv m0 (0 : Int) (24 : Int) ((c0l : Nat) : Int) (bs []) none 0 0 g3)) ∧
  ∀ m : Nat, ∀ i : Int, ∀ out0 : Int, ∀ out1 : Int, ∀ out2 : ByteArray, ∀ out3a : Option Addr, ∀ out3l : Nat, ∀ out3c : Nat, ∀ g4 : G, Le g3 g4 → Inv m i out0 out1 out2 out3a out3l out3c g4 →
  ifB (ltI i ((capturesl : Nat) : Int))
  (∀ J : Int → Int → ByteArray → Option Addr → Nat → Nat → G → Prop,
  (∀ out0_1 : Int, ∀ out1_1 : Int, ∀ out2_1 : ByteArray, ∀ out3a_1 : Option Addr, ∀ out3l_1 : Nat, ∀ out3c_1 : Nat, ∀ g5 : G, (∀ g6 : G, Ex g5 g6 →
  ∃ MR1 : Nat → Prop, (∀ b, MR1 b → ¬ g6.X b) ∧ InI64 (((envl : Nat) : Int) - (1 : Int)) ∧ (0 ≤ i ∧ i < ((capturesl : Nat) : Int)) ∧ derefP capturesa fun ad => ¬ MR1 (Addr.block (Addr.add ad (Int.toNat i * 1))) ∧ ∃ x : Int, g6.w.cell? (Addr.add ad (Int.toNat i * 1)) = some (.int .i64 x) ∧ InI64 ((((envl : Nat) : Int) - (1 : Int)) - x) ∧ (CallsP Try.prog 45 #[(.int .i64 (23 : Int)), (.int .i64 i)] g6 fun v g7 =>
  ∃ x0 : Int, ∃ x1 : Int, ∃ x2 : ByteArray, ∃ x3a : Option Addr, ∃ x3l : Nat, ∃ x3c : Nat, v = (.agg ⟨[(.int .i64 x0), (.int .i64 x1), (.string x2), (.slice x3a x3l x3c)]⟩) ∧ (0 ≤ ((((envl : Nat) : Int) - (1 : Int)) - x) ∧ ((((envl : Nat) : Int) - (1 : Int)) - x) < ((innerl : Nat) : Int)) ∧ derefP innera fun ad_1 => stOk g7.w (Addr.add ad_1 (Int.toNat ((((envl : Nat) : Int) - (1 : Int)) - x) * 4)) 4 ∧ ¬ g7.X (Addr.block (Addr.add ad_1 (Int.toNat ((((envl : Nat) : Int) - (1 : Int)) - x) * 4))) ∧ mutAt g7 (Addr.add ad_1 (Int.toNat ((((envl : Nat) : Int) - (1 : Int)) - x) * 4)) 4 ∧ ((Addr.block (Addr.add ad_1 (Int.toNat ((((envl : Nat) : Int) - (1 : Int)) - x) * 4))) < g.w.heap.size → M (Addr.block (Addr.add ad_1 (Int.toNat ((((envl : Nat) : Int) - (1 : Int)) - x) * 4)))) ∧ ∀ g8 : G, StG false g7 (Addr.add ad_1 (Int.toNat ((((envl : Nat) : Int) - (1 : Int)) - x) * 4)) [(.int .i64 x0), (.int .i64 x1), (.string x2), (.slice x3a x3l x3c)] g8 →
  InI64 (i + (1 : Int)) ∧ (∃ m_1 : Nat, m_1 < m ∧ Inv m_1 (i + (1 : Int)) out0_1 out1_1 out2_1 out3a_1 out3l_1 out3c_1 g8))) → J out0_1 out1_1 out2_1 out3a_1 out3l_1 out3c_1 g5) →
  ∀ g9 : G, Ex g4 g9 →
  ∃ MR2 : Nat → Prop, (∀ b, MR2 b → ¬ g9.X b) ∧ (0 ≤ i ∧ i < ((capturesl : Nat) : Int)) ∧ derefP capturesa fun ad_2 => ¬ g9.X (Addr.block (Addr.add ad_2 (Int.toNat i * 1))) ∧ ¬ MR2 (Addr.block (Addr.add ad_2 (Int.toNat i * 1))) ∧ ∃ x_1 : Int, g9.w.cell? (Addr.add ad_2 (Int.toNat i * 1)) = some (.int .i64 x_1) ∧ (∀ g10 : G, Ex g9 g10 →
  (CallsP Try.prog 42 #[(.slice enva envl envc), (.int .i64 x_1)] g10 fun v g11 =>
  ∃ x0_1 : Int, ∃ x1_1 : Int, ∃ x2_1 : ByteArray, ∃ x3a_1 : Option Addr, ∃ x3l_1 : Nat, ∃ x3c_1 : Nat, v = (.agg ⟨[(.int .i64 x0_1), (.int .i64 x1_1), (.string x2_1), (.slice x3a_1 x3l_1 x3c_1)]⟩) ∧ ∀ g12 : G, Ex g11 g12 →
  ∀ g13 : G, NewL g12 g13 24 [(.int .i64 x0_1), (.int .i64 x1_1), (.string x2_1), (.slice x3a_1 x3l_1 x3c_1)] →
  ∃ xa : Option Addr, ∃ xl : Nat, ∃ xc : Nat, ∃ wo2 : World, Sem.run Try.prog (Builtin.append_ #[22, 22] 22 #[(.slice out3a out3l out3c), (.slice (some ⟨g12.w.heap.size, 0, none⟩) 1 1)]) g13.w = .ok (.slice xa xl xc) wo2 ∧ ∃ g14 : G, g14.w = wo2 ∧ Stp g.w.heap.size M g13 g14 ∧ ∀ g15 : G, Ex g14 g15 →
  J out0 out1 out2 xa xl xc g15)) ∧ (∀ g16 : G, Ex g9 g16 →
  (CallsP Try.prog 42 #[(.slice enva envl envc), (.int .i64 x_1)] g16 fun v g17 =>
  ∃ x0_2 : Int, ∃ x1_2 : Int, ∃ x2_2 : ByteArray, ∃ x3a_2 : Option Addr, ∃ x3l_2 : Nat, ∃ x3c_2 : Nat, v = (.agg ⟨[(.int .i64 x0_2), (.int .i64 x1_2), (.string x2_2), (.slice x3a_2 x3l_2 x3c_2)]⟩) ∧ Rep 1 (∀ g18 : G, Ex g17 g18 →
  ∀ g19 : G, NewL g18 g19 24 [(.int .i64 x0_2), (.int .i64 x1_2), (.string x2_2), (.slice x3a_2 x3l_2 x3c_2)] →
  ∃ xa_1 : Option Addr, ∃ xl_1 : Nat, ∃ xc_1 : Nat, ∃ wo3 : World, Sem.run Try.prog (Builtin.append_ #[22, 22] 22 #[(.slice out3a out3l out3c), (.slice (some ⟨g18.w.heap.size, 0, none⟩) 1 1)]) g19.w = .ok (.slice xa_1 xl_1 xc_1) wo3 ∧ ∃ g20 : G, g20.w = wo3 ∧ Stp g.w.heap.size M g19 g20 ∧ ∀ g21 : G, Ex g20 g21 →
  J out0 out1 out2 xa_1 xl_1 xc_1 g21))))
  (∀ J_1 : Option Addr → Nat → Nat → G → Prop,
  (∀ innera_1 : Option Addr, ∀ innerl_1 : Nat, ∀ innerc_1 : Nat, ∀ g26 : G, ((CallsP Try.prog 45 #[(.int .i64 (21 : Int)), (.int .i64 (0 : Int))] g26 fun v g27 =>
  ∃ x0_3 : Int, ∃ x1_3 : Int, ∃ x2_3 : ByteArray, ∃ x3a_3 : Option Addr, ∃ x3l_3 : Nat, ∃ x3c_3 : Nat, v = (.agg ⟨[(.int .i64 x0_3), (.int .i64 x1_3), (.string x2_3), (.slice x3a_3 x3l_3 x3c_3)]⟩) ∧ ∀ g28 : G, NewL g27 g28 24 [(.int .i64 x0_3), (.int .i64 x1_3), (.string x2_3), (.slice x3a_3 x3l_3 x3c_3)] →
  ∃ innera_2 : Option Addr, ∃ innerl_2 : Nat, ∃ innerc_2 : Nat, ∃ wo5 : World, Sem.run Try.prog (Builtin.append_ #[22, 22] 22 #[(.slice innera_1 innerl_1 innerc_1), (.slice (some ⟨g27.w.heap.size, 0, none⟩) 1 1)]) g28.w = .ok (.slice innera_2 innerl_2 innerc_2) wo5 ∧ ∃ g29 : G, g29.w = wo5 ∧ Stp g.w.heap.size M g28 g29 ∧ ∀ g30 : G, NewL g29 g30 38 [(.int .i64 ((capturesl : Nat) : Int)), (.int .i64 (0 : Int)), (.int .i64 (0 : Int)), (.string (bs [])), (.slice none 0 0)] →
  ∃ xa_3 : Option Addr, ∃ xl_3 : Nat, ∃ xc_3 : Nat, ∃ wo6 : World, Sem.run Try.prog (Builtin.append_ #[27, 27] 27 #[(.slice c0a c0l c0c), (.slice (some ⟨g29.w.heap.size, 0, none⟩) 1 1)]) g30.w = .ok (.slice xa_3 xl_3 xc_3) wo6 ∧ ∃ g31 : G, g31.w = wo6 ∧ Stp g.w.heap.size M g30 g31 ∧ ∀ J_2 : Int → Int → ByteArray → Option Addr → Nat → Nat → Option Addr → Nat → Nat → G → Prop,
  (∀ b0 : Int, ∀ b1 : Int, ∀ b2 : ByteArray, ∀ b3a : Option Addr, ∀ b3l : Nat, ∀ b3c : Nat, ∀ da : Option Addr, ∀ dl : Nat, ∀ dc : Nat, ∀ g32 : G, ((0 ≤ ((c0l : Nat) : Int) ∧ ((c0l : Nat) : Int) < ((dl : Nat) : Int)) ∧ derefP da fun ad_3 => stOk g32.w (Addr.add (Addr.add ad_3 (Int.toNat ((c0l : Nat) : Int) * 5)) 1) 4 ∧ ¬ g32.X (Addr.block (Addr.add (Addr.add ad_3 (Int.toNat ((c0l : Nat) : Int) * 5)) 1)) ∧ mutAt g32 (Addr.add (Addr.add ad_3 (Int.toNat ((c0l : Nat) : Int) * 5)) 1) 4 ∧ ((Addr.block (Addr.add (Addr.add ad_3 (Int.toNat ((c0l : Nat) : Int) * 5)) 1)) < g.w.heap.size → M (Addr.block (Addr.add (Addr.add ad_3 (Int.toNat ((c0l : Nat) : Int) * 5)) 1))) ∧ ∀ g33 : G, StG false g32 (Addr.add (Addr.add ad_3 (Int.toNat ((c0l : Nat) : Int) * 5)) 1) [(.int .i64 b0), (.int .i64 b1), (.string b2), (.slice b3a b3l b3c)] g33 →
  ∀ g34 : G, Ex g33 g34 →
  ∃ MR3 : Nat → Prop, (∀ b, MR3 b → ¬ g34.X b) ∧ ∀ g35 : G, Ex g34 g35 →
  R (.tuple ⟨[(.agg ⟨[(.int .i64 out0), (.int .i64 out1), (.string out2), (.slice out3a out3l out3c)]⟩), (.agg ⟨[(.slice da dl dc)]⟩)]⟩) g35) → J_2 b0 b1 b2 b3a b3l b3c da dl dc g32) →
  ∀ g36 : G, Ex g31 g36 →
  ∃ MR4 : Nat → Prop, (∀ b, MR4 b → ¬ g36.X b) ∧ (0 ≤ (0 : Int) ∧ (0 : Int) < ((fun3l : Nat) : Int)) ∧ derefP fun3a fun ad_4 => ¬ g36.X (Addr.block (Addr.add ad_4 (Int.toNat (0 : Int) * 4))) ∧ ¬ MR4 (Addr.block (Addr.add ad_4 (Int.toNat (0 : Int) * 4))) ∧ ∃ x0_4 : Int, ∃ x1_4 : Int, ∃ x2_4 : ByteArray, ∃ x3a_4 : Option Addr, ∃ x3l_4 : Nat, ∃ x3c_4 : Nat, g36.w.cell? (Addr.add ad_4 (Int.toNat (0 : Int) * 4)) = some (.int .i64 x0_4) ∧ g36.w.cell? (Addr.add (Addr.add ad_4 (Int.toNat (0 : Int) * 4)) 1) = some (.int .i64 x1_4) ∧ g36.w.cell? (Addr.add (Addr.add ad_4 (Int.toNat (0 : Int) * 4)) 2) = some (.string x2_4) ∧ g36.w.cell? (Addr.add (Addr.add ad_4 (Int.toNat (0 : Int) * 4)) 3) = some (.slice x3a_4 x3l_4 x3c_4) ∧ (∀ g37 : G, Ex g36 g37 →
  ∃ M5 : Nat → Prop, (∀ b, b < g.w.heap.size → M5 b → M b) ∧ (CallsG Try.prog 25 #[(.agg ⟨[(.int .i64 x0_4), (.int .i64 x1_4), (.string x2_4), (.slice x3a_4 x3l_4 x3c_4)]⟩), (.slice innera_2 innerl_2 innerc_2), (.int .i64 (1 : Int)), (.agg ⟨[(.slice xa_3 xl_3 xc_3)]⟩)] g37 M5 fun v g38 =>
  ∃ x00 : Int, ∃ x01 : Int, ∃ x02 : ByteArray, ∃ x03a : Option Addr, ∃ x03l : Nat, ∃ x03c : Nat, ∃ x10a : Option Addr, ∃ x10l : Nat, ∃ x10c : Nat, v = (.tuple ⟨[(.agg ⟨[(.int .i64 x00), (.int .i64 x01), (.string x02), (.slice x03a x03l x03c)]⟩), (.agg ⟨[(.slice x10a x10l x10c)]⟩)]⟩) ∧ SameBut MR4 g36 g38 ∧ Rep 1 (∀ g39 : G, Ex g38 g39 →
  J_2 x00 x01 x02 x03a x03l x03c x10a x10l x10c g39))) ∧ ((Rep 1 (∀ g41 : G, Ex g36 g41 →
  ∃ M6 : Nat → Prop, (∀ b, b < g.w.heap.size → M6 b → M b) ∧ (CallsG Try.prog 25 #[(.agg ⟨[(.int .i64 x0_4), (.int .i64 x1_4), (.string x2_4), (.slice x3a_4 x3l_4 x3c_4)]⟩), (.slice innera_2 innerl_2 innerc_2), (.int .i64 (1 : Int)), (.agg ⟨[(.slice xa_3 xl_3 xc_3)]⟩)] g41 M6 fun v g42 =>
  ∃ x00_1 : Int, ∃ x01_1 : Int, ∃ x02_1 : ByteArray, ∃ x03a_1 : Option Addr, ∃ x03l_1 : Nat, ∃ x03c_1 : Nat, ∃ x10a_1 : Option Addr, ∃ x10l_1 : Nat, ∃ x10c_1 : Nat, v = (.tuple ⟨[(.agg ⟨[(.int .i64 x00_1), (.int .i64 x01_1), (.string x02_1), (.slice x03a_1 x03l_1 x03c_1)]⟩), (.agg ⟨[(.slice x10a_1 x10l_1 x10c_1)]⟩)]⟩) ∧ SameBut MR4 g36 g42 ∧ ∀ g43 : G, Ex g42 g43 →
  J_2 x00_1 x01_1 x02_1 x03a_1 x03l_1 x03c_1 x10a_1 x10l_1 x10c_1 g43))) ∧ (Rep 1 (∀ g47 : G, Ex g36 g47 →
  ∃ M8 : Nat → Prop, (∀ b, b < g.w.heap.size → M8 b → M b) ∧ (CallsG Try.prog 25 #[(.agg ⟨[(.int .i64 x0_4), (.int .i64 x1_4), (.string x2_4), (.slice x3a_4 x3l_4 x3c_4)]⟩), (.slice innera_2 innerl_2 innerc_2), (.int .i64 (1 : Int)), (.agg ⟨[(.slice xa_3 xl_3 xc_3)]⟩)] g47 M8 fun v g48 =>
  ∃ x00_3 : Int, ∃ x01_3 : Int, ∃ x02_3 : ByteArray, ∃ x03a_3 : Option Addr, ∃ x03l_3 : Nat, ∃ x03c_3 : Nat, ∃ x10a_3 : Option Addr, ∃ x10l_3 : Nat, ∃ x10c_3 : Nat, v = (.tuple ⟨[(.agg ⟨[(.int .i64 x00_3), (.int .i64 x01_3), (.string x02_3), (.slice x03a_3 x03l_3 x03c_3)]⟩), (.agg ⟨[(.slice x10a_3 x10l_3 x10c_3)]⟩)]⟩) ∧ SameBut MR4 g36 g48 ∧ ∀ g49 : G, Ex g48 g49 →
  J_2 x00_3 x01_3 x02_3 x03a_3 x03l_3 x03c_3 x10a_3 x10l_3 x10c_3 g49)))))) → J_1 innera_1 innerl_1 innerc_1 g26) →
  ifB fixed
  ((CallsP Try.prog 45 #[(.int .i64 (22 : Int)), (.int .i64 (0 : Int))] g4 fun v g53 =>
  ∃ x0_5 : Int, ∃ x1_5 : Int, ∃ x2_5 : ByteArray, ∃ x3a_5 : Option Addr, ∃ x3l_5 : Nat, ∃ x3c_5 : Nat, v = (.agg ⟨[(.int .i64 x0_5), (.int .i64 x1_5), (.string x2_5), (.slice x3a_5 x3l_5 x3c_5)]⟩) ∧ ∀ g54 : G, NewL g53 g54 24 [(.int .i64 x0_5), (.int .i64 x1_5), (.string x2_5), (.slice x3a_5 x3l_5 x3c_5)] →
  ∃ innera_3 : Option Addr, ∃ innerl_3 : Nat, ∃ innerc_3 : Nat, ∃ wo7 : World, Sem.run Try.prog (Builtin.append_ #[22, 22] 22 #[(.slice innera innerl innerc), (.slice (some ⟨g53.w.heap.size, 0, none⟩) 1 1)]) g54.w = .ok (.slice innera_3 innerl_3 innerc_3) wo7 ∧ ∃ g55 : G, g55.w = wo7 ∧ Stp g.w.heap.size M g54 g55 ∧ J_1 innera_3 innerl_3 innerc_3 g55))
  (J_1 innera innerl innerc g4))
theorem F43_eq (fun0 : Int) (fun1 : Int) (fun2 : ByteArray) (fun3a : Option Addr) (fun3l : Nat) (fun3c : Nat) (capturesa : Option Addr) (capturesl : Nat) (capturesc : Nat) (fixed : Bool) (enva : Option Addr) (envl : Nat) (envc : Nat) (c0a : Option Addr) (c0l : Nat) (c0c : Nat) (g : G) (M : Nat → Prop) (R : Value → G → Prop) : fnG cfg43 92 [.cell 10 24, .cell 11 55] c43 an43 [(.agg ⟨[(.int .i64 fun0), (.int .i64 fun1), (.string fun2), (.slice fun3a fun3l fun3c)]⟩), (.slice capturesa capturesl capturesc), (.bool fixed), (.slice enva envl envc), (.agg ⟨[(.slice c0a c0l c0c)]⟩)] g M R = F43 fun0 fun1 fun2 fun3a fun3l fun3c capturesa capturesl capturesc fixed enva envl envc c0a c0l c0c g M R := by kernel_rfl
theorem call43 (fun0 : Int) (fun1 : Int) (fun2 : ByteArray) (fun3a : Option Addr) (fun3l : Nat) (fun3c : Nat) (capturesa : Option Addr) (capturesl : Nat) (capturesc : Nat) (fixed : Bool) (enva : Option Addr) (envl : Nat) (envc : Nat) (c0a : Option Addr) (c0l : Nat) (c0c : Nat) (g : G) (M : Nat → Prop) (R : Value → G → Prop) (hF : F43 fun0 fun1 fun2 fun3a fun3l fun3c capturesa capturesl capturesc fixed enva envl envc c0a c0l c0c g M R) : CallsG Try.prog 43 #[(.agg ⟨[(.int .i64 fun0), (.int .i64 fun1), (.string fun2), (.slice fun3a fun3l fun3c)]⟩), (.slice capturesa capturesl capturesc), (.bool fixed), (.slice enva envl envc), (.agg ⟨[(.slice c0a c0l c0c)]⟩)] g M R :=
  fn_soundG (c := cfg43) TTok FNSok mixed Try.func43 (show Try.f43.body = some c43 by kernel_rfl) (show Try.f43.ntmps = 92 by kernel_rfl) (show Try.f43.results.toList = [.cell 10 24, .cell 11 55] by kernel_rfl) rfl ((F43_eq fun0 fun1 fun2 fun3a fun3l fun3c capturesa capturesl capturesc fixed enva envl envc c0a c0l c0c g M R ).mpr hF)

/- 44 pilaster/pilasterref45.further -/
noncomputable def c44 : Code := match Try.f44.body with
  | some c => c
  | none => .skip
noncomputable def cfg44 : Cfg := ⟨Try.prog, TT, FNS, [2], [(2, 2), (8, 2), (12, 2)], [], TCH, false, false, none, PNF, false⟩
def an44 : AnnG := (.seq .leaf (.seq .leaf .leaf))
def F44 (x0 : Int) (x1 : Int) (x2 : ByteArray) (x3a : Option Addr) (x3l : Nat) (x3c : Nat) (part : Int) (g : G) (R : Value → G → Prop) : Prop :=
  ifB (ltI (0 : Int) part)
  (ifB (eqI x0 (11 : Int))
  (∀ g1 : G, Ex g g1 →
  R (.bool true) g1)
  (∀ g2 : G, Ex g g2 →
  R (.bool (eqI x0 (9 : Int))) g2))
  (∀ g3 : G, Ex g g3 →
  R (.bool false) g3)
theorem F44_eq (x0 : Int) (x1 : Int) (x2 : ByteArray) (x3a : Option Addr) (x3l : Nat) (x3c : Nat) (part : Int) (g : G) (R : Value → G → Prop) : fnG cfg44 17 [.tmp 4] c44 an44 [(.agg ⟨[(.int .i64 x0), (.int .i64 x1), (.string x2), (.slice x3a x3l x3c)]⟩), (.int .i64 part)] g nobody R = F44 x0 x1 x2 x3a x3l x3c part g R := by kernel_rfl
theorem call44 (x0 : Int) (x1 : Int) (x2 : ByteArray) (x3a : Option Addr) (x3l : Nat) (x3c : Nat) (part : Int) (g : G) (R : Value → G → Prop) (hF : F44 x0 x1 x2 x3a x3l x3c part g R) : CallsG Try.prog 44 #[(.agg ⟨[(.int .i64 x0), (.int .i64 x1), (.string x2), (.slice x3a x3l x3c)]⟩), (.int .i64 part)] g nobody R :=
  fn_soundG (c := cfg44) TTok FNSok mixed Try.func44 (show Try.f44.body = some c44 by kernel_rfl) (show Try.f44.ntmps = 17 by kernel_rfl) (show Try.f44.results.toList = [.tmp 4] by kernel_rfl) rfl ((F44_eq x0 x1 x2 x3a x3l x3c part g R ).mpr hF)

/- 45 pilaster/pilasterref45.place -/
noncomputable def c45 : Code := match Try.f45.body with
  | some c => c
  | none => .skip
noncomputable def cfg45 : Cfg := ⟨Try.prog, TT, FNS, [4], [(4, 4)], [], TCH, false, false, none, PNF, false⟩
def an45 : AnnG := (.seq .leaf (.seq .leaf .leaf))
def F45 (op : Int) (n : Int) (g : G) (R : Value → G → Prop) : Prop :=
  ∀ g1 : G, Ex g g1 →
  ∀ g2 : G, Ex g1 g2 →
  R (.agg ⟨[(.int .i64 op), (.int .i64 n), (.string (bs [])), (.slice none 0 0)]⟩) g2
theorem F45_eq (op : Int) (n : Int) (g : G) (R : Value → G → Prop) : fnG cfg45 8 [.cell 4 24] c45 an45 [(.int .i64 op), (.int .i64 n)] g nobody R = F45 op n g R := by kernel_rfl
theorem call45 (op : Int) (n : Int) (g : G) (R : Value → G → Prop) (hF : F45 op n g R) : CallsG Try.prog 45 #[(.int .i64 op), (.int .i64 n)] g nobody R :=
  fn_soundG (c := cfg45) TTok FNSok mixed Try.func45 (show Try.f45.body = some c45 by kernel_rfl) (show Try.f45.ntmps = 8 by kernel_rfl) (show Try.f45.results.toList = [.cell 4 24] by kernel_rfl) rfl ((F45_eq op n g R ).mpr hF)

/- 46 (*pilaster/closure.checker).flat -/
noncomputable def c46 : Code := match Try.f46.body with
  | some c => c
  | none => .skip
noncomputable def cfg46 : Cfg := ⟨Try.prog, TT, FNS, [4, 8], [(4, 4), (8, 8), (15, 4), (24, 4)], [], TCH, true, false, none, PNF, false⟩
def an46 : AnnG := (.seq .leaf (.seq (.seq .leaf (.cond (.seq .leaf .leaf) .leaf)) (.seq (.seq .leaf (.blk (.loop ⟨[(18, .int .i64)], [], []⟩ (.seq .leaf (.seq (.cond .leaf .leaf) (.seq (.blk (.seq .leaf (.seq .leaf (.seq (.seq .leaf (.cond .leaf .leaf)) (.seq .leaf (.cond (.seq .leaf .leaf) .leaf)))))) .leaf)))))) (.seq .leaf .leaf))))
def F46 (c : Option Addr) (x0 : Int) (x1 : Int) (x2 : ByteArray) (x3a : Option Addr) (x3l : Nat) (x3c : Nat) (locals : Int) (g : G) (M : Nat → Prop) (R : Value → G → Prop) : Prop :=
  ∀ g1 : G, Ex g g1 →
  ∃ M3 : Nat → Prop, (∀ b, b < g.w.heap.size → M3 b → M b) ∧ (CallsG Try.prog 54 #[(.pointer c), (.agg ⟨[(.int .i64 x0), (.int .i64 x1), (.string x2), (.slice x3a x3l x3c)]⟩), (.int .i64 locals)] g1 M3 fun v g2 =>
  ∃ x : Bool, v = (.bool x) ∧ ifB (!x)
  (∀ g3 : G, Ex g2 g3 →
  R (.bool false) g3)
  (∃ Inv : Nat → Int → G → Prop, ((∃ m0 : Nat, Inv m0 (0 : Int) g2)) ∧
  ∀ m : Nat, ∀ v_1 : Int, ∀ g4 : G, Le g2 g4 → Inv m v_1 g4 →
  ifB (ltI v_1 ((x3l : Nat) : Int))
  ((0 ≤ v_1 ∧ v_1 < ((x3l : Nat) : Int)) ∧ derefP x3a fun ad => ∃ x0_1 : Int, ∃ x1_1 : Int, ∃ x2_1 : ByteArray, ∃ x3a_1 : Option Addr, ∃ x3l_1 : Nat, ∃ x3c_1 : Nat, g4.w.cell? (Addr.add ad (Int.toNat v_1 * 4)) = some (.int .i64 x0_1) ∧ g4.w.cell? (Addr.add (Addr.add ad (Int.toNat v_1 * 4)) 1) = some (.int .i64 x1_1) ∧ g4.w.cell? (Addr.add (Addr.add ad (Int.toNat v_1 * 4)) 2) = some (.string x2_1) ∧ g4.w.cell? (Addr.add (Addr.add ad (Int.toNat v_1 * 4)) 3) = some (.slice x3a_1 x3l_1 x3c_1) ∧ ∀ g5 : G, Ex g4 g5 →
  (CallsP Try.prog 35 #[(.int .i64 x0), (.int .i64 v_1)] g5 fun v g6 =>
  ∃ x_1 : Bool, v = (.bool x_1) ∧ ifB x_1
  (InI64 (locals + (1 : Int)) ∧ ∃ M1 : Nat → Prop, (∀ b, b < g.w.heap.size → M1 b → M b) ∧ (CallsG Try.prog 46 #[(.pointer c), (.agg ⟨[(.int .i64 x0_1), (.int .i64 x1_1), (.string x2_1), (.slice x3a_1 x3l_1 x3c_1)]⟩), (.int .i64 (locals + (1 : Int)))] g6 M1 fun v g7 =>
  ∃ x_2 : Bool, v = (.bool x_2) ∧ ifB (!x_2)
  (∀ g8 : G, Ex g7 g8 →
  R (.bool false) g8)
  (InI64 (v_1 + (1 : Int)) ∧ (∃ m_1 : Nat, m_1 < m ∧ Inv m_1 (v_1 + (1 : Int)) g7))))
  (∃ M2 : Nat → Prop, (∀ b, b < g.w.heap.size → M2 b → M b) ∧ (CallsG Try.prog 46 #[(.pointer c), (.agg ⟨[(.int .i64 x0_1), (.int .i64 x1_1), (.string x2_1), (.slice x3a_1 x3l_1 x3c_1)]⟩), (.int .i64 locals)] g6 M2 fun v g9 =>
  ∃ x_3 : Bool, v = (.bool x_3) ∧ ifB (!x_3)
  (∀ g10 : G, Ex g9 g10 →
  R (.bool false) g10)
  (InI64 (v_1 + (1 : Int)) ∧ (∃ m_1 : Nat, m_1 < m ∧ Inv m_1 (v_1 + (1 : Int)) g9))))))
  (∀ g11 : G, Ex g4 g11 →
  R (.bool true) g11)))
theorem F46_eq (c : Option Addr) (x0 : Int) (x1 : Int) (x2 : ByteArray) (x3a : Option Addr) (x3l : Nat) (x3c : Nat) (locals : Int) (g : G) (M : Nat → Prop) (R : Value → G → Prop) : fnG cfg46 36 [.tmp 6] c46 an46 [(.pointer c), (.agg ⟨[(.int .i64 x0), (.int .i64 x1), (.string x2), (.slice x3a x3l x3c)]⟩), (.int .i64 locals)] g M R = F46 c x0 x1 x2 x3a x3l x3c locals g M R := by kernel_rfl
theorem call46 (c : Option Addr) (x0 : Int) (x1 : Int) (x2 : ByteArray) (x3a : Option Addr) (x3l : Nat) (x3c : Nat) (locals : Int) (g : G) (M : Nat → Prop) (R : Value → G → Prop) (hF : F46 c x0 x1 x2 x3a x3l x3c locals g M R) : CallsG Try.prog 46 #[(.pointer c), (.agg ⟨[(.int .i64 x0), (.int .i64 x1), (.string x2), (.slice x3a x3l x3c)]⟩), (.int .i64 locals)] g M R :=
  fn_soundG (c := cfg46) TTok FNSok mixed Try.func46 (show Try.f46.body = some c46 by kernel_rfl) (show Try.f46.ntmps = 36 by kernel_rfl) (show Try.f46.results.toList = [.tmp 6] by kernel_rfl) rfl ((F46_eq c x0 x1 x2 x3a x3l x3c locals g M R ).mpr hF)

/- 47 pilaster/lambda.measure -/
noncomputable def c47 : Code := match Try.f47.body with
  | some c => c
  | none => .skip
noncomputable def cfg47 : Cfg := ⟨Try.prog, TT, FNS, [3, 10], [(3, 3), (10, 10), (24, 3)], [], TCH, false, false, none, PNF, false⟩
def an47 : AnnG := (.seq .leaf (.join ⟨[], [], []⟩ (.seq .leaf (.cond (.seq .leaf .leaf) .leaf)) (.seq .leaf (.seq (.seq .leaf (.blk (.loop ⟨[(8, .int .i64), (27, .int .i64)], [], []⟩ (.seq .leaf (.seq (.cond .leaf .leaf) (.seq (.blk (.seq .leaf (.seq .leaf (.seq (.seq .leaf (.cond (.seq .leaf .leaf) .leaf)) .leaf)))) .leaf)))))) (.seq .leaf .leaf)))))
def F47 (x0 : Int) (x1 : Int) (x2 : ByteArray) (x3a : Option Addr) (x3l : Nat) (x3c : Nat) (left : Int) (depth : Int) (g : G) (R : Value → G → Prop) : Prop :=
  ∀ J : G → Prop,
  (∀ g1 : G, (∃ Inv : Nat → Int → Int → G → Prop, ((∃ m0 : Nat, Inv m0 (1 : Int) (0 : Int) g1)) ∧
  ∀ m : Nat, ∀ n : Int, ∀ v_1 : Int, ∀ g2 : G, Le g1 g2 → Inv m n v_1 g2 →
  ifB (ltI v_1 ((x3l : Nat) : Int))
  ((0 ≤ v_1 ∧ v_1 < ((x3l : Nat) : Int)) ∧ derefP x3a fun ad => ∃ x0_1 : Int, ∃ x1_1 : Int, ∃ x2_1 : ByteArray, ∃ x3a_1 : Option Addr, ∃ x3l_1 : Nat, ∃ x3c_1 : Nat, g2.w.cell? (Addr.add ad (Int.toNat v_1 * 4)) = some (.int .i64 x0_1) ∧ g2.w.cell? (Addr.add (Addr.add ad (Int.toNat v_1 * 4)) 1) = some (.int .i64 x1_1) ∧ g2.w.cell? (Addr.add (Addr.add ad (Int.toNat v_1 * 4)) 2) = some (.string x2_1) ∧ g2.w.cell? (Addr.add (Addr.add ad (Int.toNat v_1 * 4)) 3) = some (.slice x3a_1 x3l_1 x3c_1) ∧ InI64 (left - n) ∧ InI64 (depth + (1 : Int)) ∧ ∀ g3 : G, Ex g2 g3 →
  (CallsP Try.prog 47 #[(.agg ⟨[(.int .i64 x0_1), (.int .i64 x1_1), (.string x2_1), (.slice x3a_1 x3l_1 x3c_1)]⟩), (.int .i64 (left - n)), (.int .i64 (depth + (1 : Int)))] g3 fun v g4 =>
  ∃ x0_2 : Int, ∃ x1_2 : Bool, v = (.tuple ⟨[(.int .i64 x0_2), (.bool x1_2)]⟩) ∧ ifB (!x1_2)
  (∀ g5 : G, Ex g4 g5 →
  R (.tuple ⟨[(.int .i64 (0 : Int)), (.bool false)]⟩) g5)
  (InI64 (n + x0_2) ∧ InI64 (v_1 + (1 : Int)) ∧ (∃ m_1 : Nat, m_1 < m ∧ Inv m_1 (n + x0_2) (v_1 + (1 : Int)) g4))))
  (∀ g6 : G, Ex g2 g6 →
  R (.tuple ⟨[(.int .i64 n), (.bool true)]⟩) g6)) → J g1) →
  ifB (leI left (0 : Int))
  (∀ g7 : G, Ex g g7 →
  R (.tuple ⟨[(.int .i64 (0 : Int)), (.bool false)]⟩) g7)
  (ifB (ltI (400 : Int) depth)
  (∀ g8 : G, Ex g g8 →
  R (.tuple ⟨[(.int .i64 (0 : Int)), (.bool false)]⟩) g8)
  (∀ g9 : G, Ex g g9 →
  (CallsP Try.prog 55 #[(.agg ⟨[(.int .i64 x0), (.int .i64 x1), (.string x2), (.slice x3a x3l x3c)]⟩)] g9 fun v g10 =>
  ∃ x : Bool, v = (.bool x) ∧ ifB (!x)
  (∀ g11 : G, Ex g10 g11 →
  R (.tuple ⟨[(.int .i64 (0 : Int)), (.bool false)]⟩) g11)
  (J g10))))
theorem F47_eq (x0 : Int) (x1 : Int) (x2 : ByteArray) (x3a : Option Addr) (x3l : Nat) (x3c : Nat) (left : Int) (depth : Int) (g : G) (R : Value → G → Prop) : fnG cfg47 48 [.tmp 6, .tmp 7] c47 an47 [(.agg ⟨[(.int .i64 x0), (.int .i64 x1), (.string x2), (.slice x3a x3l x3c)]⟩), (.int .i64 left), (.int .i64 depth)] g nobody R = F47 x0 x1 x2 x3a x3l x3c left depth g R := by kernel_rfl
theorem call47 (x0 : Int) (x1 : Int) (x2 : ByteArray) (x3a : Option Addr) (x3l : Nat) (x3c : Nat) (left : Int) (depth : Int) (g : G) (R : Value → G → Prop) (hF : F47 x0 x1 x2 x3a x3l x3c left depth g R) : CallsG Try.prog 47 #[(.agg ⟨[(.int .i64 x0), (.int .i64 x1), (.string x2), (.slice x3a x3l x3c)]⟩), (.int .i64 left), (.int .i64 depth)] g nobody R :=
  fn_soundG (c := cfg47) TTok FNSok mixed Try.func47 (show Try.f47.body = some c47 by kernel_rfl) (show Try.f47.ntmps = 48 by kernel_rfl) (show Try.f47.results.toList = [.tmp 6, .tmp 7] by kernel_rfl) rfl ((F47_eq x0 x1 x2 x3a x3l x3c left depth g R ).mpr hF)

/- 48 pilaster/lambda.binds -/
noncomputable def c48 : Code := match Try.f48.body with
  | some c => c
  | none => .skip
noncomputable def cfg48 : Cfg := ⟨Try.prog, TT, FNS, [2], [(2, 2), (5, 2)], [], TCH, false, false, none, PNF, false⟩
def an48 : AnnG := (.seq .leaf (.seq (.seq .leaf (.blk (.join ⟨[(7, .bool)], [], []⟩ (.seq .leaf (.cond .leaf .leaf)) (.cond (.seq .leaf .leaf) (.seq (.seq .leaf (.cond .leaf .leaf)) (.cond (.seq .leaf .leaf) .leaf)))))) (.seq .leaf .leaf)))
def F48 (x0 : Int) (x1 : Int) (x2 : ByteArray) (x3a : Option Addr) (x3l : Nat) (x3c : Nat) (part : Int) (g : G) (R : Value → G → Prop) : Prop :=
  ∀ J : Bool → G → Prop,
  (∀ v_1 : Bool, ∀ g1 : G, (ifB v_1
  (∀ g2 : G, Ex g1 g2 →
  R (.bool true) g2)
  (ifB (eqI x0 (11 : Int))
  (∀ g3 : G, Ex g1 g3 →
  R (.bool (ltI (0 : Int) part)) g3)
  (ifB (eqI x0 (9 : Int))
  (∀ g4 : G, Ex g1 g4 →
  R (.bool (ltI (0 : Int) part)) g4)
  (∀ g5 : G, Ex g1 g5 →
  R (.bool false) g5)))) → J v_1 g1) →
  ifB (eqI x0 (4 : Int))
  (∀ g6 : G, Ex g g6 →
  J true g6)
  (∀ g7 : G, Ex g g7 →
  J (eqI x0 (10 : Int)) g7)
theorem F48_eq (x0 : Int) (x1 : Int) (x2 : ByteArray) (x3a : Option Addr) (x3l : Nat) (x3c : Nat) (part : Int) (g : G) (R : Value → G → Prop) : fnG cfg48 15 [.tmp 4] c48 an48 [(.agg ⟨[(.int .i64 x0), (.int .i64 x1), (.string x2), (.slice x3a x3l x3c)]⟩), (.int .i64 part)] g nobody R = F48 x0 x1 x2 x3a x3l x3c part g R := by kernel_rfl
theorem call48 (x0 : Int) (x1 : Int) (x2 : ByteArray) (x3a : Option Addr) (x3l : Nat) (x3c : Nat) (part : Int) (g : G) (R : Value → G → Prop) (hF : F48 x0 x1 x2 x3a x3l x3c part g R) : CallsG Try.prog 48 #[(.agg ⟨[(.int .i64 x0), (.int .i64 x1), (.string x2), (.slice x3a x3l x3c)]⟩), (.int .i64 part)] g nobody R :=
  fn_soundG (c := cfg48) TTok FNSok mixed Try.func48 (show Try.f48.body = some c48 by kernel_rfl) (show Try.f48.ntmps = 15 by kernel_rfl) (show Try.f48.results.toList = [.tmp 4] by kernel_rfl) rfl ((F48_eq x0 x1 x2 x3a x3l x3c part g R ).mpr hF)

/- 51 pilaster/closure.node -/
noncomputable def c51 : Code := match Try.f51.body with
  | some c => c
  | none => .skip
noncomputable def cfg51 : Cfg := ⟨Try.prog, TT, FNS, [6], [(6, 6)], [], TCH, false, false, none, PNF, false⟩
def an51 : AnnG := (.seq .leaf (.seq .leaf .leaf))
def F51 (op : Int) (n : Int) (la : Option Addr) (ll : Nat) (lc : Nat) (g : G) (R : Value → G → Prop) : Prop :=
  ∀ g1 : G, Ex g g1 →
  ∀ g2 : G, Ex g1 g2 →
  R (.agg ⟨[(.int .i64 op), (.int .i64 n), (.string (bs [])), (.slice la ll lc)]⟩) g2
theorem F51_eq (op : Int) (n : Int) (la : Option Addr) (ll : Nat) (lc : Nat) (g : G) (R : Value → G → Prop) : fnG cfg51 11 [.cell 6 24] c51 an51 [(.int .i64 op), (.int .i64 n), (.slice la ll lc)] g nobody R = F51 op n la ll lc g R := by kernel_rfl
theorem call51 (op : Int) (n : Int) (la : Option Addr) (ll : Nat) (lc : Nat) (g : G) (R : Value → G → Prop) (hF : F51 op n la ll lc g R) : CallsG Try.prog 51 #[(.int .i64 op), (.int .i64 n), (.slice la ll lc)] g nobody R :=
  fn_soundG (c := cfg51) TTok FNSok mixed Try.func51 (show Try.f51.body = some c51 by kernel_rfl) (show Try.f51.ntmps = 11 by kernel_rfl) (show Try.f51.results.toList = [.cell 6 24] by kernel_rfl) rfl ((F51_eq op n la ll lc g R ).mpr hF)

/- 52 slices.Clip[[]pilaster/api.Exp,pilaster/api.Exp] -/
noncomputable def c52 : Code := match Try.f52.body with
  | some c => c
  | none => .skip
noncomputable def cfg52 : Cfg := ⟨Try.prog, TT, FNS, [], [], [], TCH, false, false, none, PNF, false⟩
def an52 : AnnG := (.seq .leaf (.seq .leaf .leaf))
def F52 (sa : Option Addr) (sl : Nat) (sc : Nat) (g : G) (R : Value → G → Prop) : Prop :=
  (0 ≤ ((sl : Nat) : Int) ∧ ((sl : Nat) : Int) ≤ ((sc : Nat) : Int)) ∧ (0 ≤ ((sl : Nat) : Int) ∧ ((sl : Nat) : Int) ≤ (((Int.toNat ((sl : Nat) : Int)) : Nat) : Int)) ∧ ∀ g1 : G, Ex g g1 →
  R (.slice (slAddr sa (Int.toNat ((sl : Nat) : Int)) 0 4) ((Int.toNat ((sl : Nat) : Int)) - 0) ((Int.toNat ((sl : Nat) : Int)) - 0)) g1
theorem F52_eq (sa : Option Addr) (sl : Nat) (sc : Nat) (g : G) (R : Value → G → Prop) : fnG cfg52 9 [.tmp 2] c52 an52 [(.slice sa sl sc)] g nobody R = F52 sa sl sc g R := by kernel_rfl
theorem call52 (sa : Option Addr) (sl : Nat) (sc : Nat) (g : G) (R : Value → G → Prop) (hF : F52 sa sl sc g R) : CallsG Try.prog 52 #[(.slice sa sl sc)] g nobody R :=
  fn_soundG (c := cfg52) TTok FNSok mixed Try.func52 (show Try.f52.body = some c52 by kernel_rfl) (show Try.f52.ntmps = 9 by kernel_rfl) (show Try.f52.results.toList = [.tmp 2] by kernel_rfl) rfl ((F52_eq sa sl sc g R ).mpr hF)

/- 53 pilaster/pilasterref44.Arity -/
noncomputable def c53 : Code := match Try.f53.body with
  | some c => c
  | none => .skip
noncomputable def cfg53 : Cfg := ⟨Try.prog, TT, FNS, [], [], [], TCH, false, false, none, PNF, false⟩
def an53 : AnnG := (.seq .leaf (.seq (.seq .leaf (.blk (.join ⟨[(4, .bool)], [], []⟩ (.seq .leaf (.cond .leaf (.seq .leaf (.cond .leaf (.seq .leaf (.cond .leaf .leaf)))))) (.cond (.seq .leaf .leaf) (.join ⟨[(9, .bool)], [], []⟩ (.seq .leaf (.cond .leaf (.seq .leaf (.cond .leaf (.seq .leaf (.cond .leaf (.seq .leaf (.cond .leaf (.seq .leaf (.cond .leaf (.seq .leaf (.cond .leaf (.seq .leaf (.cond .leaf (.seq .leaf (.cond .leaf (.seq .leaf (.cond .leaf .leaf)))))))))))))))))) (.cond (.seq .leaf .leaf) .leaf)))))) (.seq .leaf .leaf)))
def F53 (n : Int) (g : G) (R : Value → G → Prop) : Prop :=
  ∀ J : Bool → G → Prop,
  (∀ v_1 : Bool, ∀ g1 : G, (ifB v_1
  (∀ g2 : G, Ex g1 g2 →
  R (.int .i64 (1 : Int)) g2)
  (∀ J_1 : Bool → G → Prop,
  (∀ v_2 : Bool, ∀ g3 : G, (ifB v_2
  (∀ g4 : G, Ex g3 g4 →
  R (.int .i64 (2 : Int)) g4)
  (∀ g5 : G, Ex g3 g5 →
  R (.int .i64 (0 : Int)) g5)) → J_1 v_2 g3) →
  ifB (eqI n (1 : Int))
  (J_1 true g1)
  (ifB (eqI n (2 : Int))
  (J_1 true g1)
  (ifB (eqI n (3 : Int))
  (J_1 true g1)
  (ifB (eqI n (4 : Int))
  (J_1 true g1)
  (ifB (eqI n (5 : Int))
  (J_1 true g1)
  (ifB (eqI n (7 : Int))
  (J_1 true g1)
  (ifB (eqI n (8 : Int))
  (J_1 true g1)
  (ifB (eqI n (9 : Int))
  (J_1 true g1)
  (ifB (eqI n (10 : Int))
  (J_1 true g1)
  (J_1 (eqI n (12 : Int)) g1))))))))))) → J v_1 g1) →
  ifB (eqI n (6 : Int))
  (J true g)
  (ifB (eqI n (11 : Int))
  (J true g)
  (ifB (eqI n (13 : Int))
  (J true g)
  (J (eqI n (14 : Int)) g)))
theorem F53_eq (n : Int) (g : G) (R : Value → G → Prop) : fnG cfg53 20 [.tmp 2] c53 an53 [(.int .i64 n)] g nobody R = F53 n g R := by kernel_rfl
theorem call53 (n : Int) (g : G) (R : Value → G → Prop) (hF : F53 n g R) : CallsG Try.prog 53 #[(.int .i64 n)] g nobody R :=
  fn_soundG (c := cfg53) TTok FNSok mixed Try.func53 (show Try.f53.body = some c53 by kernel_rfl) (show Try.f53.ntmps = 20 by kernel_rfl) (show Try.f53.results.toList = [.tmp 2] by kernel_rfl) rfl ((F53_eq n g R ).mpr hF)

/- 54 (*pilaster/closure.checker).form -/
noncomputable def c54 : Code := match Try.f54.body with
  | some c => c
  | none => .skip
noncomputable def cfg54 : Cfg := ⟨Try.prog, TT, FNS, [4], [(4, 4), (8, 4), (12, 4), (16, 4), (19, 4), (26, 4), (35, 4), (40, 4), (47, 4), (60, 4), (66, 4), (76, 4), (85, 4), (91, 4), (101, 4), (110, 4), (121, 4), (130, 4), (148, 4)], [], TCH, true, false, none, PNF, false⟩
def an54 : AnnG := (.seq .leaf (.join ⟨[], [], []⟩ (.seq .leaf (.cond (.seq .leaf .leaf) .leaf)) (.seq .leaf (.seq (.seq .leaf (.blk (.seq .leaf (.cond (.seq .leaf .leaf) (.seq .leaf (.cond (.seq .leaf .leaf) (.seq .leaf (.cond (.seq .leaf .leaf) (.join ⟨[(54, .bool)], [], []⟩ (.seq .leaf (.cond .leaf .leaf)) (.cond (.seq .leaf .leaf) (.seq .leaf (.cond (.seq .leaf .leaf) (.join ⟨[(73, .bool)], [], []⟩ (.seq .leaf (.cond .leaf .leaf)) (.cond (.seq .leaf .leaf) (.seq .leaf (.cond (.seq .leaf .leaf) (.seq .leaf (.cond (.seq .leaf .leaf) (.seq .leaf (.cond (.seq .leaf .leaf) (.seq .leaf (.cond (.seq .leaf .leaf) (.seq .leaf (.cond (.seq (.tree 10 (.quiet 0 (.quiet 1 (.quiet 2 (.quiet 3 (.quiet 4 (.quiet 5 (.quiet 6 (.quiet 7 (.quiet 8 (.quiet 9 .fin))))))))))) .leaf) (.seq .leaf (.cond (.seq (.tree 10 (.quiet 0 (.quiet 1 (.quiet 2 (.quiet 3 (.quiet 4 (.quiet 5 (.quiet 6 (.quiet 7 (.quiet 8 (.quiet 9 .fin))))))))))) .leaf) .leaf)))))))))))))))))))))))))) (.seq .leaf .leaf)))))
def F54 (c : Option Addr) (x0 : Int) (x1 : Int) (x2 : ByteArray) (x3a : Option Addr) (x3l : Nat) (x3c : Nat) (locals : Int) (g : G) (M : Nat → Prop) (R : Value → G → Prop) : Prop :=
  ∀ J : G → Prop,
  (∀ g1 : G, (ifB (eqI x0 (2 : Int))
  (ifB (eqI ((x3l : Nat) : Int) (0 : Int))
  ((CallsP Try.prog 28 #[(.int .i64 x1), (.int .i64 (-4503599627370496 : Int)), (.int .i64 (4503599627370496 : Int))] g1 fun v g2 =>
  ∃ x : Bool, v = (.bool x) ∧ ∀ g3 : G, Ex g2 g3 →
  R (.bool x) g3))
  (∀ g4 : G, Ex g1 g4 →
  R (.bool false) g4))
  (ifB (eqI x0 (3 : Int))
  (ifB (eqI ((x3l : Nat) : Int) (0 : Int))
  (ifB (eqI x1 (0 : Int))
  (∀ g5 : G, Ex g1 g5 →
  R (.bool (leI ((x2.size : Nat) : Int) (16384 : Int))) g5)
  (∀ g6 : G, Ex g1 g6 →
  R (.bool false) g6))
  (∀ g7 : G, Ex g1 g7 →
  R (.bool false) g7))
  (ifB (eqI x0 (6 : Int))
  (ifB (eqI x1 (0 : Int))
  (∀ g8 : G, Ex g1 g8 →
  R (.bool (leI ((x3l : Nat) : Int) (1000 : Int))) g8)
  (∀ g9 : G, Ex g1 g9 →
  R (.bool false) g9))
  (∀ J_1 : Bool → G → Prop,
  (∀ v_1 : Bool, ∀ g10 : G, (ifB v_1
  (ifB (eqI ((x3l : Nat) : Int) (1 : Int))
  ((CallsP Try.prog 28 #[(.int .i64 x1), (.int .i64 (0 : Int)), (.int .i64 (999 : Int))] g10 fun v g11 =>
  ∃ x_1 : Bool, v = (.bool x_1) ∧ ∀ g12 : G, Ex g11 g12 →
  R (.bool x_1) g12))
  (∀ g13 : G, Ex g10 g13 →
  R (.bool false) g13))
  (ifB (eqI x0 (9 : Int))
  (ifB (eqI x1 (0 : Int))
  ((CallsP Try.prog 28 #[(.int .i64 ((x3l : Nat) : Int)), (.int .i64 (2 : Int)), (.int .i64 (1001 : Int))] g10 fun v g14 =>
  ∃ x_2 : Bool, v = (.bool x_2) ∧ ∀ g15 : G, Ex g14 g15 →
  R (.bool x_2) g15))
  (∀ g16 : G, Ex g10 g16 →
  R (.bool false) g16))
  (∀ J_2 : Bool → G → Prop,
  (∀ v_2 : Bool, ∀ g17 : G, (ifB v_2
  (ifB (eqI x1 (0 : Int))
  (∀ g18 : G, Ex g17 g18 →
  R (.bool (eqI ((x3l : Nat) : Int) (2 : Int))) g18)
  (∀ g19 : G, Ex g17 g19 →
  R (.bool false) g19))
  (ifB (eqI x0 (12 : Int))
  ((CallsP Try.prog 67 #[(.int .i64 x1)] g17 fun v g20 =>
  ∃ x_3 : Int, v = (.int .i64 x_3) ∧ ifB (ltI (0 : Int) x_3)
  ((CallsP Try.prog 67 #[(.int .i64 x1)] g20 fun v g21 =>
  ∃ x_4 : Int, v = (.int .i64 x_4) ∧ ∀ g22 : G, Ex g21 g22 →
  R (.bool (eqI ((x3l : Nat) : Int) x_4)) g22))
  (∀ g23 : G, Ex g20 g23 →
  R (.bool false) g23)))
  (ifB (eqI x0 (13 : Int))
  (ifB (eqI ((x3l : Nat) : Int) (0 : Int))
  ((CallsP Try.prog 28 #[(.int .i64 x1), (.int .i64 (1 : Int)), (.int .i64 (1000000 : Int))] g17 fun v g24 =>
  ∃ x_5 : Bool, v = (.bool x_5) ∧ ∀ g25 : G, Ex g24 g25 →
  R (.bool x_5) g25))
  (∀ g26 : G, Ex g17 g26 →
  R (.bool false) g26))
  (ifB (eqI x0 (21 : Int))
  (ifB (eqI ((x3l : Nat) : Int) (0 : Int))
  (InI64 (locals - (1 : Int)) ∧ (CallsP Try.prog 28 #[(.int .i64 x1), (.int .i64 (0 : Int)), (.int .i64 (locals - (1 : Int)))] g17 fun v g27 =>
  ∃ x_6 : Bool, v = (.bool x_6) ∧ ∀ g28 : G, Ex g27 g28 →
  R (.bool x_6) g28))
  (∀ g29 : G, Ex g17 g29 →
  R (.bool false) g29))
  (ifB (eqI x0 (22 : Int))
  (ifB (eqI ((x3l : Nat) : Int) (0 : Int))
  (∀ g30 : G, Ex g17 g30 →
  R (.bool (eqI x1 (0 : Int))) g30)
  (∀ g31 : G, Ex g17 g31 →
  R (.bool false) g31))
  (ifB (eqI x0 (23 : Int))
  (∀ g32 : G, Ex g17 g32 →
  ifB (eqI ((x3l : Nat) : Int) (0 : Int))
  (derefP c fun ad => ∃ x_7 : Int, g32.w.cell? ad = some (.int .i64 x_7) ∧ InI64 (x_7 - (1 : Int)) ∧ (CallsP Try.prog 28 #[(.int .i64 x1), (.int .i64 (0 : Int)), (.int .i64 (x_7 - (1 : Int)))] g32 fun v g33 =>
  ∃ x_8 : Bool, v = (.bool x_8) ∧ ∀ g34 : G, Ex g33 g34 →
  R (.bool x_8) g34))
  (∀ g35 : G, Ex g32 g35 →
  R (.bool false) g35))
  (ifB (eqI x0 (24 : Int))
  (∀ g36 : G, Ex g17 g36 →
  ifB (leI ((x3l : Nat) : Int) (1000 : Int))
  (derefP c fun ad_1 => ∃ xf : FuncId, ∃ xc : Array Value, g36.w.cell? (Addr.add ad_1 1) = some (.func (.func xf) #[] xc) ∧ Enters Try.prog xf ∧ ∃ M1 : Nat → Prop, (∀ b, b < g.w.heap.size → M1 b → M b) ∧ (CallsG Try.prog xf ((⟨[(.int .i64 x1), (.int .i64 ((x3l : Nat) : Int))]⟩ : Array Value) ++ xc) g36 M1 fun v g37 =>
  ∃ x_9 : Bool, v = (.bool x_9) ∧ ∀ g38 : G, Ex g37 g38 →
  R (.bool x_9) g38))
  (∀ g39 : G, Ex g36 g39 →
  R (.bool false) g39))
  (∀ g40 : G, Ex g17 g40 →
  R (.bool false) g40)))))))) → J_2 v_2 g17) →
  ifB (eqI x0 (11 : Int))
  (J_2 true g10)
  (J_2 (eqI x0 (25 : Int)) g10)))) → J_1 v_1 g10) →
  ifB (eqI x0 (7 : Int))
  (J_1 true g1)
  (J_1 (eqI x0 (8 : Int)) g1))))) → J g1) →
  ifB (!eqI x0 (3 : Int))
  (ifB (!strEq x2 (bs []))
  (∀ g41 : G, Ex g g41 →
  R (.bool false) g41)
  (∀ g42 : G, Ex g g42 →
  J g42))
  (∀ g43 : G, Ex g g43 →
  J g43)
theorem F54_eq (c : Option Addr) (x0 : Int) (x1 : Int) (x2 : ByteArray) (x3a : Option Addr) (x3l : Nat) (x3c : Nat) (locals : Int) (g : G) (M : Nat → Prop) (R : Value → G → Prop) : fnG cfg54 153 [.tmp 6] c54 an54 [(.pointer c), (.agg ⟨[(.int .i64 x0), (.int .i64 x1), (.string x2), (.slice x3a x3l x3c)]⟩), (.int .i64 locals)] g M R = F54 c x0 x1 x2 x3a x3l x3c locals g M R := by kernel_rfl
theorem call54 (c : Option Addr) (x0 : Int) (x1 : Int) (x2 : ByteArray) (x3a : Option Addr) (x3l : Nat) (x3c : Nat) (locals : Int) (g : G) (M : Nat → Prop) (R : Value → G → Prop) (hF : F54 c x0 x1 x2 x3a x3l x3c locals g M R) : CallsG Try.prog 54 #[(.pointer c), (.agg ⟨[(.int .i64 x0), (.int .i64 x1), (.string x2), (.slice x3a x3l x3c)]⟩), (.int .i64 locals)] g M R :=
  fn_soundG (c := cfg54) TTok FNSok mixed Try.func54 (show Try.f54.body = some c54 by kernel_rfl) (show Try.f54.ntmps = 153 by kernel_rfl) (show Try.f54.results.toList = [.tmp 6] by kernel_rfl) rfl ((F54_eq c x0 x1 x2 x3a x3l x3c locals g M R ).mpr hF)

/- 55 pilaster/lambda.node -/
noncomputable def c55 : Code := match Try.f55.body with
  | some c => c
  | none => .skip
noncomputable def cfg55 : Cfg := ⟨Try.prog, TT, FNS, [1], [(1, 1), (4, 1), (7, 1), (11, 1), (15, 1), (22, 1), (31, 1), (40, 1), (45, 1), (55, 1), (65, 1), (74, 1), (84, 1), (93, 1), (102, 1), (107, 1), (116, 1), (121, 1), (131, 1)], [], TCH, false, false, none, PNF, false⟩
def an55 : AnnG := (.seq .leaf (.seq .leaf (.join ⟨[], [], []⟩ (.seq .leaf (.cond (.seq .leaf .leaf) .leaf)) (.seq (.seq .leaf (.blk (.seq .leaf (.cond (.seq .leaf .leaf) (.seq .leaf (.cond (.seq .leaf .leaf) (.seq .leaf (.cond (.seq .leaf .leaf) (.seq .leaf (.cond (.seq .leaf .leaf) (.join ⟨[(59, .bool)], [], []⟩ (.seq .leaf (.cond .leaf .leaf)) (.cond (.seq .leaf .leaf) (.seq .leaf (.cond (.seq .leaf .leaf) (.join ⟨[(78, .bool)], [], []⟩ (.seq .leaf (.cond .leaf .leaf)) (.cond (.seq .leaf .leaf) (.seq .leaf (.cond (.seq .leaf .leaf) (.seq .leaf (.cond (.seq .leaf .leaf) (.seq .leaf (.cond (.seq .leaf .leaf) (.seq .leaf (.cond (.seq .leaf .leaf) .leaf)))))))))))))))))))))))) (.seq .leaf .leaf)))))
def F55 (x0 : Int) (x1 : Int) (x2 : ByteArray) (x3a : Option Addr) (x3l : Nat) (x3c : Nat) (g : G) (R : Value → G → Prop) : Prop :=
  ∀ J : G → Prop,
  (∀ g1 : G, (ifB (eqI x0 (1 : Int))
  (ifB (eqI ((x3l : Nat) : Int) (0 : Int))
  (∀ g2 : G, Ex g1 g2 →
  R (.bool (leI (0 : Int) x1)) g2)
  (∀ g3 : G, Ex g1 g3 →
  R (.bool false) g3))
  (ifB (eqI x0 (2 : Int))
  (ifB (eqI ((x3l : Nat) : Int) (0 : Int))
  ((CallsP Try.prog 68 #[(.int .i64 x1), (.int .i64 (-4503599627370496 : Int)), (.int .i64 (4503599627370496 : Int))] g1 fun v g4 =>
  ∃ x : Bool, v = (.bool x) ∧ ∀ g5 : G, Ex g4 g5 →
  R (.bool x) g5))
  (∀ g6 : G, Ex g1 g6 →
  R (.bool false) g6))
  (ifB (eqI x0 (3 : Int))
  (ifB (eqI ((x3l : Nat) : Int) (0 : Int))
  (ifB (eqI x1 (0 : Int))
  (∀ g7 : G, Ex g1 g7 →
  R (.bool (leI ((x2.size : Nat) : Int) (16384 : Int))) g7)
  (∀ g8 : G, Ex g1 g8 →
  R (.bool false) g8))
  (∀ g9 : G, Ex g1 g9 →
  R (.bool false) g9))
  (ifB (eqI x0 (4 : Int))
  (ifB (eqI ((x3l : Nat) : Int) (1 : Int))
  (∀ g10 : G, Ex g1 g10 →
  R (.bool (eqI x1 (0 : Int))) g10)
  (∀ g11 : G, Ex g1 g11 →
  R (.bool false) g11))
  (∀ J_1 : Bool → G → Prop,
  (∀ v_1 : Bool, ∀ g12 : G, (ifB v_1
  (ifB (eqI ((x3l : Nat) : Int) (2 : Int))
  (∀ g13 : G, Ex g12 g13 →
  R (.bool (eqI x1 (0 : Int))) g13)
  (∀ g14 : G, Ex g12 g14 →
  R (.bool false) g14))
  (ifB (eqI x0 (6 : Int))
  (ifB (leI ((x3l : Nat) : Int) (1000 : Int))
  (∀ g15 : G, Ex g12 g15 →
  R (.bool (eqI x1 (0 : Int))) g15)
  (∀ g16 : G, Ex g12 g16 →
  R (.bool false) g16))
  (∀ J_2 : Bool → G → Prop,
  (∀ v_2 : Bool, ∀ g17 : G, (ifB v_2
  (ifB (eqI ((x3l : Nat) : Int) (1 : Int))
  ((CallsP Try.prog 68 #[(.int .i64 x1), (.int .i64 (0 : Int)), (.int .i64 (999 : Int))] g17 fun v g18 =>
  ∃ x_1 : Bool, v = (.bool x_1) ∧ ∀ g19 : G, Ex g18 g19 →
  R (.bool x_1) g19))
  (∀ g20 : G, Ex g17 g20 →
  R (.bool false) g20))
  (ifB (eqI x0 (9 : Int))
  ((CallsP Try.prog 68 #[(.int .i64 ((x3l : Nat) : Int)), (.int .i64 (2 : Int)), (.int .i64 (1001 : Int))] g17 fun v g21 =>
  ∃ x_2 : Bool, v = (.bool x_2) ∧ ifB x_2
  (∀ g22 : G, Ex g21 g22 →
  R (.bool (eqI x1 (0 : Int))) g22)
  (∀ g23 : G, Ex g21 g23 →
  R (.bool false) g23)))
  (ifB (eqI x0 (10 : Int))
  (ifB (eqI ((x3l : Nat) : Int) (1 : Int))
  (ifB (eqI x1 (0 : Int))
  ((0 ≤ (0 : Int) ∧ (0 : Int) < ((x3l : Nat) : Int)) ∧ derefP x3a fun ad => ∃ x_3 : Int, g17.w.cell? (Addr.add ad (Int.toNat (0 : Int) * 4)) = some (.int .i64 x_3) ∧ ∀ g24 : G, Ex g17 g24 →
  R (.bool (eqI x_3 (4 : Int))) g24)
  (∀ g25 : G, Ex g17 g25 →
  R (.bool false) g25))
  (∀ g26 : G, Ex g17 g26 →
  R (.bool false) g26))
  (ifB (eqI x0 (12 : Int))
  ((CallsP Try.prog 68 #[(.int .i64 x1), (.int .i64 (1 : Int)), (.int .i64 (14 : Int))] g17 fun v g27 =>
  ∃ x_4 : Bool, v = (.bool x_4) ∧ ifB x_4
  ((CallsP Try.prog 69 #[(.int .i64 x1)] g27 fun v g28 =>
  ∃ x_5 : Int, v = (.int .i64 x_5) ∧ ∀ g29 : G, Ex g28 g29 →
  R (.bool (eqI ((x3l : Nat) : Int) x_5)) g29))
  (∀ g30 : G, Ex g27 g30 →
  R (.bool false) g30)))
  (ifB (eqI x0 (13 : Int))
  (ifB (eqI ((x3l : Nat) : Int) (0 : Int))
  ((CallsP Try.prog 68 #[(.int .i64 x1), (.int .i64 (1 : Int)), (.int .i64 (1000000 : Int))] g17 fun v g31 =>
  ∃ x_6 : Bool, v = (.bool x_6) ∧ ∀ g32 : G, Ex g31 g32 →
  R (.bool x_6) g32))
  (∀ g33 : G, Ex g17 g33 →
  R (.bool false) g33))
  (∀ g34 : G, Ex g17 g34 →
  R (.bool false) g34)))))) → J_2 v_2 g17) →
  ifB (eqI x0 (7 : Int))
  (J_2 true g12)
  (J_2 (eqI x0 (8 : Int)) g12)))) → J_1 v_1 g12) →
  ifB (eqI x0 (5 : Int))
  (J_1 true g1)
  (J_1 (eqI x0 (11 : Int)) g1)))))) → J g1) →
  ifB (!eqI x0 (3 : Int))
  (ifB (!strEq x2 (bs []))
  (∀ g35 : G, Ex g g35 →
  R (.bool false) g35)
  (∀ g36 : G, Ex g g36 →
  J g36))
  (∀ g37 : G, Ex g g37 →
  J g37)
theorem F55_eq (x0 : Int) (x1 : Int) (x2 : ByteArray) (x3a : Option Addr) (x3l : Nat) (x3c : Nat) (g : G) (R : Value → G → Prop) : fnG cfg55 135 [.tmp 2] c55 an55 [(.agg ⟨[(.int .i64 x0), (.int .i64 x1), (.string x2), (.slice x3a x3l x3c)]⟩)] g nobody R = F55 x0 x1 x2 x3a x3l x3c g R := by kernel_rfl
theorem call55 (x0 : Int) (x1 : Int) (x2 : ByteArray) (x3a : Option Addr) (x3l : Nat) (x3c : Nat) (g : G) (R : Value → G → Prop) (hF : F55 x0 x1 x2 x3a x3l x3c g R) : CallsG Try.prog 55 #[(.agg ⟨[(.int .i64 x0), (.int .i64 x1), (.string x2), (.slice x3a x3l x3c)]⟩)] g nobody R :=
  fn_soundG (c := cfg55) TTok FNSok mixed Try.func55 (show Try.f55.body = some c55 by kernel_rfl) (show Try.f55.ntmps = 135 by kernel_rfl) (show Try.f55.results.toList = [.tmp 2] by kernel_rfl) rfl ((F55_eq x0 x1 x2 x3a x3l x3c g R ).mpr hF)

/- 67 pilaster/closure.arity -/
noncomputable def c67 : Code := match Try.f67.body with
  | some c => c
  | none => .skip
noncomputable def cfg67 : Cfg := ⟨Try.prog, TT, FNS, [], [], [], TCH, false, false, none, PNF, false⟩
def an67 : AnnG := (.seq .leaf (.join ⟨[], [], []⟩ (.seq .leaf (.blk (.seq (.seq .leaf (.cond .leaf (.seq .leaf (.cond .leaf (.seq .leaf (.cond .leaf .leaf)))))) (.cond (.seq .leaf .leaf) .leaf)))) (.seq (.seq .leaf (.cond (.seq .leaf .leaf) .leaf)) (.seq .leaf .leaf))))
def F67 (n : Int) (g : G) (R : Value → G → Prop) : Prop :=
  ∀ J : G → Prop,
  (∀ g1 : G, (ifB (ltI n (1 : Int))
  (∀ g2 : G, Ex g1 g2 →
  R (.int .i64 (0 : Int)) g2)
  (ifB (ltI (14 : Int) n)
  (∀ g3 : G, Ex g1 g3 →
  R (.int .i64 (0 : Int)) g3)
  (∀ g4 : G, Ex g1 g4 →
  R (.int .i64 (2 : Int)) g4))) → J g1) →
  ifB (eqI n (6 : Int))
  (∀ g5 : G, Ex g g5 →
  R (.int .i64 (1 : Int)) g5)
  (ifB (eqI n (11 : Int))
  (∀ g6 : G, Ex g g6 →
  R (.int .i64 (1 : Int)) g6)
  (ifB (eqI n (13 : Int))
  (∀ g7 : G, Ex g g7 →
  R (.int .i64 (1 : Int)) g7)
  (ifB (eqI n (14 : Int))
  (∀ g8 : G, Ex g g8 →
  R (.int .i64 (1 : Int)) g8)
  (J g))))
theorem F67_eq (n : Int) (g : G) (R : Value → G → Prop) : fnG cfg67 15 [.tmp 2] c67 an67 [(.int .i64 n)] g nobody R = F67 n g R := by kernel_rfl
theorem call67 (n : Int) (g : G) (R : Value → G → Prop) (hF : F67 n g R) : CallsG Try.prog 67 #[(.int .i64 n)] g nobody R :=
  fn_soundG (c := cfg67) TTok FNSok mixed Try.func67 (show Try.f67.body = some c67 by kernel_rfl) (show Try.f67.ntmps = 15 by kernel_rfl) (show Try.f67.results.toList = [.tmp 2] by kernel_rfl) rfl ((F67_eq n g R ).mpr hF)

/- 68 pilaster/lambda.in -/
noncomputable def c68 : Code := match Try.f68.body with
  | some c => c
  | none => .skip
noncomputable def cfg68 : Cfg := ⟨Try.prog, TT, FNS, [], [], [], TCH, false, false, none, PNF, false⟩
def an68 : AnnG := (.seq .leaf (.seq .leaf .leaf))
def F68 (n : Int) (low : Int) (high : Int) (g : G) (R : Value → G → Prop) : Prop :=
  ifB (leI low n)
  (∀ g1 : G, Ex g g1 →
  R (.bool (leI n high)) g1)
  (∀ g2 : G, Ex g g2 →
  R (.bool false) g2)
theorem F68_eq (n : Int) (low : Int) (high : Int) (g : G) (R : Value → G → Prop) : fnG cfg68 15 [.tmp 6] c68 an68 [(.int .i64 n), (.int .i64 low), (.int .i64 high)] g nobody R = F68 n low high g R := by kernel_rfl
theorem call68 (n : Int) (low : Int) (high : Int) (g : G) (R : Value → G → Prop) (hF : F68 n low high g R) : CallsG Try.prog 68 #[(.int .i64 n), (.int .i64 low), (.int .i64 high)] g nobody R :=
  fn_soundG (c := cfg68) TTok FNSok mixed Try.func68 (show Try.f68.body = some c68 by kernel_rfl) (show Try.f68.ntmps = 15 by kernel_rfl) (show Try.f68.results.toList = [.tmp 6] by kernel_rfl) rfl ((F68_eq n low high g R ).mpr hF)

/- 69 pilaster/lambda.arity -/
noncomputable def c69 : Code := match Try.f69.body with
  | some c => c
  | none => .skip
noncomputable def cfg69 : Cfg := ⟨Try.prog, TT, FNS, [], [], [], TCH, false, false, none, PNF, false⟩
def an69 : AnnG := (.seq .leaf (.seq (.seq .leaf (.blk (.seq (.seq .leaf (.cond .leaf (.seq .leaf (.cond .leaf (.seq .leaf (.cond .leaf .leaf)))))) (.cond (.seq .leaf .leaf) .leaf)))) (.seq .leaf .leaf)))
def F69 (n : Int) (g : G) (R : Value → G → Prop) : Prop :=
  ifB (eqI n (6 : Int))
  (∀ g1 : G, Ex g g1 →
  R (.int .i64 (1 : Int)) g1)
  (ifB (eqI n (11 : Int))
  (∀ g2 : G, Ex g g2 →
  R (.int .i64 (1 : Int)) g2)
  (ifB (eqI n (13 : Int))
  (∀ g3 : G, Ex g g3 →
  R (.int .i64 (1 : Int)) g3)
  (ifB (eqI n (14 : Int))
  (∀ g4 : G, Ex g g4 →
  R (.int .i64 (1 : Int)) g4)
  (∀ g5 : G, Ex g g5 →
  R (.int .i64 (2 : Int)) g5))))
theorem F69_eq (n : Int) (g : G) (R : Value → G → Prop) : fnG cfg69 9 [.tmp 2] c69 an69 [(.int .i64 n)] g nobody R = F69 n g R := by kernel_rfl
theorem call69 (n : Int) (g : G) (R : Value → G → Prop) (hF : F69 n g R) : CallsG Try.prog 69 #[(.int .i64 n)] g nobody R :=
  fn_soundG (c := cfg69) TTok FNSok mixed Try.func69 (show Try.f69.body = some c69 by kernel_rfl) (show Try.f69.ntmps = 9 by kernel_rfl) (show Try.f69.results.toList = [.tmp 2] by kernel_rfl) rfl ((F69_eq n g R ).mpr hF)
end Go.Proofs.Ythlcdgpemjdgnaa
