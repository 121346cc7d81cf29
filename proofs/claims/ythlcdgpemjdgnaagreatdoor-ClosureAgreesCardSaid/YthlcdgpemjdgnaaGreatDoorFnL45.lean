/- Printed by a program (wip/tools/gen2.py): for each function its condition as a plain formula, and that the formula gives the call. -/
import Derived.Test.YthlcdgpemjdgnaaGreatDoorProg
import Derived.Test.YthlcdgpemjdgnaaGreatDoorVda
namespace Go.Proofs.YthlcdgpemjdgnaaGreatDoor.PL
open Go Go.Vc Go.RowKit
set_option maxRecDepth 100000
set_option linter.unusedVariables false
def TT : List TI := [
  ⟨0, .tuple #[], 1, 0, some (.tuple ⟨[]⟩), (.tup [])⟩,
  ⟨3, .int .i64, 1, 8, some (.int .i64 (0 : Int)), (.e (.one (.int .i64)))⟩,
  ⟨4, .bool, 1, 1, some (.bool false), (.e (.one (.bool)))⟩,
  ⟨9, .string, 1, 16, some (.string (bs [])), (.e (.one (.str)))⟩,
  ⟨25, .slice 9, 1, 24, some (.slice none 0 0), (.e (.one (.sl)))⟩,
  ⟨26, .slice 28, 1, 24, some (.slice none 0 0), (.e (.one (.sl)))⟩,
  ⟨28, .struct #[{ name := "Op", type := 3, offset := 0, embedded := false, tag := "", pkgPath := "", byteOffset := 0 }, { name := "N", type := 3, offset := 1, embedded := false, tag := "", pkgPath := "", byteOffset := 8 }, { name := "S", type := 9, offset := 2, embedded := false, tag := "", pkgPath := "", byteOffset := 16 }, { name := "Names", type := 25, offset := 3, embedded := false, tag := "", pkgPath := "", byteOffset := 32 }, { name := "L", type := 26, offset := 4, embedded := false, tag := "", pkgPath := "", byteOffset := 56 }], 5, 80, some (.agg ⟨[(.int .i64 (0 : Int)), (.int .i64 (0 : Int)), (.string (bs [])), (.slice none 0 0), (.slice none 0 0)]⟩), (.e (.agg [(.int .i64), (.int .i64), (.str), (.sl), (.sl)]))⟩,
  ⟨30, .struct #[{ name := "Op", type := 3, offset := 0, embedded := false, tag := "", pkgPath := "", byteOffset := 0 }, { name := "N", type := 3, offset := 1, embedded := false, tag := "", pkgPath := "", byteOffset := 8 }, { name := "Steps", type := 3, offset := 2, embedded := false, tag := "", pkgPath := "", byteOffset := 16 }, { name := "V", type := 28, offset := 3, embedded := false, tag := "", pkgPath := "", byteOffset := 24 }, { name := "Out", type := 25, offset := 8, embedded := false, tag := "", pkgPath := "", byteOffset := 104 }], 9, 128, some (.agg ⟨[(.int .i64 (0 : Int)), (.int .i64 (0 : Int)), (.int .i64 (0 : Int)), (.int .i64 (0 : Int)), (.int .i64 (0 : Int)), (.string (bs [])), (.slice none 0 0), (.slice none 0 0), (.slice none 0 0)]⟩), (.e (.agg [(.int .i64), (.int .i64), (.int .i64), (.int .i64), (.int .i64), (.str), (.sl), (.sl), (.sl)]))⟩,
  ⟨42, .slice 44, 1, 24, some (.slice none 0 0), (.e (.one (.sl)))⟩,
  ⟨44, .struct #[{ name := "Op", type := 3, offset := 0, embedded := false, tag := "", pkgPath := "", byteOffset := 0 }, { name := "N", type := 3, offset := 1, embedded := false, tag := "", pkgPath := "", byteOffset := 8 }, { name := "S", type := 9, offset := 2, embedded := false, tag := "", pkgPath := "", byteOffset := 16 }, { name := "L", type := 42, offset := 3, embedded := false, tag := "", pkgPath := "", byteOffset := 32 }], 4, 56, some (.agg ⟨[(.int .i64 (0 : Int)), (.int .i64 (0 : Int)), (.string (bs [])), (.slice none 0 0)]⟩), (.e (.agg [(.int .i64), (.int .i64), (.str), (.sl)]))⟩,
  ⟨96, .pointer 98, 1, 8, some (.pointer none), (.e (.one (.ptr)))⟩,
  ⟨98, .struct #[{ name := "steps", type := 3, offset := 0, embedded := false, tag := "", pkgPath := "pilaster/lambda", byteOffset := 0 }, { name := "fuel", type := 3, offset := 1, embedded := false, tag := "", pkgPath := "pilaster/lambda", byteOffset := 8 }, { name := "out", type := 25, offset := 2, embedded := false, tag := "", pkgPath := "pilaster/lambda", byteOffset := 16 }, { name := "op", type := 3, offset := 3, embedded := false, tag := "", pkgPath := "pilaster/lambda", byteOffset := 40 }, { name := "n", type := 3, offset := 4, embedded := false, tag := "", pkgPath := "pilaster/lambda", byteOffset := 48 }], 5, 56, some (.agg ⟨[(.int .i64 (0 : Int)), (.int .i64 (0 : Int)), (.slice none 0 0), (.int .i64 (0 : Int)), (.int .i64 (0 : Int))]⟩), (.e (.agg [(.int .i64), (.int .i64), (.sl), (.int .i64), (.int .i64)]))⟩,
  ⟨129, .struct #[], 0, 0, some (.agg ⟨[]⟩), (.e (.agg []))⟩,
  ⟨132, .pointer 154, 1, 8, some (.pointer none), (.e (.one (.ptr)))⟩,
  ⟨134, .pointer 3, 1, 8, some (.pointer none), (.e (.one (.ptr)))⟩,
  ⟨151, .slice 132, 1, 24, some (.slice none 0 0), (.e (.one (.sl)))⟩,
  ⟨152, .pointer 157, 1, 8, some (.pointer none), (.e (.one (.ptr)))⟩,
  ⟨154, .struct #[{ name := "op", type := 3, offset := 0, embedded := false, tag := "", pkgPath := "pilaster/lambda", byteOffset := 0 }, { name := "n", type := 3, offset := 1, embedded := false, tag := "", pkgPath := "pilaster/lambda", byteOffset := 8 }, { name := "s", type := 9, offset := 2, embedded := false, tag := "", pkgPath := "pilaster/lambda", byteOffset := 16 }, { name := "l", type := 151, offset := 3, embedded := false, tag := "", pkgPath := "pilaster/lambda", byteOffset := 32 }, { name := "body", type := 44, offset := 4, embedded := false, tag := "", pkgPath := "pilaster/lambda", byteOffset := 56 }, { name := "env", type := 152, offset := 8, embedded := false, tag := "", pkgPath := "pilaster/lambda", byteOffset := 112 }], 9, 120, some (.agg ⟨[(.int .i64 (0 : Int)), (.int .i64 (0 : Int)), (.string (bs [])), (.slice none 0 0), (.int .i64 (0 : Int)), (.int .i64 (0 : Int)), (.string (bs [])), (.slice none 0 0), (.pointer none)]⟩), (.e (.agg [(.int .i64), (.int .i64), (.str), (.sl), (.int .i64), (.int .i64), (.str), (.sl), (.ptr)]))⟩,
  ⟨157, .struct #[{ name := "v", type := 132, offset := 0, embedded := false, tag := "", pkgPath := "pilaster/lambda", byteOffset := 0 }, { name := "next", type := 152, offset := 1, embedded := false, tag := "", pkgPath := "pilaster/lambda", byteOffset := 8 }], 2, 16, some (.agg ⟨[(.pointer none), (.pointer none)]⟩), (.e (.agg [(.ptr), (.ptr)]))⟩]
theorem TTok : TOk Tryz.prog TT := tok_of (by kernel_rfl)
def FNS : List Nat := [45, 46, 72, 73, 93, 94, 95, 96, 102, 116, 117, 118, 120, 128, 129, 130, 131, 134]
theorem FNSok : FOk Tryz.prog FNS := fok_of (by kernel_rfl)
theorem mixed : Tryz.prog.follows .mixedOrders = true := by kernel_rfl
def TCH : List Nat := [46, 72, 73, 93, 95, 96, 116, 117, 118, 128, 131]
def PNF : List Nat := [72, 73, 93, 95, 96, 116, 117, 118, 128, 131]
noncomputable def c19 : Code := match Tryz.f19.body with
  | some c => c
  | none => .skip
noncomputable def cfg19 : Cfg := ⟨Tryz.prog, TT, FNS, [2, 4, 7], [(2, 2), (4, 4), (7, 7)], [], TCH, false, false, none, PNF, false⟩
def an19 : AnnG := (.seq .leaf (.join ⟨[], [(4, 4, 0)], [(4, [(.int .i64), (.int .i64), (.int .i64), (.int .i64), (.int .i64), (.str), (.sl), (.sl), (.sl)])]⟩ (.blk (.seq .leaf (.cond (.seq .leaf .leaf) (.seq .leaf (.cond (.seq .leaf .leaf) .leaf))))) (.seq .leaf (.seq .leaf (.seq (.treeP false [4] 17 (.quiet 0 (.quiet 1 (.quiet 2 (.quiet 3 (.quiet 4 (.quiet 5 (.quiet 6 (.quiet 7 (.quiet 8 (.quiet 9 (.quiet 10 (.quiet 11 (.quiet 12 (.quiet 13 (.quiet 14 (.quiet 15 (.quiet 16 .fin)))))))))))))))))) .leaf)))))
def F19 (x0 : Int) (x1 : Int) (x2 : ByteArray) (x3a : Option Addr) (x3l : Nat) (x3c : Nat) (fuel : Int) (g : G) (R : Value → G → Prop) : Prop :=
  ∀ J : Int → Int → Int → Int → Int → ByteArray → Option Addr → Nat → Nat → Option Addr → Nat → Nat → Option Addr → Nat → Nat → G → Prop,
  (∀ (x0_1 x1_1 x2_1 x3 x4 : Int) (x5 : ByteArray) (x6a : Option Addr) (x6l x6c : Nat) (x7a : Option Addr) (x7l x7c : Nat) (x8a : Option Addr) (x8l x8c : Nat) (g1 : G), (∀ g2 : G, NewD g1 g2 98 ([(.int .i64 (0 : Int)), (.int .i64 fuel), (.slice none 0 0), (.int .i64 (1 : Int)), (.int .i64 (0 : Int))] : List Value) →
  ∃ M1 : Nat → Prop, (∀ b, b < g.w.heap.size → M1 b → nobody b) ∧ (CallsG Tryz.prog 46 #[(.pointer (some ⟨g1.w.heap.size, 0, none⟩)), (.agg ⟨[(.int .i64 x0), (.int .i64 x1), (.string x2), (.slice x3a x3l x3c)]⟩)] g2 M1 fun v g3 =>
  ∃ (x0_2 x1_2 : Int) (x2_2 : ByteArray) (x3a_1 : Option Addr) (x3l_1 x3c_1 : Nat) (x4a : Option Addr) (x4l x4c : Nat), v = (.agg ⟨[(.int .i64 x0_2), (.int .i64 x1_2), (.string x2_2), (.slice x3a_1 x3l_1 x3c_1), (.slice x4a x4l x4c)]⟩) ∧ ∀ g4 : G, Ex g3 g4 →
  ¬ g4.X (Addr.block (Addr.add ⟨g1.w.heap.size, 0, none⟩ 3)) ∧ ∃ x : Int, g4.w.cell? (Addr.add ⟨g1.w.heap.size, 0, none⟩ 3) = some (.int .i64 x) ∧ ¬ g4.X (Addr.block (Addr.add ⟨g1.w.heap.size, 0, none⟩ 4)) ∧ ∃ x_1 : Int, g4.w.cell? (Addr.add ⟨g1.w.heap.size, 0, none⟩ 4) = some (.int .i64 x_1) ∧ ¬ g4.X (Addr.block ⟨g1.w.heap.size, 0, none⟩) ∧ ∃ x_2 : Int, g4.w.cell? ⟨g1.w.heap.size, 0, none⟩ = some (.int .i64 x_2) ∧ ¬ g4.X (Addr.block (Addr.add ⟨g1.w.heap.size, 0, none⟩ 2)) ∧ ∃ (xa : Option Addr) (xl xc : Nat), g4.w.cell? (Addr.add ⟨g1.w.heap.size, 0, none⟩ 2) = some (.slice xa xl xc) ∧ ∀ g5 : G, Ex g4 g5 →
  R (.tuple ⟨[(.agg ⟨[(.int .i64 x), (.int .i64 x_1), (.int .i64 x_2), (.int .i64 x0_2), (.int .i64 x1_2), (.string x2_2), (.slice x3a_1 x3l_1 x3c_1), (.slice x4a x4l x4c), (.slice xa xl xc)]⟩), (.int .i64 (0 : Int))]⟩) g5)) → J x0_1 x1_1 x2_1 x3 x4 x5 x6a x6l x6c x7a x7l x7c x8a x8l x8c g1) →
  ∀ g6 : G, Ex g g6 →
  (CallsP Tryz.prog 45 #[(.agg ⟨[(.int .i64 x0), (.int .i64 x1), (.string x2), (.slice x3a x3l x3c)]⟩)] g6 fun v g7 =>
  ∃ x_3 : Bool, v = (.bool x_3) ∧ ifB (!x_3)
  (∀ g8 : G, Ex g7 g8 →
  R (.tuple ⟨[(.agg ⟨[(.int .i64 (0 : Int)), (.int .i64 (0 : Int)), (.int .i64 (0 : Int)), (.int .i64 (0 : Int)), (.int .i64 (0 : Int)), (.string (bs [])), (.slice none 0 0), (.slice none 0 0), (.slice none 0 0)]⟩), (.int .i64 (1 : Int))]⟩) g8)
  (ifB (ltI fuel (0 : Int))
  (∀ g9 : G, Ex g7 g9 →
  R (.tuple ⟨[(.agg ⟨[(.int .i64 (0 : Int)), (.int .i64 (0 : Int)), (.int .i64 (0 : Int)), (.int .i64 (0 : Int)), (.int .i64 (0 : Int)), (.string (bs [])), (.slice none 0 0), (.slice none 0 0), (.slice none 0 0)]⟩), (.int .i64 (2 : Int))]⟩) g9)
  (ifB (ltI (1048576 : Int) fuel)
  (∀ g10 : G, Ex g7 g10 →
  R (.tuple ⟨[(.agg ⟨[(.int .i64 (0 : Int)), (.int .i64 (0 : Int)), (.int .i64 (0 : Int)), (.int .i64 (0 : Int)), (.int .i64 (0 : Int)), (.string (bs [])), (.slice none 0 0), (.slice none 0 0), (.slice none 0 0)]⟩), (.int .i64 (2 : Int))]⟩) g10)
  (J (0 : Int) (0 : Int) (0 : Int) (0 : Int) (0 : Int) (bs []) none 0 0 none 0 0 none 0 0 g7))))
theorem F19_eq (x0 : Int) (x1 : Int) (x2 : ByteArray) (x3a : Option Addr) (x3l : Nat) (x3c : Nat) (fuel : Int) (g : G) (R : Value → G → Prop) : fnG cfg19 45 [.cell 4 30, .tmp 5] c19 an19 [(.agg ⟨[(.int .i64 x0), (.int .i64 x1), (.string x2), (.slice x3a x3l x3c)]⟩), (.int .i64 fuel)] g nobody R = F19 x0 x1 x2 x3a x3l x3c fuel g R := by kernel_rfl
theorem call19 (x0 : Int) (x1 : Int) (x2 : ByteArray) (x3a : Option Addr) (x3l : Nat) (x3c : Nat) (fuel : Int) (g : G) (R : Value → G → Prop) (hF : F19 x0 x1 x2 x3a x3l x3c fuel g R) : CallsG Tryz.prog 19 #[(.agg ⟨[(.int .i64 x0), (.int .i64 x1), (.string x2), (.slice x3a x3l x3c)]⟩), (.int .i64 fuel)] g nobody R :=
  fn_soundG (c := cfg19) TTok FNSok mixed Tryz.func19 (show Tryz.f19.body = some c19 by kernel_rfl) (show Tryz.f19.ntmps = 45 by kernel_rfl) (show Tryz.f19.results.toList = [.cell 4 30, .tmp 5] by kernel_rfl) rfl ((F19_eq x0 x1 x2 x3a x3l x3c fuel g R ).mpr hF)
noncomputable def c72 : Code := match Tryz.f72.body with
  | some c => c
  | none => .skip
noncomputable def cfg72 (RP : List PanicEntry → G → Prop) : Cfg := ⟨Tryz.prog, TT, FNS, [8, 9], [(8, 8), (9, 9), (55, 9), (65, 9)], [], TCH, false, false, some RP, PNF, false⟩
def an72 : AnnG := (.seq .leaf (.seq .leaf (.join ⟨[], [], []⟩ (.seq .leaf (.cond .leaf .leaf)) (.seq (.seq .leaf (.cond (.seq .leaf .leaf) .leaf)) (.join ⟨[], [(9, 9, 0)], [(9, [(.int .i64), (.int .i64), (.str), (.sl), (.sl)])]⟩ (.treeP true [] 14 (.quiet 0 (.quiet 1 (.quiet 2 (.quiet 3 (.quiet 4 (.quiet 5 (.quiet 6 (.quiet 7 (.quiet 8 (.quiet 9 (.quiet 10 (.quiet 11 (.eff 12 (.eff 13 .fin .fin) (.eff 13 (.eff 12 .fin .fin) .fin))))))))))))))) (.seq (.seq .leaf (.blk (.loop ⟨[(51, .int .i64)], [(9, 9, 0)], [(9, [(.int .i64), (.int .i64), (.str), (.sl), (.sl)])]⟩ (.seq .leaf (.seq (.cond .leaf .leaf) (.seq (.blk (.seq .leaf (.treeP true [9] 9 (.quiet 0 (.quiet 2 (.quiet 3 (.quiet 4 (.quiet 5 (.quiet 6 (.eff 1 (.eff 7 (.eff 8 .fin .fin) .fin) (.eff 7 (.eff 1 (.eff 8 .fin .fin) (.eff 8 (.eff 1 .fin .fin) .fin)) .fin))))))))))) .leaf)))))) (.seq .leaf .leaf)))))))
def F72 (m : Option Addr) (v_1 : Option Addr) (left : Option Addr) (depth : Int) (g : G) (M : Nat → Prop) (R : Value → G → Prop) (RP : List PanicEntry → G → Prop) : Prop :=
  derefP left fun ad => ∀ g1 : G, Ex g g1 →
  ∃ x : Int, g1.w.cell? ad = some (.int .i64 x) ∧ InI64 (x - (1 : Int)) ∧ derefP left fun ad_1 => stOk g1.w ad_1 1 ∧ ¬ g1.X (Addr.block ad_1) ∧ mutAt g1 ad_1 1 ∧ ((Addr.block ad_1) < g.w.heap.size → M (Addr.block ad_1)) ∧ ∀ g2 : G, StG false g1 ad_1 [(.int .i64 (x - (1 : Int)))] g2 →
  ∀ J : G → Prop,
  (∀ g3 : G, (derefP v_1 fun ad_2 => ∃ x_1 : Int, g3.w.cell? ad_2 = some (.int .i64 x_1) ∧ ifB (eqI x_1 (7 : Int))
  (∀ g4 : G, Ex g3 g4 →
  R (.agg ⟨[(.int .i64 (7 : Int)), (.int .i64 (0 : Int)), (.string (bs [])), (.slice none 0 0), (.slice none 0 0)]⟩) g4)
  (∀ J_1 : Int → Int → ByteArray → Option Addr → Nat → Nat → Option Addr → Nat → Nat → G → Prop,
  (∀ (out0 out1 : Int) (out2 : ByteArray) (out3a : Option Addr) (out3l out3c : Nat) (out4a : Option Addr) (out4l out4c : Nat) (g5 : G), (derefP v_1 fun ad_3 => ∃ (xa : Option Addr) (xl xc : Nat), g5.w.cell? (Addr.add ad_3 3) = some (.slice xa xl xc) ∧ ∃ Inv : Nat → Int → Int → Int → ByteArray → Option Addr → Nat → Nat → Option Addr → Nat → Nat → G → Prop, ((∃ m0 : Nat, Inv m0 (0 : Int) out0 out1 out2 out3a out3l out3c out4a out4l out4c g5)) ∧
  ∀ (m_1 : Nat) (v_2 out0_1 out1_1 : Int) (out2_1 : ByteArray) (out3a_1 : Option Addr) (out3l_1 out3c_1 : Nat) (out4a_1 : Option Addr) (out4l_1 out4c_1 : Nat) (g6 : G), Le g5 g6 → Inv m_1 v_2 out0_1 out1_1 out2_1 out3a_1 out3l_1 out3c_1 out4a_1 out4l_1 out4c_1 g6 →
  ifB (ltI v_2 ((xl : Nat) : Int))
  ((0 ≤ v_2 ∧ v_2 < ((xl : Nat) : Int)) ∧ derefP xa fun ad_4 => ∃ x_2 : Option Addr, g6.w.cell? (Addr.add ad_4 (Int.toNat v_2 * 1)) = some (.pointer x_2) ∧ ∀ g7 : G, Ex g6 g7 →
  ∃ MR1 : Nat → Prop, (∀ b, MR1 b → ¬ g7.X b) ∧ InI64 (depth + (1 : Int)) ∧ (∀ g8 : G, Ex g7 g8 →
  ∃ M2 : Nat → Prop, (∀ b, b < g.w.heap.size → M2 b → M b) ∧ (CallsX Tryz.prog 72 #[(.pointer m), (.pointer x_2), (.pointer left), (.int .i64 (depth + (1 : Int)))] g8 M2 (fun v g9 =>
  ∃ (x0 x1 : Int) (x2 : ByteArray) (x3a : Option Addr) (x3l x3c : Nat) (x4a : Option Addr) (x4l x4c : Nat), v = (.agg ⟨[(.int .i64 x0), (.int .i64 x1), (.string x2), (.slice x3a x3l x3c), (.slice x4a x4l x4c)]⟩) ∧ SameBut MR1 g7 g9 ∧ ∀ g10 : G, Ex g9 g10 →
  ∀ g11 : G, NewL g10 g11 28 [(.int .i64 x0), (.int .i64 x1), (.string x2), (.slice x3a x3l x3c), (.slice x4a x4l x4c)] →
  ∃ (xa_1 : Option Addr) (xl_1 xc_1 : Nat) (wo1 : World), Sem.run Tryz.prog (Builtin.append_ #[26, 26] 26 #[(.slice out4a_1 out4l_1 out4c_1), (.slice (some ⟨g10.w.heap.size, 0, none⟩) 1 1)]) g11.w = .ok (.slice xa_1 xl_1 xc_1) wo1 ∧ ∃ g12 : G, g12.w = wo1 ∧ Stp g.w.heap.size M g11 g12 ∧ InI64 (v_2 + (1 : Int)) ∧ ∀ g13 : G, Ex g12 g13 →
  (∃ m_2 : Nat, m_2 < m_1 ∧ Inv m_2 (v_2 + (1 : Int)) out0_1 out1_1 out2_1 out3a_1 out3l_1 out3c_1 xa_1 xl_1 xc_1 g13)) (fun ch g14 => ∀ g15 : G, Ex g14 g15 → RP ch g15))) ∧ (∀ g16 : G, Ex g7 g16 →
  ∃ M3 : Nat → Prop, (∀ b, b < g.w.heap.size → M3 b → M b) ∧ (CallsX Tryz.prog 72 #[(.pointer m), (.pointer x_2), (.pointer left), (.int .i64 (depth + (1 : Int)))] g16 M3 (fun v g17 =>
  ∃ (x0_1 x1_1 : Int) (x2_1 : ByteArray) (x3a_1 : Option Addr) (x3l_1 x3c_1 : Nat) (x4a_1 : Option Addr) (x4l_1 x4c_1 : Nat), v = (.agg ⟨[(.int .i64 x0_1), (.int .i64 x1_1), (.string x2_1), (.slice x3a_1 x3l_1 x3c_1), (.slice x4a_1 x4l_1 x4c_1)]⟩) ∧ SameBut MR1 g7 g17 ∧ Rep 1 (∀ g18 : G, Ex g17 g18 →
  ∀ g19 : G, NewL g18 g19 28 [(.int .i64 x0_1), (.int .i64 x1_1), (.string x2_1), (.slice x3a_1 x3l_1 x3c_1), (.slice x4a_1 x4l_1 x4c_1)] →
  ∃ (xa_2 : Option Addr) (xl_2 xc_2 : Nat) (wo2 : World), Sem.run Tryz.prog (Builtin.append_ #[26, 26] 26 #[(.slice out4a_1 out4l_1 out4c_1), (.slice (some ⟨g18.w.heap.size, 0, none⟩) 1 1)]) g19.w = .ok (.slice xa_2 xl_2 xc_2) wo2 ∧ ∃ g20 : G, g20.w = wo2 ∧ Stp g.w.heap.size M g19 g20 ∧ InI64 (v_2 + (1 : Int)) ∧ ∀ g21 : G, Ex g20 g21 →
  (∃ m_2 : Nat, m_2 < m_1 ∧ Inv m_2 (v_2 + (1 : Int)) out0_1 out1_1 out2_1 out3a_1 out3l_1 out3c_1 xa_2 xl_2 xc_2 g21))) (fun ch g26 => ∀ g27 : G, Ex g26 g27 → RP ch g27))))
  (∀ g28 : G, Ex g6 g28 →
  R (.agg ⟨[(.int .i64 out0_1), (.int .i64 out1_1), (.string out2_1), (.slice out3a_1 out3l_1 out3c_1), (.slice out4a_1 out4l_1 out4c_1)]⟩) g28)) → J_1 out0 out1 out2 out3a out3l out3c out4a out4l out4c g5) →
  ∀ g29 : G, Ex g3 g29 →
  ∃ MR4 : Nat → Prop, (∀ b, MR4 b → ¬ g29.X b) ∧ derefP v_1 fun ad_5 => ¬ g29.X (Addr.block ad_5) ∧ ¬ MR4 (Addr.block ad_5) ∧ ∃ x_3 : Int, g29.w.cell? ad_5 = some (.int .i64 x_3) ∧ derefP v_1 fun ad_6 => ¬ g29.X (Addr.block (Addr.add ad_6 1)) ∧ ¬ MR4 (Addr.block (Addr.add ad_6 1)) ∧ ∃ x_4 : Int, g29.w.cell? (Addr.add ad_6 1) = some (.int .i64 x_4) ∧ derefP v_1 fun ad_7 => ¬ g29.X (Addr.block (Addr.add ad_7 2)) ∧ ¬ MR4 (Addr.block (Addr.add ad_7 2)) ∧ ∃ x_5 : ByteArray, g29.w.cell? (Addr.add ad_7 2) = some (.string x_5) ∧ Rep 1 (∀ g30 : G, Ex g29 g30 →
  ∀ g31 : G, Ex g30 g31 →
  J_1 x_3 x_4 x_5 none 0 0 none 0 0 g31))) → J g3) →
  derefP left fun ad_8 => ∃ x_6 : Int, g2.w.cell? ad_8 = some (.int .i64 x_6) ∧ ifB (ltI x_6 (0 : Int))
  (∃ M5 : Nat → Prop, (∀ b, b < g.w.heap.size → M5 b → M b) ∧ (CallsX Tryz.prog 93 #[(.pointer m), (.int .i64 (2 : Int)), (.int .i64 (2 : Int))] g2 M5 (fun v g34 =>
  v = (.tuple ⟨[]⟩) ∧ J g34) (fun ch g35 => ∀ g36 : G, Ex g35 g36 → RP ch g36)))
  (ifB (ltI (400 : Int) depth)
  (∃ M6 : Nat → Prop, (∀ b, b < g.w.heap.size → M6 b → M b) ∧ (CallsX Tryz.prog 93 #[(.pointer m), (.int .i64 (2 : Int)), (.int .i64 (2 : Int))] g2 M6 (fun v g37 =>
  v = (.tuple ⟨[]⟩) ∧ J g37) (fun ch g38 => ∀ g39 : G, Ex g38 g39 → RP ch g39)))
  (J g2))
theorem F72_eq (m : Option Addr) (v_1 : Option Addr) (left : Option Addr) (depth : Int) (g : G) (M : Nat → Prop) (R : Value → G → Prop) (RP : List PanicEntry → G → Prop) : fnG (cfg72 RP) 68 [.cell 8 28] c72 an72 [(.pointer m), (.pointer v_1), (.pointer left), (.int .i64 depth)] g M R = F72 m v_1 left depth g M R RP := by kernel_rfl
theorem call72 (m : Option Addr) (v_1 : Option Addr) (left : Option Addr) (depth : Int) (g : G) (M : Nat → Prop) (R : Value → G → Prop) (RP : List PanicEntry → G → Prop) (hF : F72 m v_1 left depth g M R RP ) : CallsX Tryz.prog 72 #[(.pointer m), (.pointer v_1), (.pointer left), (.int .i64 depth)] g M R RP :=
  fn_soundX (c := (cfg72 RP)) TTok FNSok mixed (.inr rfl) Tryz.func72 (show Tryz.f72.body = some c72 by kernel_rfl) (show Tryz.f72.ntmps = 68 by kernel_rfl) (show Tryz.f72.results.toList = [.cell 8 28] by kernel_rfl) rfl ((F72_eq m v_1 left depth g M R RP ).mpr hF)
noncomputable def c73 : Code := match Tryz.f73.body with
  | some c => c
  | none => .skip
noncomputable def cfg73 (RP : List PanicEntry → G → Prop) : Cfg := ⟨Tryz.prog, TT, FNS, [4, 11], [(4, 4), (11, 11), (30, 4), (35, 4), (40, 4), (46, 4), (52, 4), (66, 4), (81, 4), (87, 4), (92, 4), (105, 4), (123, 4), (130, 4), (149, 4)], [43, 49, 58], TCH, false, false, some RP, PNF, false⟩
def an73 : AnnG := (.seq .leaf (.join ⟨[], [], []⟩ (.seq (.treeB 8 (.quiet 0 (.quiet 1 (.quiet 2 (.quiet 3 (.quiet 4 (.quiet 5 (.quiet 6 (.quiet 7 .fin))))))))) (.cond .leaf .leaf)) (.seq .leaf (.join ⟨[], [], []⟩ (.seq .leaf (.blk (.seq .leaf (.cond (.seq .leaf .leaf) (.seq .leaf (.cond (.seq .leaf .leaf) (.seq .leaf (.cond (.seq .leaf .leaf) (.seq .leaf (.cond (.seq .leaf .leaf) (.seq .leaf (.cond (.seq .leaf (.seq .leaf (.seq .leaf .leaf))) (.seq .leaf (.cond .leaf (.seq .leaf (.cond (.seq (.treeB 15 (.quiet 0 (.quiet 1 (.quiet 2 (.quiet 3 (.quiet 4 (.quiet 5 (.quiet 6 (.quiet 7 (.quiet 8 (.quiet 9 (.quiet 10 (.quiet 12 (.eff 11 (.eff 13 (.eff 14 .fin .fin) .fin) .fin)))))))))))))) .leaf) (.seq .leaf (.cond (.seq .leaf (.join ⟨[], [], []⟩ (.treeB 17 (.quiet 0 (.quiet 1 (.quiet 2 (.quiet 3 (.quiet 4 (.quiet 5 (.quiet 6 (.quiet 7 (.quiet 8 (.quiet 9 (.quiet 10 (.quiet 11 (.quiet 12 (.quiet 13 (.quiet 14 (.quiet 15 (.quiet 16 .fin)))))))))))))))))) (.seq (.treeB 19 (.quiet 0 (.quiet 1 (.quiet 2 (.quiet 3 (.quiet 4 (.quiet 5 (.quiet 6 (.quiet 7 (.quiet 8 (.quiet 9 (.quiet 10 (.quiet 11 (.quiet 12 (.quiet 13 (.quiet 14 (.quiet 15 (.quiet 16 (.eff 17 (.eff 18 .fin .fin) .fin))))))))))))))))))) .leaf))) .leaf)))))))))))))))))) (.seq .leaf (.seq (.seq .leaf (.blk (.loop ⟨[(9, .sl), (152, .int .i64)], [], []⟩ (.seq .leaf (.seq (.cond .leaf .leaf) (.seq (.blk (.seq .leaf .leaf)) .leaf)))))) (.seq .leaf .leaf)))))))
def F73 (m : Option Addr) (x0 : Int) (x1 : Int) (x2 : ByteArray) (x3a : Option Addr) (x3l : Nat) (x3c : Nat) (env : Option Addr) (g : G) (M : Nat → Prop) (R : Value → G → Prop) (RP : List PanicEntry → G → Prop) : Prop :=
  ∀ J : G → Prop,
  (∀ g1 : G, (derefP m fun ad => ∃ x : Int, g1.w.cell? ad = some (.int .i64 x) ∧ InI64 (x + (1 : Int)) ∧ derefP m fun ad_1 => stOk g1.w ad_1 1 ∧ ¬ g1.X (Addr.block ad_1) ∧ mutAt g1 ad_1 1 ∧ ((Addr.block ad_1) < g.w.heap.size → M (Addr.block ad_1)) ∧ ∀ g2 : G, StG false g1 ad_1 [(.int .i64 (x + (1 : Int)))] g2 →
  ∀ J_1 : G → Prop,
  (∀ g3 : G, (∃ Inv : Nat → Option Addr → Nat → Nat → Int → G → Prop, ((∃ m0 : Nat, Inv m0 none 0 0 (0 : Int) g3)) ∧
  ∀ (m_1 : Nat) (la : Option Addr) (ll lc : Nat) (v_1 : Int) (g4 : G), Le g3 g4 → Inv m_1 la ll lc v_1 g4 →
  ifB (ltI v_1 ((x3l : Nat) : Int))
  ((0 ≤ v_1 ∧ v_1 < ((x3l : Nat) : Int)) ∧ derefP x3a fun ad_2 => ∃ (x0_1 x1_1 : Int) (x2_1 : ByteArray) (x3a_1 : Option Addr) (x3l_1 x3c_1 : Nat), g4.w.cell? (Addr.add ad_2 (Int.toNat v_1 * 4)) = some (.int .i64 x0_1) ∧ g4.w.cell? (Addr.add (Addr.add ad_2 (Int.toNat v_1 * 4)) 1) = some (.int .i64 x1_1) ∧ g4.w.cell? (Addr.add (Addr.add ad_2 (Int.toNat v_1 * 4)) 2) = some (.string x2_1) ∧ g4.w.cell? (Addr.add (Addr.add ad_2 (Int.toNat v_1 * 4)) 3) = some (.slice x3a_1 x3l_1 x3c_1) ∧ ∀ g5 : G, Ex g4 g5 →
  ∃ M1 : Nat → Prop, (∀ b, b < g.w.heap.size → M1 b → M b) ∧ (CallsX Tryz.prog 73 #[(.pointer m), (.agg ⟨[(.int .i64 x0_1), (.int .i64 x1_1), (.string x2_1), (.slice x3a_1 x3l_1 x3c_1)]⟩), (.pointer env)] g5 M1 (fun v g6 =>
  ∃ x_1 : Option Addr, v = (.pointer x_1) ∧ ∀ g7 : G, NewL g6 g7 132 [(.pointer x_1)] →
  ∃ (la_1 : Option Addr) (ll_1 lc_1 : Nat) (wo1 : World), Sem.run Tryz.prog (Builtin.append_ #[151, 151] 151 #[(.slice la ll lc), (.slice (some ⟨g6.w.heap.size, 0, none⟩) 1 1)]) g7.w = .ok (.slice la_1 ll_1 lc_1) wo1 ∧ ∃ g8 : G, g8.w = wo1 ∧ Stp g.w.heap.size M g7 g8 ∧ InI64 (v_1 + (1 : Int)) ∧ (∃ m_2 : Nat, m_2 < m_1 ∧ Inv m_2 la_1 ll_1 lc_1 (v_1 + (1 : Int)) g8)) (fun ch g9 => ∀ g10 : G, Ex g9 g10 → RP ch g10)))
  (∃ M2 : Nat → Prop, (∀ b, b < g.w.heap.size → M2 b → M b) ∧ (CallsX Tryz.prog 96 #[(.pointer m), (.agg ⟨[(.int .i64 x0), (.int .i64 x1), (.string x2), (.slice x3a x3l x3c)]⟩), (.slice la ll lc)] g4 M2 (fun v g11 =>
  ∃ x_2 : Option Addr, v = (.pointer x_2) ∧ ∀ g12 : G, Ex g11 g12 →
  R (.pointer x_2) g12) (fun ch g13 => ∀ g14 : G, Ex g13 g14 → RP ch g14)))) → J_1 g3) →
  ifB (eqI x0 (1 : Int))
  ((CallsP Tryz.prog 94 #[(.pointer env), (.int .i64 x1)] g2 fun v g15 =>
  ∃ x_3 : Option Addr, v = (.pointer x_3) ∧ ∀ g16 : G, Ex g15 g16 →
  R (.pointer x_3) g16))
  (ifB (eqI x0 (2 : Int))
  (∀ g17 : G, NewL g2 g17 154 ([(.int .i64 (1 : Int)), (.int .i64 x1), (.string (bs [])), (.slice none 0 0), (.int .i64 (0 : Int)), (.int .i64 (0 : Int)), (.string (bs [])), (.slice none 0 0), (.pointer none)] : List Value) →
  ∀ g18 : G, Ex g17 g18 →
  R (.pointer (some ⟨g2.w.heap.size, 0, none⟩)) g18)
  (ifB (eqI x0 (3 : Int))
  (∀ g19 : G, NewL g2 g19 154 ([(.int .i64 (2 : Int)), (.int .i64 (0 : Int)), (.string x2), (.slice none 0 0), (.int .i64 (0 : Int)), (.int .i64 (0 : Int)), (.string (bs [])), (.slice none 0 0), (.pointer none)] : List Value) →
  ∀ g20 : G, Ex g19 g20 →
  R (.pointer (some ⟨g2.w.heap.size, 0, none⟩)) g20)
  (ifB (eqI x0 (4 : Int))
  ((0 ≤ (0 : Int) ∧ (0 : Int) < ((x3l : Nat) : Int)) ∧ derefP x3a fun ad_3 => ∃ (x0_2 x1_2 : Int) (x2_2 : ByteArray) (x3a_2 : Option Addr) (x3l_2 x3c_2 : Nat), g2.w.cell? (Addr.add ad_3 (Int.toNat (0 : Int) * 4)) = some (.int .i64 x0_2) ∧ g2.w.cell? (Addr.add (Addr.add ad_3 (Int.toNat (0 : Int) * 4)) 1) = some (.int .i64 x1_2) ∧ g2.w.cell? (Addr.add (Addr.add ad_3 (Int.toNat (0 : Int) * 4)) 2) = some (.string x2_2) ∧ g2.w.cell? (Addr.add (Addr.add ad_3 (Int.toNat (0 : Int) * 4)) 3) = some (.slice x3a_2 x3l_2 x3c_2) ∧ ∀ g21 : G, NewL g2 g21 154 ([(.int .i64 (7 : Int)), (.int .i64 (0 : Int)), (.string (bs [])), (.slice none 0 0), (.int .i64 x0_2), (.int .i64 x1_2), (.string x2_2), (.slice x3a_2 x3l_2 x3c_2), (.pointer env)] : List Value) →
  ∀ g22 : G, Ex g21 g22 →
  R (.pointer (some ⟨g2.w.heap.size, 0, none⟩)) g22)
  (ifB (eqI x0 (10 : Int))
  (∀ g23 : G, NewD g2 g23 157 ([(.pointer none), (.pointer env)] : List Value) →
  (0 ≤ (0 : Int) ∧ (0 : Int) < ((x3l : Nat) : Int)) ∧ derefP x3a fun ad_4 => ∃ (x0_3 x1_3 : Int) (x2_3 : ByteArray) (x3a_3 : Option Addr) (x3l_3 x3c_3 : Nat), g23.w.cell? (Addr.add ad_4 (Int.toNat (0 : Int) * 4)) = some (.int .i64 x0_3) ∧ g23.w.cell? (Addr.add (Addr.add ad_4 (Int.toNat (0 : Int) * 4)) 1) = some (.int .i64 x1_3) ∧ g23.w.cell? (Addr.add (Addr.add ad_4 (Int.toNat (0 : Int) * 4)) 2) = some (.string x2_3) ∧ g23.w.cell? (Addr.add (Addr.add ad_4 (Int.toNat (0 : Int) * 4)) 3) = some (.slice x3a_3 x3l_3 x3c_3) ∧ ∃ M3 : Nat → Prop, (∀ b, b < g.w.heap.size → M3 b → M b) ∧ (CallsX Tryz.prog 73 #[(.pointer m), (.agg ⟨[(.int .i64 x0_3), (.int .i64 x1_3), (.string x2_3), (.slice x3a_3 x3l_3 x3c_3)]⟩), (.pointer (some ⟨g2.w.heap.size, 0, none⟩))] g23 M3 (fun v g24 =>
  ∃ x_4 : Option Addr, v = (.pointer x_4) ∧ stOk g24.w ⟨g2.w.heap.size, 0, none⟩ 1 ∧ ¬ g24.X (Addr.block ⟨g2.w.heap.size, 0, none⟩) ∧ mutAt g24 ⟨g2.w.heap.size, 0, none⟩ 1 ∧ ((Addr.block ⟨g2.w.heap.size, 0, none⟩) < g.w.heap.size → M (Addr.block ⟨g2.w.heap.size, 0, none⟩)) ∧ ∀ g25 : G, StG false g24 ⟨g2.w.heap.size, 0, none⟩ [(.pointer x_4)] g25 →
  ∃ x_5 : Option Addr, g25.w.cell? ⟨g2.w.heap.size, 0, none⟩ = some (.pointer x_5) ∧ ∀ g26 : G, Ex g25 g26 →
  R (.pointer x_5) g26) (fun ch g27 => ∀ g28 : G, Ex g27 g28 → RP ch g28)))
  (ifB (eqI x0 (13 : Int))
  (∃ M4 : Nat → Prop, (∀ b, b < g.w.heap.size → M4 b → M b) ∧ (CallsX Tryz.prog 93 #[(.pointer m), (.int .i64 (2 : Int)), (.int .i64 x1)] g2 M4 (fun v g29 =>
  v = (.tuple ⟨[]⟩) ∧ J_1 g29) (fun ch g30 => ∀ g31 : G, Ex g30 g31 → RP ch g31)))
  (ifB (eqI x0 (11 : Int))
  (∀ g32 : G, Ex g2 g32 →
  ∃ MR5 : Nat → Prop, (∀ b, MR5 b → ¬ g32.X b) ∧ (0 ≤ (1 : Int) ∧ (1 : Int) < ((x3l : Nat) : Int)) ∧ derefP x3a fun ad_5 => ¬ MR5 (Addr.block (Addr.add ad_5 (Int.toNat (1 : Int) * 4))) ∧ ∃ (x0_4 x1_4 : Int) (x2_4 : ByteArray) (x3a_4 : Option Addr) (x3l_4 x3c_4 : Nat), g32.w.cell? (Addr.add ad_5 (Int.toNat (1 : Int) * 4)) = some (.int .i64 x0_4) ∧ g32.w.cell? (Addr.add (Addr.add ad_5 (Int.toNat (1 : Int) * 4)) 1) = some (.int .i64 x1_4) ∧ g32.w.cell? (Addr.add (Addr.add ad_5 (Int.toNat (1 : Int) * 4)) 2) = some (.string x2_4) ∧ g32.w.cell? (Addr.add (Addr.add ad_5 (Int.toNat (1 : Int) * 4)) 3) = some (.slice x3a_4 x3l_4 x3c_4) ∧ (0 ≤ (0 : Int) ∧ (0 : Int) < ((x3l : Nat) : Int)) ∧ derefP x3a fun ad_6 => ¬ MR5 (Addr.block (Addr.add ad_6 (Int.toNat (0 : Int) * 4))) ∧ ∃ (x0_5 x1_5 : Int) (x2_5 : ByteArray) (x3a_5 : Option Addr) (x3l_5 x3c_5 : Nat), g32.w.cell? (Addr.add ad_6 (Int.toNat (0 : Int) * 4)) = some (.int .i64 x0_5) ∧ g32.w.cell? (Addr.add (Addr.add ad_6 (Int.toNat (0 : Int) * 4)) 1) = some (.int .i64 x1_5) ∧ g32.w.cell? (Addr.add (Addr.add ad_6 (Int.toNat (0 : Int) * 4)) 2) = some (.string x2_5) ∧ g32.w.cell? (Addr.add (Addr.add ad_6 (Int.toNat (0 : Int) * 4)) 3) = some (.slice x3a_5 x3l_5 x3c_5) ∧ ∃ M7 : Nat → Prop, (∀ b, b < g.w.heap.size → M7 b → M b) ∧ (CallsX Tryz.prog 73 #[(.pointer m), (.agg ⟨[(.int .i64 x0_5), (.int .i64 x1_5), (.string x2_5), (.slice x3a_5 x3l_5 x3c_5)]⟩), (.pointer env)] g32 M7 (fun v g33 =>
  ∃ x_6 : Option Addr, v = (.pointer x_6) ∧ SameBut MR5 g32 g33 ∧ ∀ g34 : G, NewD g33 g34 157 ([(.pointer x_6), (.pointer env)] : List Value) →
  ∃ M6 : Nat → Prop, (∀ b, b < g.w.heap.size → M6 b → M b) ∧ (CallsX Tryz.prog 73 #[(.pointer m), (.agg ⟨[(.int .i64 x0_4), (.int .i64 x1_4), (.string x2_4), (.slice x3a_4 x3l_4 x3c_4)]⟩), (.pointer (some ⟨g33.w.heap.size, 0, none⟩))] g34 M6 (fun v g35 =>
  ∃ x_7 : Option Addr, v = (.pointer x_7) ∧ ∀ g36 : G, Ex g35 g36 →
  R (.pointer x_7) g36) (fun ch g37 => ∀ g38 : G, Ex g37 g38 → RP ch g38))) (fun ch g39 => ∀ g40 : G, Ex g39 g40 → RP ch g40)))
  (ifB (eqI x0 (9 : Int))
  ((0 ≤ (0 : Int) ∧ (0 : Int) < ((x3l : Nat) : Int)) ∧ derefP x3a fun ad_7 => ∃ (x0_6 x1_6 : Int) (x2_6 : ByteArray) (x3a_6 : Option Addr) (x3l_6 x3c_6 : Nat), g2.w.cell? (Addr.add ad_7 (Int.toNat (0 : Int) * 4)) = some (.int .i64 x0_6) ∧ g2.w.cell? (Addr.add (Addr.add ad_7 (Int.toNat (0 : Int) * 4)) 1) = some (.int .i64 x1_6) ∧ g2.w.cell? (Addr.add (Addr.add ad_7 (Int.toNat (0 : Int) * 4)) 2) = some (.string x2_6) ∧ g2.w.cell? (Addr.add (Addr.add ad_7 (Int.toNat (0 : Int) * 4)) 3) = some (.slice x3a_6 x3l_6 x3c_6) ∧ ∃ M13 : Nat → Prop, (∀ b, b < g.w.heap.size → M13 b → M b) ∧ (CallsX Tryz.prog 73 #[(.pointer m), (.agg ⟨[(.int .i64 x0_6), (.int .i64 x1_6), (.string x2_6), (.slice x3a_6 x3l_6 x3c_6)]⟩), (.pointer env)] g2 M13 (fun v g41 =>
  ∃ v_2 : Option Addr, v = (.pointer v_2) ∧ ∀ J_2 : G → Prop,
  (∀ g42 : G, (∀ g43 : G, Ex g42 g43 →
  ∃ MR8 : Nat → Prop, (∀ b, MR8 b → ¬ g43.X b) ∧ derefP v_2 fun ad_8 => ¬ MR8 (Addr.block (Addr.add ad_8 1)) ∧ ∃ x_8 : Int, g43.w.cell? (Addr.add ad_8 1) = some (.int .i64 x_8) ∧ InI64 (x_8 + (1 : Int)) ∧ (0 ≤ (x_8 + (1 : Int)) ∧ (x_8 + (1 : Int)) < ((x3l : Nat) : Int)) ∧ derefP x3a fun ad_9 => ¬ MR8 (Addr.block (Addr.add ad_9 (Int.toNat (x_8 + (1 : Int)) * 4))) ∧ ∃ (x0_7 x1_7 : Int) (x2_7 : ByteArray) (x3a_7 : Option Addr) (x3l_7 x3c_7 : Nat), g43.w.cell? (Addr.add ad_9 (Int.toNat (x_8 + (1 : Int)) * 4)) = some (.int .i64 x0_7) ∧ g43.w.cell? (Addr.add (Addr.add ad_9 (Int.toNat (x_8 + (1 : Int)) * 4)) 1) = some (.int .i64 x1_7) ∧ g43.w.cell? (Addr.add (Addr.add ad_9 (Int.toNat (x_8 + (1 : Int)) * 4)) 2) = some (.string x2_7) ∧ g43.w.cell? (Addr.add (Addr.add ad_9 (Int.toNat (x_8 + (1 : Int)) * 4)) 3) = some (.slice x3a_7 x3l_7 x3c_7) ∧ derefP v_2 fun ad_10 => ¬ MR8 (Addr.block (Addr.add ad_10 3)) ∧ ∃ (xa : Option Addr) (xl xc : Nat), g43.w.cell? (Addr.add ad_10 3) = some (.slice xa xl xc) ∧ (0 ≤ (0 : Int) ∧ (0 : Int) < ((xl : Nat) : Int)) ∧ derefP xa fun ad_11 => ¬ MR8 (Addr.block (Addr.add ad_11 (Int.toNat (0 : Int) * 1))) ∧ ∃ x_9 : Option Addr, g43.w.cell? (Addr.add ad_11 (Int.toNat (0 : Int) * 1)) = some (.pointer x_9) ∧ ∀ g44 : G, NewD g43 g44 157 ([(.pointer x_9), (.pointer env)] : List Value) →
  ∃ M9 : Nat → Prop, (∀ b, b < g.w.heap.size → M9 b → M b) ∧ (CallsX Tryz.prog 73 #[(.pointer m), (.agg ⟨[(.int .i64 x0_7), (.int .i64 x1_7), (.string x2_7), (.slice x3a_7 x3l_7 x3c_7)]⟩), (.pointer (some ⟨g43.w.heap.size, 0, none⟩))] g44 M9 (fun v g45 =>
  ∃ x_10 : Option Addr, v = (.pointer x_10) ∧ ∀ g46 : G, Ex g45 g46 →
  R (.pointer x_10) g46) (fun ch g47 => ∀ g48 : G, Ex g47 g48 → RP ch g48))) → J_2 g42) →
  ∀ g49 : G, Ex g41 g49 →
  ∃ MR10 : Nat → Prop, (∀ b, MR10 b → ¬ g49.X b) ∧ derefP v_2 fun ad_12 => ¬ MR10 (Addr.block ad_12) ∧ ∃ x_11 : Int, g49.w.cell? ad_12 = some (.int .i64 x_11) ∧ ifB (eqI x_11 (4 : Int))
  (derefP v_2 fun ad_13 => ¬ MR10 (Addr.block (Addr.add ad_13 1)) ∧ ∃ x_12 : Int, g49.w.cell? (Addr.add ad_13 1) = some (.int .i64 x_12) ∧ InI64 (x_12 + (1 : Int)) ∧ ∃ M11 : Nat → Prop, (∀ b, b < g.w.heap.size → M11 b → M b) ∧ (CallsX Tryz.prog 95 #[(.pointer m), (.bool (ltI (x_12 + (1 : Int)) ((x3l : Nat) : Int)))] g49 M11 (fun v g50 =>
  v = (.tuple ⟨[]⟩) ∧ J_2 g50) (fun ch g51 => ∀ g52 : G, Ex g51 g52 → RP ch g52)))
  (∃ M12 : Nat → Prop, (∀ b, b < g.w.heap.size → M12 b → M b) ∧ (CallsX Tryz.prog 95 #[(.pointer m), (.bool false)] g49 M12 (fun v g53 =>
  v = (.tuple ⟨[]⟩) ∧ J_2 g53) (fun ch g54 => ∀ g55 : G, Ex g54 g55 → RP ch g55)))) (fun ch g56 => ∀ g57 : G, Ex g56 g57 → RP ch g57)))
  (J_1 g2))))))))) → J g1) →
  ∀ g58 : G, Ex g g58 →
  ∃ MR14 : Nat → Prop, (∀ b, MR14 b → ¬ g58.X b) ∧ derefP m fun ad_14 => ¬ MR14 (Addr.block ad_14) ∧ ∃ x_13 : Int, g58.w.cell? ad_14 = some (.int .i64 x_13) ∧ derefP m fun ad_15 => ¬ MR14 (Addr.block (Addr.add ad_15 1)) ∧ ∃ x_14 : Int, g58.w.cell? (Addr.add ad_15 1) = some (.int .i64 x_14) ∧ ifB (leI x_14 x_13)
  (∃ M15 : Nat → Prop, (∀ b, b < g.w.heap.size → M15 b → M b) ∧ (CallsX Tryz.prog 93 #[(.pointer m), (.int .i64 (3 : Int)), (.int .i64 (0 : Int))] g58 M15 (fun v g59 =>
  v = (.tuple ⟨[]⟩) ∧ J g59) (fun ch g60 => ∀ g61 : G, Ex g60 g61 → RP ch g61)))
  (J g58)
theorem F73_eq (m : Option Addr) (x0 : Int) (x1 : Int) (x2 : ByteArray) (x3a : Option Addr) (x3l : Nat) (x3c : Nat) (env : Option Addr) (g : G) (M : Nat → Prop) (R : Value → G → Prop) (RP : List PanicEntry → G → Prop) : fnG (cfg73 RP) 168 [.tmp 6] c73 an73 [(.pointer m), (.agg ⟨[(.int .i64 x0), (.int .i64 x1), (.string x2), (.slice x3a x3l x3c)]⟩), (.pointer env)] g M R = F73 m x0 x1 x2 x3a x3l x3c env g M R RP := by kernel_rfl
theorem call73 (m : Option Addr) (x0 : Int) (x1 : Int) (x2 : ByteArray) (x3a : Option Addr) (x3l : Nat) (x3c : Nat) (env : Option Addr) (g : G) (M : Nat → Prop) (R : Value → G → Prop) (RP : List PanicEntry → G → Prop) (hF : F73 m x0 x1 x2 x3a x3l x3c env g M R RP ) : CallsX Tryz.prog 73 #[(.pointer m), (.agg ⟨[(.int .i64 x0), (.int .i64 x1), (.string x2), (.slice x3a x3l x3c)]⟩), (.pointer env)] g M R RP :=
  fn_soundX (c := (cfg73 RP)) TTok FNSok mixed (.inr rfl) Tryz.func73 (show Tryz.f73.body = some c73 by kernel_rfl) (show Tryz.f73.ntmps = 168 by kernel_rfl) (show Tryz.f73.results.toList = [.tmp 6] by kernel_rfl) rfl ((F73_eq m x0 x1 x2 x3a x3l x3c env g M R RP ).mpr hF)
noncomputable def c93 : Code := match Tryz.f93.body with
  | some c => c
  | none => .skip
noncomputable def cfg93 (RP : List PanicEntry → G → Prop) : Cfg := ⟨Tryz.prog, TT, FNS, [], [], [], TCH, false, false, some RP, PNF, false⟩
def an93 : AnnG := (.seq .leaf .leaf)
def F93 (m : Option Addr) (op : Int) (n : Int) (g : G) (M : Nat → Prop) (R : Value → G → Prop) (RP : List PanicEntry → G → Prop) : Prop :=
  derefP m fun ad => stOk g.w (Addr.add ad 3) 1 ∧ ¬ g.X (Addr.block (Addr.add ad 3)) ∧ mutAt g (Addr.add ad 3) 1 ∧ ((Addr.block (Addr.add ad 3)) < g.w.heap.size → M (Addr.block (Addr.add ad 3))) ∧ ∀ g1 : G, StG false g (Addr.add ad 3) [(.int .i64 op)] g1 →
  derefP m fun ad_1 => stOk g1.w (Addr.add ad_1 4) 1 ∧ ¬ g1.X (Addr.block (Addr.add ad_1 4)) ∧ mutAt g1 (Addr.add ad_1 4) 1 ∧ ((Addr.block (Addr.add ad_1 4)) < g.w.heap.size → M (Addr.block (Addr.add ad_1 4))) ∧ ∀ g2 : G, StG false g1 (Addr.add ad_1 4) [(.int .i64 n)] g2 →
  ∀ g3 : G, Ex g2 g3 →
  RP [{ v := (.iface 129 (.agg ⟨[]⟩)), recovered := false }] g3
theorem F93_eq (m : Option Addr) (op : Int) (n : Int) (g : G) (M : Nat → Prop) (R : Value → G → Prop) (RP : List PanicEntry → G → Prop) : fnG (cfg93 RP) 16 [] c93 an93 [(.pointer m), (.int .i64 op), (.int .i64 n)] g M R = F93 m op n g M R RP := by kernel_rfl
theorem call93 (m : Option Addr) (op : Int) (n : Int) (g : G) (M : Nat → Prop) (R : Value → G → Prop) (RP : List PanicEntry → G → Prop) (hF : F93 m op n g M R RP ) : CallsX Tryz.prog 93 #[(.pointer m), (.int .i64 op), (.int .i64 n)] g M R RP :=
  fn_soundX (c := (cfg93 RP)) TTok FNSok mixed (.inr rfl) Tryz.func93 (show Tryz.f93.body = some c93 by kernel_rfl) (show Tryz.f93.ntmps = 16 by kernel_rfl) (show Tryz.f93.results.toList = [] by kernel_rfl) rfl ((F93_eq m op n g M R RP ).mpr hF)
noncomputable def c94 : Code := match Tryz.f94.body with
  | some c => c
  | none => .skip
noncomputable def cfg94 : Cfg := ⟨Tryz.prog, TT, FNS, [], [], [], TCH, false, false, none, PNF, false⟩
def an94 : AnnG := (.seq .leaf (.seq (.blk (.loop ⟨[(0, .ptr), (1, .int .i64)], [], []⟩ (.seq (.seq .leaf (.cond .leaf .leaf)) (.seq (.blk .leaf) .leaf)))) (.seq .leaf .leaf)))
def F94 (c : Option Addr) (n : Int) (g : G) (R : Value → G → Prop) : Prop :=
  ∃ Inv : Nat → Option Addr → Int → G → Prop, ((∃ m0 : Nat, Inv m0 c n g)) ∧
  ∀ (m : Nat) (c_1 : Option Addr) (n_1 : Int) (g1 : G), Le g g1 → Inv m c_1 n_1 g1 →
  ifB (ltI (0 : Int) n_1)
  (derefP c_1 fun ad => ∃ c_2 : Option Addr, g1.w.cell? (Addr.add ad 1) = some (.pointer c_2) ∧ InI64 (n_1 - (1 : Int)) ∧ (∃ m_1 : Nat, m_1 < m ∧ Inv m_1 c_2 (n_1 - (1 : Int)) g1))
  (derefP c_1 fun ad_1 => ∃ x : Option Addr, g1.w.cell? ad_1 = some (.pointer x) ∧ ∀ g2 : G, Ex g1 g2 →
  R (.pointer x) g2)
theorem F94_eq (c : Option Addr) (n : Int) (g : G) (R : Value → G → Prop) : fnG cfg94 17 [.tmp 4] c94 an94 [(.pointer c), (.int .i64 n)] g nobody R = F94 c n g R := by kernel_rfl
theorem call94 (c : Option Addr) (n : Int) (g : G) (R : Value → G → Prop) (hF : F94 c n g R) : CallsG Tryz.prog 94 #[(.pointer c), (.int .i64 n)] g nobody R :=
  fn_soundG (c := cfg94) TTok FNSok mixed Tryz.func94 (show Tryz.f94.body = some c94 by kernel_rfl) (show Tryz.f94.ntmps = 17 by kernel_rfl) (show Tryz.f94.results.toList = [.tmp 4] by kernel_rfl) rfl ((F94_eq c n g R ).mpr hF)
noncomputable def c95 : Code := match Tryz.f95.body with
  | some c => c
  | none => .skip
noncomputable def cfg95 (RP : List PanicEntry → G → Prop) : Cfg := ⟨Tryz.prog, TT, FNS, [], [], [], TCH, false, false, some RP, PNF, false⟩
def an95 : AnnG := (.seq .leaf (.cond .leaf .leaf))
def F95 (m : Option Addr) (ok : Bool) (g : G) (M : Nat → Prop) (R : Value → G → Prop) (RP : List PanicEntry → G → Prop) : Prop :=
  ifB (!ok)
  (∃ M1 : Nat → Prop, (∀ b, b < g.w.heap.size → M1 b → M b) ∧ (CallsX Tryz.prog 93 #[(.pointer m), (.int .i64 (4 : Int)), (.int .i64 (0 : Int))] g M1 (fun v g1 =>
  v = (.tuple ⟨[]⟩) ∧ ∀ g2 : G, Ex g1 g2 →
  R (.tuple ⟨[]⟩) g2) (fun ch g3 => ∀ g4 : G, Ex g3 g4 → RP ch g4)))
  (∀ g5 : G, Ex g g5 →
  R (.tuple ⟨[]⟩) g5)
theorem F95_eq (m : Option Addr) (ok : Bool) (g : G) (M : Nat → Prop) (R : Value → G → Prop) (RP : List PanicEntry → G → Prop) : fnG (cfg95 RP) 8 [] c95 an95 [(.pointer m), (.bool ok)] g M R = F95 m ok g M R RP := by kernel_rfl
theorem call95 (m : Option Addr) (ok : Bool) (g : G) (M : Nat → Prop) (R : Value → G → Prop) (RP : List PanicEntry → G → Prop) (hF : F95 m ok g M R RP ) : CallsX Tryz.prog 95 #[(.pointer m), (.bool ok)] g M R RP :=
  fn_soundX (c := (cfg95 RP)) TTok FNSok mixed (.inr rfl) Tryz.func95 (show Tryz.f95.body = some c95 by kernel_rfl) (show Tryz.f95.ntmps = 8 by kernel_rfl) (show Tryz.f95.results.toList = [] by kernel_rfl) rfl ((F95_eq m ok g M R RP ).mpr hF)
noncomputable def c96 : Code := match Tryz.f96.body with
  | some c => c
  | none => .skip
noncomputable def cfg96 (RP : List PanicEntry → G → Prop) : Cfg := ⟨Tryz.prog, TT, FNS, [4], [(4, 4), (7, 4), (46, 4), (62, 4), (80, 4), (84, 4), (95, 4), (117, 4)], [43, 50], TCH, false, false, some RP, PNF, false⟩
def an96 : AnnG := (.seq .leaf (.seq (.seq .leaf (.blk (.seq .leaf (.cond (.seq .leaf (.seq (.tree 18 (.quiet 0 (.quiet 1 (.quiet 2 (.quiet 3 (.quiet 4 (.quiet 5 (.quiet 6 (.quiet 7 (.quiet 8 (.quiet 9 (.quiet 10 (.quiet 11 (.quiet 12 (.quiet 13 (.quiet 14 (.quiet 15 (.eff 16 (.eff 17 .fin .fin) .fin)))))))))))))))))) .leaf)) (.seq .leaf (.cond (.seq .leaf .leaf) (.seq .leaf (.cond (.seq .leaf .leaf) (.seq .leaf (.cond (.join ⟨[], [], []⟩ (.tree 20 (.quiet 0 (.quiet 1 (.quiet 2 (.quiet 3 (.quiet 4 (.quiet 5 (.quiet 6 (.quiet 7 (.quiet 8 (.quiet 9 (.quiet 10 (.quiet 11 (.quiet 12 (.quiet 13 (.quiet 14 (.quiet 15 (.quiet 16 (.quiet 17 (.quiet 18 (.quiet 19 .fin))))))))))))))))))))) (.seq (.tree 8 (.quiet 0 (.quiet 1 (.quiet 2 (.quiet 3 (.quiet 4 (.quiet 5 (.quiet 6 (.quiet 7 .fin))))))))) .leaf)) .leaf)))))))))) (.seq (.seq .leaf (.blk (.join ⟨[(86, .bool)], [], []⟩ (.seq .leaf (.cond .leaf (.seq .leaf (.cond .leaf (.seq .leaf (.cond .leaf .leaf)))))) (.cond (.seq .leaf (.seq (.tree 18 (.quiet 0 (.quiet 1 (.quiet 2 (.quiet 3 (.quiet 4 (.quiet 5 (.quiet 6 (.quiet 7 (.quiet 8 (.quiet 9 (.quiet 10 (.quiet 11 (.quiet 12 (.quiet 13 (.quiet 14 (.quiet 15 (.quiet 16 (.quiet 17 .fin))))))))))))))))))) .leaf)) .leaf)))) (.seq .leaf (.seq (.tree 18 (.quiet 0 (.quiet 1 (.quiet 2 (.quiet 3 (.quiet 4 (.quiet 5 (.quiet 6 (.quiet 7 (.quiet 8 (.quiet 9 (.quiet 10 (.quiet 11 (.quiet 12 (.quiet 13 (.quiet 14 (.quiet 15 (.quiet 16 (.quiet 17 .fin))))))))))))))))))) .leaf)))))
def F96 (m : Option Addr) (x0 : Int) (x1 : Int) (x2 : ByteArray) (x3a : Option Addr) (x3l : Nat) (x3c : Nat) (la : Option Addr) (ll : Nat) (lc : Nat) (g : G) (M : Nat → Prop) (R : Value → G → Prop) (RP : List PanicEntry → G → Prop) : Prop :=
  ifB (eqI x0 (5 : Int))
  ((0 ≤ (0 : Int) ∧ (0 : Int) < ((ll : Nat) : Int)) ∧ derefP la fun ad => ∀ g1 : G, Ex g g1 →
  ∃ x : Option Addr, g1.w.cell? (Addr.add ad (Int.toNat (0 : Int) * 1)) = some (.pointer x) ∧ derefP x fun ad_1 => ∃ x_1 : Int, g1.w.cell? ad_1 = some (.int .i64 x_1) ∧ ∃ M2 : Nat → Prop, (∀ b, b < g.w.heap.size → M2 b → M b) ∧ (CallsX Tryz.prog 95 #[(.pointer m), (.bool (eqI x_1 (7 : Int)))] g1 M2 (fun v g2 =>
  v = (.tuple ⟨[]⟩) ∧ ∀ g3 : G, Ex g2 g3 →
  (0 ≤ (0 : Int) ∧ (0 : Int) < ((ll : Nat) : Int)) ∧ derefP la fun ad_2 => ∃ x_2 : Option Addr, g3.w.cell? (Addr.add ad_2 (Int.toNat (0 : Int) * 1)) = some (.pointer x_2) ∧ derefP x_2 fun ad_3 => ∃ (x0_1 x1_1 : Int) (x2_1 : ByteArray) (x3a_1 : Option Addr) (x3l_1 x3c_1 : Nat), g3.w.cell? (Addr.add ad_3 4) = some (.int .i64 x0_1) ∧ g3.w.cell? (Addr.add (Addr.add ad_3 4) 1) = some (.int .i64 x1_1) ∧ g3.w.cell? (Addr.add (Addr.add ad_3 4) 2) = some (.string x2_1) ∧ g3.w.cell? (Addr.add (Addr.add ad_3 4) 3) = some (.slice x3a_1 x3l_1 x3c_1) ∧ (0 ≤ (1 : Int) ∧ (1 : Int) < ((ll : Nat) : Int)) ∧ derefP la fun ad_4 => ∃ x_3 : Option Addr, g3.w.cell? (Addr.add ad_4 (Int.toNat (1 : Int) * 1)) = some (.pointer x_3) ∧ (0 ≤ (0 : Int) ∧ (0 : Int) < ((ll : Nat) : Int)) ∧ derefP la fun ad_5 => ∃ x_4 : Option Addr, g3.w.cell? (Addr.add ad_5 (Int.toNat (0 : Int) * 1)) = some (.pointer x_4) ∧ derefP x_4 fun ad_6 => ∃ x_5 : Option Addr, g3.w.cell? (Addr.add ad_6 8) = some (.pointer x_5) ∧ ∀ g4 : G, NewD g3 g4 157 ([(.pointer x_3), (.pointer x_5)] : List Value) →
  ∃ M1 : Nat → Prop, (∀ b, b < g.w.heap.size → M1 b → M b) ∧ (CallsX Tryz.prog 73 #[(.pointer m), (.agg ⟨[(.int .i64 x0_1), (.int .i64 x1_1), (.string x2_1), (.slice x3a_1 x3l_1 x3c_1)]⟩), (.pointer (some ⟨g3.w.heap.size, 0, none⟩))] g4 M1 (fun v g5 =>
  ∃ x_6 : Option Addr, v = (.pointer x_6) ∧ ∀ g6 : G, Ex g5 g6 →
  R (.pointer x_6) g6) (fun ch g7 => ∀ g8 : G, Ex g7 g8 → RP ch g8))) (fun ch g9 => ∀ g10 : G, Ex g9 g10 → RP ch g10)))
  (ifB (eqI x0 (6 : Int))
  (∀ g11 : G, Ex g g11 →
  ∀ g12 : G, NewL g11 g12 154 ([(.int .i64 (3 : Int)), (.int .i64 (0 : Int)), (.string (bs [])), (.slice la ll lc), (.int .i64 (0 : Int)), (.int .i64 (0 : Int)), (.string (bs [])), (.slice none 0 0), (.pointer none)] : List Value) →
  ∀ g13 : G, Ex g12 g13 →
  R (.pointer (some ⟨g11.w.heap.size, 0, none⟩)) g13)
  (ifB (eqI x0 (8 : Int))
  (∀ g14 : G, Ex g g14 →
  ∀ g15 : G, NewL g14 g15 154 ([(.int .i64 (4 : Int)), (.int .i64 x1), (.string (bs [])), (.slice la ll lc), (.int .i64 (0 : Int)), (.int .i64 (0 : Int)), (.string (bs [])), (.slice none 0 0), (.pointer none)] : List Value) →
  ∀ g16 : G, Ex g15 g16 →
  R (.pointer (some ⟨g14.w.heap.size, 0, none⟩)) g16)
  (ifB (eqI x0 (7 : Int))
  (∀ J : G → Prop,
  (∀ g17 : G, (∀ g18 : G, Ex g17 g18 →
  (0 ≤ (0 : Int) ∧ (0 : Int) < ((ll : Nat) : Int)) ∧ derefP la fun ad_7 => ∃ x_7 : Option Addr, g18.w.cell? (Addr.add ad_7 (Int.toNat (0 : Int) * 1)) = some (.pointer x_7) ∧ derefP x_7 fun ad_8 => ∃ (xa : Option Addr) (xl xc : Nat), g18.w.cell? (Addr.add ad_8 3) = some (.slice xa xl xc) ∧ (0 ≤ x1 ∧ x1 < ((xl : Nat) : Int)) ∧ derefP xa fun ad_9 => ∃ x_8 : Option Addr, g18.w.cell? (Addr.add ad_9 (Int.toNat x1 * 1)) = some (.pointer x_8) ∧ ∀ g19 : G, Ex g18 g19 →
  R (.pointer x_8) g19) → J g17) →
  ∀ g20 : G, Ex g g20 →
  (0 ≤ (0 : Int) ∧ (0 : Int) < ((ll : Nat) : Int)) ∧ derefP la fun ad_10 => ∃ x_9 : Option Addr, g20.w.cell? (Addr.add ad_10 (Int.toNat (0 : Int) * 1)) = some (.pointer x_9) ∧ derefP x_9 fun ad_11 => ∃ x_10 : Int, g20.w.cell? ad_11 = some (.int .i64 x_10) ∧ ifB (eqI x_10 (3 : Int))
  ((0 ≤ (0 : Int) ∧ (0 : Int) < ((ll : Nat) : Int)) ∧ derefP la fun ad_12 => ∃ x_11 : Option Addr, g20.w.cell? (Addr.add ad_12 (Int.toNat (0 : Int) * 1)) = some (.pointer x_11) ∧ derefP x_11 fun ad_13 => ∃ (xa_1 : Option Addr) (xl_1 xc_1 : Nat), g20.w.cell? (Addr.add ad_13 3) = some (.slice xa_1 xl_1 xc_1) ∧ ∃ M3 : Nat → Prop, (∀ b, b < g.w.heap.size → M3 b → M b) ∧ (CallsX Tryz.prog 95 #[(.pointer m), (.bool (ltI x1 ((xl_1 : Nat) : Int)))] g20 M3 (fun v g21 =>
  v = (.tuple ⟨[]⟩) ∧ J g21) (fun ch g22 => ∀ g23 : G, Ex g22 g23 → RP ch g23)))
  (∃ M4 : Nat → Prop, (∀ b, b < g.w.heap.size → M4 b → M b) ∧ (CallsX Tryz.prog 95 #[(.pointer m), (.bool false)] g20 M4 (fun v g24 =>
  v = (.tuple ⟨[]⟩) ∧ J g24) (fun ch g25 => ∀ g26 : G, Ex g25 g26 → RP ch g26))))
  (∀ J_1 : Bool → G → Prop,
  (∀ (v_1 : Bool) (g27 : G), (ifB v_1
  (∃ M6 : Nat → Prop, (∀ b, b < g.w.heap.size → M6 b → M b) ∧ (CallsX Tryz.prog 116 #[(.pointer m), (.slice la ll lc), (.int .i64 (2 : Int))] g27 M6 (fun v g28 =>
  v = (.tuple ⟨[]⟩) ∧ ∀ g29 : G, Ex g28 g29 →
  (0 ≤ (0 : Int) ∧ (0 : Int) < ((ll : Nat) : Int)) ∧ derefP la fun ad_14 => ∃ x_12 : Option Addr, g29.w.cell? (Addr.add ad_14 (Int.toNat (0 : Int) * 1)) = some (.pointer x_12) ∧ derefP x_12 fun ad_15 => ∃ x_13 : ByteArray, g29.w.cell? (Addr.add ad_15 2) = some (.string x_13) ∧ InI64 (((ll : Nat) : Int) - (1 : Int)) ∧ (0 ≤ (((ll : Nat) : Int) - (1 : Int)) ∧ (((ll : Nat) : Int) - (1 : Int)) < ((ll : Nat) : Int)) ∧ derefP la fun ad_16 => ∃ x_14 : Option Addr, g29.w.cell? (Addr.add ad_16 (Int.toNat (((ll : Nat) : Int) - (1 : Int)) * 1)) = some (.pointer x_14) ∧ derefP x_14 fun ad_17 => ∃ x_15 : ByteArray, g29.w.cell? (Addr.add ad_17 2) = some (.string x_15) ∧ ∃ M5 : Nat → Prop, (∀ b, b < g.w.heap.size → M5 b → M b) ∧ (CallsX Tryz.prog 117 #[(.pointer m), (.int .i64 x1), (.string x_13), (.string x_15)] g29 M5 (fun v g30 =>
  ∃ x_16 : Option Addr, v = (.pointer x_16) ∧ ∀ g31 : G, Ex g30 g31 →
  R (.pointer x_16) g31) (fun ch g32 => ∀ g33 : G, Ex g32 g33 → RP ch g33))) (fun ch g34 => ∀ g35 : G, Ex g34 g35 → RP ch g35)))
  (∃ M8 : Nat → Prop, (∀ b, b < g.w.heap.size → M8 b → M b) ∧ (CallsX Tryz.prog 116 #[(.pointer m), (.slice la ll lc), (.int .i64 (1 : Int))] g27 M8 (fun v g36 =>
  v = (.tuple ⟨[]⟩) ∧ ∀ g37 : G, Ex g36 g37 →
  (0 ≤ (0 : Int) ∧ (0 : Int) < ((ll : Nat) : Int)) ∧ derefP la fun ad_18 => ∃ x_17 : Option Addr, g37.w.cell? (Addr.add ad_18 (Int.toNat (0 : Int) * 1)) = some (.pointer x_17) ∧ derefP x_17 fun ad_19 => ∃ x_18 : Int, g37.w.cell? (Addr.add ad_19 1) = some (.int .i64 x_18) ∧ InI64 (((ll : Nat) : Int) - (1 : Int)) ∧ (0 ≤ (((ll : Nat) : Int) - (1 : Int)) ∧ (((ll : Nat) : Int) - (1 : Int)) < ((ll : Nat) : Int)) ∧ derefP la fun ad_20 => ∃ x_19 : Option Addr, g37.w.cell? (Addr.add ad_20 (Int.toNat (((ll : Nat) : Int) - (1 : Int)) * 1)) = some (.pointer x_19) ∧ derefP x_19 fun ad_21 => ∃ x_20 : Int, g37.w.cell? (Addr.add ad_21 1) = some (.int .i64 x_20) ∧ ∃ M7 : Nat → Prop, (∀ b, b < g.w.heap.size → M7 b → M b) ∧ (CallsX Tryz.prog 118 #[(.pointer m), (.int .i64 x1), (.int .i64 x_18), (.int .i64 x_20)] g37 M7 (fun v g38 =>
  ∃ x_21 : Option Addr, v = (.pointer x_21) ∧ ∀ g39 : G, Ex g38 g39 →
  R (.pointer x_21) g39) (fun ch g40 => ∀ g41 : G, Ex g40 g41 → RP ch g41))) (fun ch g42 => ∀ g43 : G, Ex g42 g43 → RP ch g43)))) → J_1 v_1 g27) →
  ifB (eqI x1 (10 : Int))
  (∀ g44 : G, Ex g g44 →
  J_1 true g44)
  (ifB (eqI x1 (11 : Int))
  (∀ g45 : G, Ex g g45 →
  J_1 true g45)
  (ifB (eqI x1 (12 : Int))
  (∀ g46 : G, Ex g g46 →
  J_1 true g46)
  (∀ g47 : G, Ex g g47 →
  J_1 (eqI x1 (14 : Int)) g47)))))))
theorem F96_eq (m : Option Addr) (x0 : Int) (x1 : Int) (x2 : ByteArray) (x3a : Option Addr) (x3l : Nat) (x3c : Nat) (la : Option Addr) (ll : Nat) (lc : Nat) (g : G) (M : Nat → Prop) (R : Value → G → Prop) (RP : List PanicEntry → G → Prop) : fnG (cfg96 RP) 135 [.tmp 6] c96 an96 [(.pointer m), (.agg ⟨[(.int .i64 x0), (.int .i64 x1), (.string x2), (.slice x3a x3l x3c)]⟩), (.slice la ll lc)] g M R = F96 m x0 x1 x2 x3a x3l x3c la ll lc g M R RP := by kernel_rfl
theorem call96 (m : Option Addr) (x0 : Int) (x1 : Int) (x2 : ByteArray) (x3a : Option Addr) (x3l : Nat) (x3c : Nat) (la : Option Addr) (ll : Nat) (lc : Nat) (g : G) (M : Nat → Prop) (R : Value → G → Prop) (RP : List PanicEntry → G → Prop) (hF : F96 m x0 x1 x2 x3a x3l x3c la ll lc g M R RP ) : CallsX Tryz.prog 96 #[(.pointer m), (.agg ⟨[(.int .i64 x0), (.int .i64 x1), (.string x2), (.slice x3a x3l x3c)]⟩), (.slice la ll lc)] g M R RP :=
  fn_soundX (c := (cfg96 RP)) TTok FNSok mixed (.inr rfl) Tryz.func96 (show Tryz.f96.body = some c96 by kernel_rfl) (show Tryz.f96.ntmps = 135 by kernel_rfl) (show Tryz.f96.results.toList = [.tmp 6] by kernel_rfl) rfl ((F96_eq m x0 x1 x2 x3a x3l x3c la ll lc g M R RP ).mpr hF)
noncomputable def c116 : Code := match Tryz.f116.body with
  | some c => c
  | none => .skip
noncomputable def cfg116 (RP : List PanicEntry → G → Prop) : Cfg := ⟨Tryz.prog, TT, FNS, [], [], [], TCH, false, false, some RP, PNF, false⟩
def an116 : AnnG := (.seq .leaf (.blk (.loop ⟨[(10, .int .i64)], [], []⟩ (.seq .leaf (.seq (.cond .leaf .leaf) (.seq (.blk (.seq .leaf .leaf)) .leaf))))))
def F116 (m : Option Addr) (la : Option Addr) (ll : Nat) (lc : Nat) (op : Int) (g : G) (M : Nat → Prop) (R : Value → G → Prop) (RP : List PanicEntry → G → Prop) : Prop :=
  ∃ Inv : Nat → Int → G → Prop, ((∃ m0 : Nat, Inv m0 (0 : Int) g)) ∧
  ∀ (m_1 : Nat) (v_1 : Int) (g1 : G), Le g g1 → Inv m_1 v_1 g1 →
  ifB (ltI v_1 ((ll : Nat) : Int))
  ((0 ≤ v_1 ∧ v_1 < ((ll : Nat) : Int)) ∧ derefP la fun ad => ∃ v_2 : Option Addr, g1.w.cell? (Addr.add ad (Int.toNat v_1 * 1)) = some (.pointer v_2) ∧ derefP v_2 fun ad_1 => ∃ x : Int, g1.w.cell? ad_1 = some (.int .i64 x) ∧ ∃ M1 : Nat → Prop, (∀ b, b < g.w.heap.size → M1 b → M b) ∧ (CallsX Tryz.prog 95 #[(.pointer m), (.bool (eqI x op))] g1 M1 (fun v g2 =>
  v = (.tuple ⟨[]⟩) ∧ InI64 (v_1 + (1 : Int)) ∧ (∃ m_2 : Nat, m_2 < m_1 ∧ Inv m_2 (v_1 + (1 : Int)) g2)) (fun ch g3 => ∀ g4 : G, Ex g3 g4 → RP ch g4)))
  (∀ g5 : G, Ex g1 g5 →
  R (.tuple ⟨[]⟩) g5)
theorem F116_eq (m : Option Addr) (la : Option Addr) (ll : Nat) (lc : Nat) (op : Int) (g : G) (M : Nat → Prop) (R : Value → G → Prop) (RP : List PanicEntry → G → Prop) : fnG (cfg116 RP) 23 [] c116 an116 [(.pointer m), (.slice la ll lc), (.int .i64 op)] g M R = F116 m la ll lc op g M R RP := by kernel_rfl
theorem call116 (m : Option Addr) (la : Option Addr) (ll : Nat) (lc : Nat) (op : Int) (g : G) (M : Nat → Prop) (R : Value → G → Prop) (RP : List PanicEntry → G → Prop) (hF : F116 m la ll lc op g M R RP ) : CallsX Tryz.prog 116 #[(.pointer m), (.slice la ll lc), (.int .i64 op)] g M R RP :=
  fn_soundX (c := (cfg116 RP)) TTok FNSok mixed (.inr rfl) Tryz.func116 (show Tryz.f116.body = some c116 by kernel_rfl) (show Tryz.f116.ntmps = 23 by kernel_rfl) (show Tryz.f116.results.toList = [] by kernel_rfl) rfl ((F116_eq m la ll lc op g M R RP ).mpr hF)
noncomputable def c117 : Code := match Tryz.f117.body with
  | some c => c
  | none => .skip
noncomputable def cfg117 (RP : List PanicEntry → G → Prop) : Cfg := ⟨Tryz.prog, TT, FNS, [], [], [36], TCH, false, false, some RP, PNF, false⟩
def an117 : AnnG := (.seq .leaf (.seq (.seq .leaf (.blk (.seq .leaf (.cond (.seq .leaf .leaf) (.seq .leaf (.cond (.seq .leaf .leaf) (.seq .leaf (.cond (.seq (.seq .leaf (.cond .leaf .leaf)) (.seq .leaf .leaf)) .leaf)))))))) (.join ⟨[], [], []⟩ (.seq .leaf (.cond .leaf .leaf)) (.seq .leaf (.seq .leaf .leaf)))))
def F117 (m : Option Addr) (op : Int) (a : ByteArray) (b : ByteArray) (g : G) (M : Nat → Prop) (R : Value → G → Prop) (RP : List PanicEntry → G → Prop) : Prop :=
  ifB (eqI op (11 : Int))
  (∃ M1 : Nat → Prop, (∀ b, b < g.w.heap.size → M1 b → M b) ∧ (CallsX Tryz.prog 128 #[(.pointer m), (.int .i64 ((a.size : Nat) : Int))] g M1 (fun v g1 =>
  ∃ x : Option Addr, v = (.pointer x) ∧ ∀ g2 : G, Ex g1 g2 →
  R (.pointer x) g2) (fun ch g3 => ∀ g4 : G, Ex g3 g4 → RP ch g4)))
  (ifB (eqI op (12 : Int))
  ((CallsP Tryz.prog 129 #[(.bool (strEq a b))] g fun v g5 =>
  ∃ x_1 : Option Addr, v = (.pointer x_1) ∧ ∀ g6 : G, Ex g5 g6 →
  R (.pointer x_1) g6))
  (ifB (eqI op (10 : Int))
  (InI64 (((a.size : Nat) : Int) + ((b.size : Nat) : Int)) ∧ ifB (ltI (16384 : Int) (((a.size : Nat) : Int) + ((b.size : Nat) : Int)))
  (∃ M2 : Nat → Prop, (∀ b, b < g.w.heap.size → M2 b → M b) ∧ (CallsX Tryz.prog 93 #[(.pointer m), (.int .i64 (2 : Int)), (.int .i64 (2 : Int))] g M2 (fun v g7 =>
  v = (.tuple ⟨[]⟩) ∧ a.size + b.size ≤ 9223372036854775807 ∧ ∀ g8 : G, NewL g7 g8 154 ([(.int .i64 (2 : Int)), (.int .i64 (0 : Int)), (.string (a ++ b)), (.slice none 0 0), (.int .i64 (0 : Int)), (.int .i64 (0 : Int)), (.string (bs [])), (.slice none 0 0), (.pointer none)] : List Value) →
  ∀ g9 : G, Ex g8 g9 →
  R (.pointer (some ⟨g7.w.heap.size, 0, none⟩)) g9) (fun ch g10 => ∀ g11 : G, Ex g10 g11 → RP ch g11)))
  (a.size + b.size ≤ 9223372036854775807 ∧ ∀ g12 : G, NewL g g12 154 ([(.int .i64 (2 : Int)), (.int .i64 (0 : Int)), (.string (a ++ b)), (.slice none 0 0), (.int .i64 (0 : Int)), (.int .i64 (0 : Int)), (.string (bs [])), (.slice none 0 0), (.pointer none)] : List Value) →
  ∀ g13 : G, Ex g12 g13 →
  R (.pointer (some ⟨g.w.heap.size, 0, none⟩)) g13))
  (∀ J : G → Prop,
  (∀ g14 : G, (derefP m fun ad => ∃ (xa : Option Addr) (xl xc : Nat), g14.w.cell? (Addr.add ad 2) = some (.slice xa xl xc) ∧ ∀ g15 : G, NewL g14 g15 9 [(.string a)] →
  ∃ (xa_1 : Option Addr) (xl_1 xc_1 : Nat) (wo1 : World), Sem.run Tryz.prog (Builtin.append_ #[25, 25] 25 #[(.slice xa xl xc), (.slice (some ⟨g14.w.heap.size, 0, none⟩) 1 1)]) g15.w = .ok (.slice xa_1 xl_1 xc_1) wo1 ∧ ∃ g16 : G, g16.w = wo1 ∧ Stp g.w.heap.size M g15 g16 ∧ derefP m fun ad_1 => stOk g16.w (Addr.add ad_1 2) 1 ∧ ¬ g16.X (Addr.block (Addr.add ad_1 2)) ∧ mutAt g16 (Addr.add ad_1 2) 1 ∧ ((Addr.block (Addr.add ad_1 2)) < g.w.heap.size → M (Addr.block (Addr.add ad_1 2))) ∧ ∀ g17 : G, StG false g16 (Addr.add ad_1 2) [(.slice xa_1 xl_1 xc_1)] g17 →
  (CallsP Tryz.prog 130 #[] g17 fun v g18 =>
  ∃ x_2 : Option Addr, v = (.pointer x_2) ∧ ∀ g19 : G, Ex g18 g19 →
  R (.pointer x_2) g19)) → J g14) →
  derefP m fun ad_2 => ∃ (xa_2 : Option Addr) (xl_2 xc_2 : Nat), g.w.cell? (Addr.add ad_2 2) = some (.slice xa_2 xl_2 xc_2) ∧ ifB (leI (1000 : Int) ((xl_2 : Nat) : Int))
  (∃ M3 : Nat → Prop, (∀ b, b < g.w.heap.size → M3 b → M b) ∧ (CallsX Tryz.prog 93 #[(.pointer m), (.int .i64 (2 : Int)), (.int .i64 (2 : Int))] g M3 (fun v g20 =>
  v = (.tuple ⟨[]⟩) ∧ J g20) (fun ch g21 => ∀ g22 : G, Ex g21 g22 → RP ch g22)))
  (J g))))
theorem F117_eq (m : Option Addr) (op : Int) (a : ByteArray) (b : ByteArray) (g : G) (M : Nat → Prop) (R : Value → G → Prop) (RP : List PanicEntry → G → Prop) : fnG (cfg117 RP) 56 [.tmp 8] c117 an117 [(.pointer m), (.int .i64 op), (.string a), (.string b)] g M R = F117 m op a b g M R RP := by kernel_rfl
theorem call117 (m : Option Addr) (op : Int) (a : ByteArray) (b : ByteArray) (g : G) (M : Nat → Prop) (R : Value → G → Prop) (RP : List PanicEntry → G → Prop) (hF : F117 m op a b g M R RP ) : CallsX Tryz.prog 117 #[(.pointer m), (.int .i64 op), (.string a), (.string b)] g M R RP :=
  fn_soundX (c := (cfg117 RP)) TTok FNSok mixed (.inr rfl) Tryz.func117 (show Tryz.f117.body = some c117 by kernel_rfl) (show Tryz.f117.ntmps = 56 by kernel_rfl) (show Tryz.f117.results.toList = [.tmp 8] by kernel_rfl) rfl ((F117_eq m op a b g M R RP ).mpr hF)
noncomputable def c118 : Code := match Tryz.f118.body with
  | some c => c
  | none => .skip
noncomputable def cfg118 (RP : List PanicEntry → G → Prop) : Cfg := ⟨Tryz.prog, TT, FNS, [], [], [59], TCH, false, false, some RP, PNF, false⟩
def an118 : AnnG := (.seq .leaf (.seq (.seq .leaf (.blk (.seq .leaf (.cond (.seq .leaf .leaf) (.seq .leaf (.cond (.seq .leaf .leaf) (.seq .leaf (.cond (.seq .leaf .leaf) (.seq .leaf (.cond (.seq .leaf .leaf) (.seq .leaf (.cond (.seq .leaf .leaf) (.seq .leaf (.cond (.seq .leaf .leaf) (.seq .leaf (.cond (.seq .leaf .leaf) (.seq .leaf (.cond (.seq .leaf .leaf) .leaf)))))))))))))))))) (.join ⟨[], [], []⟩ (.seq .leaf (.cond .leaf .leaf)) (.seq (.seq .leaf (.cond (.seq .leaf .leaf) .leaf)) (.seq .leaf .leaf)))))
def F118 (m : Option Addr) (op : Int) (a : Int) (b : Int) (g : G) (M : Nat → Prop) (R : Value → G → Prop) (RP : List PanicEntry → G → Prop) : Prop :=
  ifB (eqI op (1 : Int))
  (InI64 (a + b) ∧ ∃ M1 : Nat → Prop, (∀ b, b < g.w.heap.size → M1 b → M b) ∧ (CallsX Tryz.prog 128 #[(.pointer m), (.int .i64 (a + b))] g M1 (fun v g1 =>
  ∃ x : Option Addr, v = (.pointer x) ∧ ∀ g2 : G, Ex g1 g2 →
  R (.pointer x) g2) (fun ch g3 => ∀ g4 : G, Ex g3 g4 → RP ch g4)))
  (ifB (eqI op (2 : Int))
  (InI64 (a - b) ∧ ∃ M2 : Nat → Prop, (∀ b, b < g.w.heap.size → M2 b → M b) ∧ (CallsX Tryz.prog 128 #[(.pointer m), (.int .i64 (a - b))] g M2 (fun v g5 =>
  ∃ x_1 : Option Addr, v = (.pointer x_1) ∧ ∀ g6 : G, Ex g5 g6 →
  R (.pointer x_1) g6) (fun ch g7 => ∀ g8 : G, Ex g7 g8 → RP ch g8)))
  (ifB (eqI op (3 : Int))
  (∃ M3 : Nat → Prop, (∀ b, b < g.w.heap.size → M3 b → M b) ∧ (CallsX Tryz.prog 131 #[(.pointer m), (.int .i64 a), (.int .i64 b)] g M3 (fun v g9 =>
  ∃ x_2 : Option Addr, v = (.pointer x_2) ∧ ∀ g10 : G, Ex g9 g10 →
  R (.pointer x_2) g10) (fun ch g11 => ∀ g12 : G, Ex g11 g12 → RP ch g12)))
  (ifB (eqI op (6 : Int))
  (InI64 ((0 : Int) - a) ∧ ∃ M4 : Nat → Prop, (∀ b, b < g.w.heap.size → M4 b → M b) ∧ (CallsX Tryz.prog 128 #[(.pointer m), (.int .i64 ((0 : Int) - a))] g M4 (fun v g13 =>
  ∃ x_3 : Option Addr, v = (.pointer x_3) ∧ ∀ g14 : G, Ex g13 g14 →
  R (.pointer x_3) g14) (fun ch g15 => ∀ g16 : G, Ex g15 g16 → RP ch g16)))
  (ifB (eqI op (7 : Int))
  ((CallsP Tryz.prog 129 #[(.bool (ltI a b))] g fun v g17 =>
  ∃ x_4 : Option Addr, v = (.pointer x_4) ∧ ∀ g18 : G, Ex g17 g18 →
  R (.pointer x_4) g18))
  (ifB (eqI op (8 : Int))
  ((CallsP Tryz.prog 129 #[(.bool (leI a b))] g fun v g19 =>
  ∃ x_5 : Option Addr, v = (.pointer x_5) ∧ ∀ g20 : G, Ex g19 g20 →
  R (.pointer x_5) g20))
  (ifB (eqI op (9 : Int))
  ((CallsP Tryz.prog 129 #[(.bool (eqI a b))] g fun v g21 =>
  ∃ x_6 : Option Addr, v = (.pointer x_6) ∧ ∀ g22 : G, Ex g21 g22 →
  R (.pointer x_6) g22))
  (ifB (eqI op (13 : Int))
  ((CallsP Tryz.prog 102 #[(.int .i64 a)] g fun v g23 =>
  ∃ x_7 : ByteArray, v = (.string x_7) ∧ ∀ g24 : G, NewL g23 g24 154 ([(.int .i64 (2 : Int)), (.int .i64 (0 : Int)), (.string x_7), (.slice none 0 0), (.int .i64 (0 : Int)), (.int .i64 (0 : Int)), (.string (bs [])), (.slice none 0 0), (.pointer none)] : List Value) →
  ∀ g25 : G, Ex g24 g25 →
  R (.pointer (some ⟨g23.w.heap.size, 0, none⟩)) g25))
  (∀ J : G → Prop,
  (∀ g26 : G, (ifB (eqI op (4 : Int))
  (b ≠ 0 ∧ InI64 (Int.tdiv a b) ∧ ∃ M5 : Nat → Prop, (∀ b, b < g.w.heap.size → M5 b → M b) ∧ (CallsX Tryz.prog 128 #[(.pointer m), (.int .i64 (Int.tdiv a b))] g26 M5 (fun v g27 =>
  ∃ x_8 : Option Addr, v = (.pointer x_8) ∧ ∀ g28 : G, Ex g27 g28 →
  R (.pointer x_8) g28) (fun ch g29 => ∀ g30 : G, Ex g29 g30 → RP ch g30)))
  (b ≠ 0 ∧ ∃ M6 : Nat → Prop, (∀ b, b < g.w.heap.size → M6 b → M b) ∧ (CallsX Tryz.prog 128 #[(.pointer m), (.int .i64 (Int.tmod a b))] g26 M6 (fun v g31 =>
  ∃ x_9 : Option Addr, v = (.pointer x_9) ∧ ∀ g32 : G, Ex g31 g32 →
  R (.pointer x_9) g32) (fun ch g33 => ∀ g34 : G, Ex g33 g34 → RP ch g34)))) → J g26) →
  ifB (eqI b (0 : Int))
  (∃ M7 : Nat → Prop, (∀ b, b < g.w.heap.size → M7 b → M b) ∧ (CallsX Tryz.prog 93 #[(.pointer m), (.int .i64 (2 : Int)), (.int .i64 (3 : Int))] g M7 (fun v g35 =>
  v = (.tuple ⟨[]⟩) ∧ J g35) (fun ch g36 => ∀ g37 : G, Ex g36 g37 → RP ch g37)))
  (J g)))))))))
theorem F118_eq (m : Option Addr) (op : Int) (a : Int) (b : Int) (g : G) (M : Nat → Prop) (R : Value → G → Prop) (RP : List PanicEntry → G → Prop) : fnG (cfg118 RP) 76 [.tmp 8] c118 an118 [(.pointer m), (.int .i64 op), (.int .i64 a), (.int .i64 b)] g M R = F118 m op a b g M R RP := by kernel_rfl
theorem call118 (m : Option Addr) (op : Int) (a : Int) (b : Int) (g : G) (M : Nat → Prop) (R : Value → G → Prop) (RP : List PanicEntry → G → Prop) (hF : F118 m op a b g M R RP ) : CallsX Tryz.prog 118 #[(.pointer m), (.int .i64 op), (.int .i64 a), (.int .i64 b)] g M R RP :=
  fn_soundX (c := (cfg118 RP)) TTok FNSok mixed (.inr rfl) Tryz.func118 (show Tryz.f118.body = some c118 by kernel_rfl) (show Tryz.f118.ntmps = 76 by kernel_rfl) (show Tryz.f118.results.toList = [.tmp 8] by kernel_rfl) rfl ((F118_eq m op a b g M R RP ).mpr hF)
noncomputable def c128 : Code := match Tryz.f128.body with
  | some c => c
  | none => .skip
noncomputable def cfg128 (RP : List PanicEntry → G → Prop) : Cfg := ⟨Tryz.prog, TT, FNS, [], [], [12], TCH, false, false, some RP, PNF, false⟩
def an128 : AnnG := (.seq .leaf (.seq (.seq .leaf (.cond .leaf .leaf)) (.seq .leaf .leaf)))
def F128 (m : Option Addr) (n : Int) (g : G) (M : Nat → Prop) (R : Value → G → Prop) (RP : List PanicEntry → G → Prop) : Prop :=
  (CallsP Tryz.prog 120 #[(.int .i64 n), (.int .i64 (-4503599627370496 : Int)), (.int .i64 (4503599627370496 : Int))] g fun v g1 =>
  ∃ x : Bool, v = (.bool x) ∧ ifB (!x)
  (∃ M1 : Nat → Prop, (∀ b, b < g.w.heap.size → M1 b → M b) ∧ (CallsX Tryz.prog 93 #[(.pointer m), (.int .i64 (2 : Int)), (.int .i64 (2 : Int))] g1 M1 (fun v g2 =>
  v = (.tuple ⟨[]⟩) ∧ ∀ g3 : G, NewL g2 g3 154 ([(.int .i64 (1 : Int)), (.int .i64 n), (.string (bs [])), (.slice none 0 0), (.int .i64 (0 : Int)), (.int .i64 (0 : Int)), (.string (bs [])), (.slice none 0 0), (.pointer none)] : List Value) →
  ∀ g4 : G, Ex g3 g4 →
  R (.pointer (some ⟨g2.w.heap.size, 0, none⟩)) g4) (fun ch g5 => ∀ g6 : G, Ex g5 g6 → RP ch g6)))
  (∀ g7 : G, NewL g1 g7 154 ([(.int .i64 (1 : Int)), (.int .i64 n), (.string (bs [])), (.slice none 0 0), (.int .i64 (0 : Int)), (.int .i64 (0 : Int)), (.string (bs [])), (.slice none 0 0), (.pointer none)] : List Value) →
  ∀ g8 : G, Ex g7 g8 →
  R (.pointer (some ⟨g1.w.heap.size, 0, none⟩)) g8))
theorem F128_eq (m : Option Addr) (n : Int) (g : G) (M : Nat → Prop) (R : Value → G → Prop) (RP : List PanicEntry → G → Prop) : fnG (cfg128 RP) 13 [.tmp 4] c128 an128 [(.pointer m), (.int .i64 n)] g M R = F128 m n g M R RP := by kernel_rfl
theorem call128 (m : Option Addr) (n : Int) (g : G) (M : Nat → Prop) (R : Value → G → Prop) (RP : List PanicEntry → G → Prop) (hF : F128 m n g M R RP ) : CallsX Tryz.prog 128 #[(.pointer m), (.int .i64 n)] g M R RP :=
  fn_soundX (c := (cfg128 RP)) TTok FNSok mixed (.inr rfl) Tryz.func128 (show Tryz.f128.body = some c128 by kernel_rfl) (show Tryz.f128.ntmps = 13 by kernel_rfl) (show Tryz.f128.results.toList = [.tmp 4] by kernel_rfl) rfl ((F128_eq m n g M R RP ).mpr hF)
noncomputable def c129 : Code := match Tryz.f129.body with
  | some c => c
  | none => .skip
noncomputable def cfg129 : Cfg := ⟨Tryz.prog, TT, FNS, [], [], [], TCH, false, false, none, PNF, false⟩
def an129 : AnnG := (.seq .leaf (.seq .leaf (.seq (.seq .leaf (.cond .leaf .leaf)) (.seq .leaf .leaf))))
def F129 (b : Bool) (g : G) (R : Value → G → Prop) : Prop :=
  (CallsP Tryz.prog 130 #[] g fun v g1 =>
  ∃ x : Option Addr, v = (.pointer x) ∧ ∀ g2 : G, NewL g1 g2 132 [(.pointer x)] →
  ∀ g3 : G, NewD g2 g3 154 ([(.int .i64 (4 : Int)), (.int .i64 (0 : Int)), (.string (bs [])), (.slice (some ⟨g1.w.heap.size, 0, none⟩) 1 1), (.int .i64 (0 : Int)), (.int .i64 (0 : Int)), (.string (bs [])), (.slice none 0 0), (.pointer none)] : List Value) →
  ifB b
  (stOk g3.w (Addr.add ⟨g2.w.heap.size, 0, none⟩ 1) 1 ∧ ¬ g3.X (Addr.block (Addr.add ⟨g2.w.heap.size, 0, none⟩ 1)) ∧ mutAt g3 (Addr.add ⟨g2.w.heap.size, 0, none⟩ 1) 1 ∧ ((Addr.block (Addr.add ⟨g2.w.heap.size, 0, none⟩ 1)) < g.w.heap.size → nobody (Addr.block (Addr.add ⟨g2.w.heap.size, 0, none⟩ 1))) ∧ ∀ g4 : G, StG false g3 (Addr.add ⟨g2.w.heap.size, 0, none⟩ 1) [(.int .i64 (1 : Int))] g4 →
  ∀ g5 : G, Ex g4 g5 →
  R (.pointer (some ⟨g2.w.heap.size, 0, none⟩)) g5)
  (∀ g6 : G, Ex g3 g6 →
  R (.pointer (some ⟨g2.w.heap.size, 0, none⟩)) g6))
theorem F129_eq (b : Bool) (g : G) (R : Value → G → Prop) : fnG cfg129 13 [.tmp 2] c129 an129 [(.bool b)] g nobody R = F129 b g R := by kernel_rfl
theorem call129 (b : Bool) (g : G) (R : Value → G → Prop) (hF : F129 b g R) : CallsG Tryz.prog 129 #[(.bool b)] g nobody R :=
  fn_soundG (c := cfg129) TTok FNSok mixed Tryz.func129 (show Tryz.f129.body = some c129 by kernel_rfl) (show Tryz.f129.ntmps = 13 by kernel_rfl) (show Tryz.f129.results.toList = [.tmp 2] by kernel_rfl) rfl ((F129_eq b g R ).mpr hF)
noncomputable def c130 : Code := match Tryz.f130.body with
  | some c => c
  | none => .skip
noncomputable def cfg130 : Cfg := ⟨Tryz.prog, TT, FNS, [], [], [2], TCH, false, false, none, PNF, false⟩
def an130 : AnnG := (.seq .leaf (.seq .leaf .leaf))
def F130 (g : G) (R : Value → G → Prop) : Prop :=
  ∀ g1 : G, NewL g g1 154 ([(.int .i64 (3 : Int)), (.int .i64 (0 : Int)), (.string (bs [])), (.slice none 0 0), (.int .i64 (0 : Int)), (.int .i64 (0 : Int)), (.string (bs [])), (.slice none 0 0), (.pointer none)] : List Value) →
  ∀ g2 : G, Ex g1 g2 →
  R (.pointer (some ⟨g.w.heap.size, 0, none⟩)) g2
theorem F130_eq (g : G) (R : Value → G → Prop) : fnG cfg130 3 [.tmp 0] c130 an130 [] g nobody R = F130 g R := by kernel_rfl
theorem call130 (g : G) (R : Value → G → Prop) (hF : F130 g R) : CallsG Tryz.prog 130 #[] g nobody R :=
  fn_soundG (c := cfg130) TTok FNSok mixed Tryz.func130 (show Tryz.f130.body = some c130 by kernel_rfl) (show Tryz.f130.ntmps = 3 by kernel_rfl) (show Tryz.f130.results.toList = [.tmp 0] by kernel_rfl) rfl ((F130_eq g R ).mpr hF)
noncomputable def c131 : Code := match Tryz.f131.body with
  | some c => c
  | none => .skip
noncomputable def cfg131 (RP : List PanicEntry → G → Prop) : Cfg := ⟨Tryz.prog, TT, FNS, [], [], [], TCH, false, false, some RP, PNF, false⟩
def an131 : AnnG := (.seq .leaf (.join ⟨[], [], []⟩ (.seq .leaf (.cond .leaf .leaf)) (.seq .leaf .leaf)))
def F131 (m : Option Addr) (a : Int) (b : Int) (g : G) (M : Nat → Prop) (R : Value → G → Prop) (RP : List PanicEntry → G → Prop) : Prop :=
  ∀ J : G → Prop,
  (∀ g1 : G, (InI64 (a * b) ∧ ∃ M1 : Nat → Prop, (∀ b, b < g.w.heap.size → M1 b → M b) ∧ (CallsX Tryz.prog 128 #[(.pointer m), (.int .i64 (a * b))] g1 M1 (fun v g2 =>
  ∃ x : Option Addr, v = (.pointer x) ∧ ∀ g3 : G, Ex g2 g3 →
  R (.pointer x) g3) (fun ch g4 => ∀ g5 : G, Ex g4 g5 → RP ch g5))) → J g1) →
  ifB (!eqI a (0 : Int))
  ((CallsP Tryz.prog 134 #[(.int .i64 b)] g fun v g6 =>
  ∃ x_1 : Int, v = (.int .i64 x_1) ∧ (CallsP Tryz.prog 134 #[(.int .i64 a)] g6 fun v g7 =>
  ∃ x_2 : Int, v = (.int .i64 x_2) ∧ x_2 ≠ 0 ∧ InI64 (Int.tdiv (4503599627370496 : Int) x_2) ∧ ifB (ltI (Int.tdiv (4503599627370496 : Int) x_2) x_1)
  (∃ M2 : Nat → Prop, (∀ b, b < g.w.heap.size → M2 b → M b) ∧ (CallsX Tryz.prog 93 #[(.pointer m), (.int .i64 (2 : Int)), (.int .i64 (2 : Int))] g7 M2 (fun v g8 =>
  v = (.tuple ⟨[]⟩) ∧ J g8) (fun ch g9 => ∀ g10 : G, Ex g9 g10 → RP ch g10)))
  (J g7))))
  (J g)
theorem F131_eq (m : Option Addr) (a : Int) (b : Int) (g : G) (M : Nat → Prop) (R : Value → G → Prop) (RP : List PanicEntry → G → Prop) : fnG (cfg131 RP) 24 [.tmp 6] c131 an131 [(.pointer m), (.int .i64 a), (.int .i64 b)] g M R = F131 m a b g M R RP := by kernel_rfl
theorem call131 (m : Option Addr) (a : Int) (b : Int) (g : G) (M : Nat → Prop) (R : Value → G → Prop) (RP : List PanicEntry → G → Prop) (hF : F131 m a b g M R RP ) : CallsX Tryz.prog 131 #[(.pointer m), (.int .i64 a), (.int .i64 b)] g M R RP :=
  fn_soundX (c := (cfg131 RP)) TTok FNSok mixed (.inr rfl) Tryz.func131 (show Tryz.f131.body = some c131 by kernel_rfl) (show Tryz.f131.ntmps = 24 by kernel_rfl) (show Tryz.f131.results.toList = [.tmp 6] by kernel_rfl) rfl ((F131_eq m a b g M R RP ).mpr hF)
noncomputable def c134 : Code := match Tryz.f134.body with
  | some c => c
  | none => .skip
noncomputable def cfg134 : Cfg := ⟨Tryz.prog, TT, FNS, [], [], [], TCH, false, false, none, PNF, false⟩
def an134 : AnnG := (.seq .leaf (.seq .leaf .leaf))
def F134 (n : Int) (g : G) (R : Value → G → Prop) : Prop :=
  InI64 ((0 : Int) - n) ∧ ∀ g1 : G, Ex g g1 →
  R (.int .i64 (maxI n ((0 : Int) - n))) g1
theorem F134_eq (n : Int) (g : G) (R : Value → G → Prop) : fnG cfg134 7 [.tmp 2] c134 an134 [(.int .i64 n)] g nobody R = F134 n g R := by kernel_rfl
theorem call134 (n : Int) (g : G) (R : Value → G → Prop) (hF : F134 n g R) : CallsG Tryz.prog 134 #[(.int .i64 n)] g nobody R :=
  fn_soundG (c := cfg134) TTok FNSok mixed Tryz.func134 (show Tryz.f134.body = some c134 by kernel_rfl) (show Tryz.f134.ntmps = 7 by kernel_rfl) (show Tryz.f134.results.toList = [.tmp 2] by kernel_rfl) rfl ((F134_eq n g R ).mpr hF)
end Go.Proofs.YthlcdgpemjdgnaaGreatDoor.PL
