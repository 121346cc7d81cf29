/- Printed by a program (wip/tools/gen2.py): for each function its condition as a plain formula, and that the formula gives the call. -/
import Derived.Test.YthlcdgpemjdgnaaGreatDoorProg
import Derived.Test.YthlcdgpemjdgnaaGreatDoorVda
namespace Go.Proofs.YthlcdgpemjdgnaaGreatDoor.PM
open Go Go.Vc Go.RowKit
set_option maxRecDepth 100000
set_option linter.unusedVariables false
def TT : List TI := [
  ⟨0, .tuple #[], 1, 0, some (.tuple ⟨[]⟩), (.tup [])⟩,
  ⟨3, .int .i64, 1, 8, some (.int .i64 (0 : Int)), (.e (.one (.int .i64)))⟩,
  ⟨4, .bool, 1, 1, some (.bool false), (.e (.one (.bool)))⟩,
  ⟨9, .string, 1, 16, some (.string (bs [])), (.e (.one (.str)))⟩,
  ⟨22, .slice 55, 1, 24, some (.slice none 0 0), (.e (.one (.sl)))⟩,
  ⟨25, .slice 9, 1, 24, some (.slice none 0 0), (.e (.one (.sl)))⟩,
  ⟨26, .slice 28, 1, 24, some (.slice none 0 0), (.e (.one (.sl)))⟩,
  ⟨28, .struct #[{ name := "Op", type := 3, offset := 0, embedded := false, tag := "", pkgPath := "", byteOffset := 0 }, { name := "N", type := 3, offset := 1, embedded := false, tag := "", pkgPath := "", byteOffset := 8 }, { name := "S", type := 9, offset := 2, embedded := false, tag := "", pkgPath := "", byteOffset := 16 }, { name := "Names", type := 25, offset := 3, embedded := false, tag := "", pkgPath := "", byteOffset := 32 }, { name := "L", type := 26, offset := 4, embedded := false, tag := "", pkgPath := "", byteOffset := 56 }], 5, 80, some (.agg ⟨[(.int .i64 (0 : Int)), (.int .i64 (0 : Int)), (.string (bs [])), (.slice none 0 0), (.slice none 0 0)]⟩), (.e (.agg [(.int .i64), (.int .i64), (.str), (.sl), (.sl)]))⟩,
  ⟨42, .slice 44, 1, 24, some (.slice none 0 0), (.e (.one (.sl)))⟩,
  ⟨44, .struct #[{ name := "Op", type := 3, offset := 0, embedded := false, tag := "", pkgPath := "", byteOffset := 0 }, { name := "N", type := 3, offset := 1, embedded := false, tag := "", pkgPath := "", byteOffset := 8 }, { name := "S", type := 9, offset := 2, embedded := false, tag := "", pkgPath := "", byteOffset := 16 }, { name := "L", type := 42, offset := 3, embedded := false, tag := "", pkgPath := "", byteOffset := 32 }], 4, 56, some (.agg ⟨[(.int .i64 (0 : Int)), (.int .i64 (0 : Int)), (.string (bs [])), (.slice none 0 0)]⟩), (.e (.agg [(.int .i64), (.int .i64), (.str), (.sl)]))⟩,
  ⟨55, .struct #[{ name := "Captures", type := 3, offset := 0, embedded := false, tag := "", pkgPath := "", byteOffset := 0 }, { name := "Body", type := 44, offset := 1, embedded := false, tag := "", pkgPath := "", byteOffset := 8 }], 5, 64, some (.agg ⟨[(.int .i64 (0 : Int)), (.int .i64 (0 : Int)), (.int .i64 (0 : Int)), (.string (bs [])), (.slice none 0 0)]⟩), (.e (.agg [(.int .i64), (.int .i64), (.int .i64), (.str), (.sl)]))⟩,
  ⟨56, .pointer 58, 1, 8, some (.pointer none), (.e (.one (.ptr)))⟩,
  ⟨58, .struct #[{ name := "l", type := 22, offset := 0, embedded := false, tag := "", pkgPath := "pilaster/closure", byteOffset := 0 }, { name := "fuel", type := 3, offset := 1, embedded := false, tag := "", pkgPath := "pilaster/closure", byteOffset := 24 }, { name := "steps", type := 3, offset := 2, embedded := false, tag := "", pkgPath := "pilaster/closure", byteOffset := 32 }, { name := "out", type := 25, offset := 3, embedded := false, tag := "", pkgPath := "pilaster/closure", byteOffset := 40 }], 4, 64, some (.agg ⟨[(.slice none 0 0), (.int .i64 (0 : Int)), (.int .i64 (0 : Int)), (.slice none 0 0)]⟩), (.e (.agg [(.sl), (.int .i64), (.int .i64), (.sl)]))⟩,
  ⟨60, .struct #[{ name := "op", type := 3, offset := 0, embedded := false, tag := "", pkgPath := "pilaster/closure", byteOffset := 0 }, { name := "n", type := 3, offset := 1, embedded := false, tag := "", pkgPath := "pilaster/closure", byteOffset := 8 }], 2, 16, some (.agg ⟨[(.int .i64 (0 : Int)), (.int .i64 (0 : Int))]⟩), (.e (.agg [(.int .i64), (.int .i64)]))⟩,
  ⟨62, .pointer 66, 1, 8, some (.pointer none), (.e (.one (.ptr)))⟩,
  ⟨64, .slice 62, 1, 24, some (.slice none 0 0), (.e (.one (.sl)))⟩,
  ⟨66, .struct #[{ name := "sort", type := 3, offset := 0, embedded := false, tag := "", pkgPath := "pilaster/closure", byteOffset := 0 }, { name := "n", type := 3, offset := 1, embedded := false, tag := "", pkgPath := "pilaster/closure", byteOffset := 8 }, { name := "s", type := 9, offset := 2, embedded := false, tag := "", pkgPath := "pilaster/closure", byteOffset := 16 }, { name := "l", type := 64, offset := 3, embedded := false, tag := "", pkgPath := "pilaster/closure", byteOffset := 32 }], 4, 56, some (.agg ⟨[(.int .i64 (0 : Int)), (.int .i64 (0 : Int)), (.string (bs [])), (.slice none 0 0)]⟩), (.e (.agg [(.int .i64), (.int .i64), (.str), (.sl)]))⟩,
  ⟨68, .pointer 70, 1, 8, some (.pointer none), (.e (.one (.ptr)))⟩,
  ⟨70, .struct #[{ name := "left", type := 3, offset := 0, embedded := false, tag := "", pkgPath := "pilaster/closure", byteOffset := 0 }], 1, 8, some (.agg ⟨[(.int .i64 (0 : Int))]⟩), (.e (.agg [(.int .i64)]))⟩,
  ⟨103, .pointer 105, 1, 8, some (.pointer none), (.e (.one (.ptr)))⟩,
  ⟨105, .struct #[{ name := "self", type := 62, offset := 0, embedded := false, tag := "", pkgPath := "pilaster/closure", byteOffset := 0 }, { name := "locals", type := 64, offset := 1, embedded := false, tag := "", pkgPath := "pilaster/closure", byteOffset := 8 }], 2, 32, some (.agg ⟨[(.pointer none), (.slice none 0 0)]⟩), (.e (.agg [(.ptr), (.sl)]))⟩]
theorem TTok : TOk Tryz.prog TT := tok_of (by kernel_rfl)
def FNS : List Nat := [25, 26, 27, 41, 50, 51, 74, 75, 76, 77, 97, 98, 99, 100, 101, 102]
theorem FNSok : FOk Tryz.prog FNS := fok_of (by kernel_rfl)
theorem mixed : Tryz.prog.follows .mixedOrders = true := by kernel_rfl
def TCH : List Nat := [25, 27, 50, 74, 76, 77]
def PNF : List Nat := [25, 27, 50, 51, 74, 75, 76, 77, 98, 99, 101]
noncomputable def c25 : Code := match Tryz.f25.body with
  | some c => c
  | none => .skip
noncomputable def cfg25 (RP : List PanicEntry → G → Prop) : Cfg := ⟨Tryz.prog, TT, FNS, [], [], [], TCH, false, false, some RP, PNF, false⟩
def an25 : AnnG := (.seq .leaf (.seq (.tree 17 (.quiet 0 (.quiet 1 (.quiet 2 (.quiet 3 (.quiet 4 (.quiet 5 (.quiet 6 (.quiet 7 (.quiet 8 (.quiet 9 (.quiet 10 (.quiet 11 (.quiet 12 (.quiet 13 (.eff 14 (.eff 15 (.eff 16 .fin .fin) .fin) .fin)))))))))))))))) .leaf))
def F25 (m : Option Addr) (f : Option Addr) (arg : Option Addr) (g : G) (M : Nat → Prop) (R : Value → G → Prop) (RP : List PanicEntry → G → Prop) : Prop :=
  ∀ g1 : G, Ex g g1 →
  derefP m fun ad => ∃ (xa : Option Addr) (xl xc : Nat), g1.w.cell? ad = some (.slice xa xl xc) ∧ derefP f fun ad_1 => ∃ x : Int, g1.w.cell? (Addr.add ad_1 1) = some (.int .i64 x) ∧ (0 ≤ x ∧ x < ((xl : Nat) : Int)) ∧ derefP xa fun ad_2 => ∃ (x0 x1 : Int) (x2 : ByteArray) (x3a : Option Addr) (x3l x3c : Nat), g1.w.cell? (Addr.add (Addr.add ad_2 (Int.toNat x * 5)) 1) = some (.int .i64 x0) ∧ g1.w.cell? (Addr.add (Addr.add (Addr.add ad_2 (Int.toNat x * 5)) 1) 1) = some (.int .i64 x1) ∧ g1.w.cell? (Addr.add (Addr.add (Addr.add ad_2 (Int.toNat x * 5)) 1) 2) = some (.string x2) ∧ g1.w.cell? (Addr.add (Addr.add (Addr.add ad_2 (Int.toNat x * 5)) 1) 3) = some (.slice x3a x3l x3c) ∧ ∀ g2 : G, NewL g1 g2 62 [(.pointer arg)] →
  ∀ g3 : G, NewD g2 g3 105 ([(.pointer f), (.slice (some ⟨g1.w.heap.size, 0, none⟩) 1 1)] : List Value) →
  ∃ M1 : Nat → Prop, (∀ b, b < g.w.heap.size → M1 b → M b) ∧ (CallsX Tryz.prog 50 #[(.pointer m), (.agg ⟨[(.int .i64 x0), (.int .i64 x1), (.string x2), (.slice x3a x3l x3c)]⟩), (.pointer (some ⟨g2.w.heap.size, 0, none⟩))] g3 M1 (fun v g4 =>
  ∃ x_1 : Option Addr, v = (.pointer x_1) ∧ ∀ g5 : G, Ex g4 g5 →
  R (.pointer x_1) g5) (fun ch g6 => ∀ g7 : G, Ex g6 g7 → RP ch g7))
theorem F25_eq (m : Option Addr) (f : Option Addr) (arg : Option Addr) (g : G) (M : Nat → Prop) (R : Value → G → Prop) (RP : List PanicEntry → G → Prop) : fnG (cfg25 RP) 25 [.tmp 6] c25 an25 [(.pointer m), (.pointer f), (.pointer arg)] g M R = F25 m f arg g M R RP := by kernel_rfl
theorem call25 (m : Option Addr) (f : Option Addr) (arg : Option Addr) (g : G) (M : Nat → Prop) (R : Value → G → Prop) (RP : List PanicEntry → G → Prop) (hF : F25 m f arg g M R RP ) : CallsX Tryz.prog 25 #[(.pointer m), (.pointer f), (.pointer arg)] g M R RP :=
  fn_soundX (c := (cfg25 RP)) TTok FNSok mixed (.inr rfl) Tryz.func25 (show Tryz.f25.body = some c25 by kernel_rfl) (show Tryz.f25.ntmps = 25 by kernel_rfl) (show Tryz.f25.results.toList = [.tmp 6] by kernel_rfl) rfl ((F25_eq m f arg g M R RP ).mpr hF)
noncomputable def c26 : Code := match Tryz.f26.body with
  | some c => c
  | none => .skip
noncomputable def cfg26 : Cfg := ⟨Tryz.prog, TT, FNS, [], [], [2], TCH, false, false, none, PNF, false⟩
def an26 : AnnG := (.seq .leaf (.seq .leaf .leaf))
def F26 (g : G) (R : Value → G → Prop) : Prop :=
  ∀ g1 : G, NewL g g1 66 ([(.int .i64 (3 : Int)), (.int .i64 (0 : Int)), (.string (bs [])), (.slice none 0 0)] : List Value) →
  ∀ g2 : G, Ex g1 g2 →
  R (.pointer (some ⟨g.w.heap.size, 0, none⟩)) g2
theorem F26_eq (g : G) (R : Value → G → Prop) : fnG cfg26 3 [.tmp 0] c26 an26 [] g nobody R = F26 g R := by kernel_rfl
theorem call26 (g : G) (R : Value → G → Prop) (hF : F26 g R) : CallsG Tryz.prog 26 #[] g nobody R :=
  fn_soundG (c := cfg26) TTok FNSok mixed Tryz.func26 (show Tryz.f26.body = some c26 by kernel_rfl) (show Tryz.f26.ntmps = 3 by kernel_rfl) (show Tryz.f26.results.toList = [.tmp 0] by kernel_rfl) rfl ((F26_eq g R ).mpr hF)
noncomputable def c27 : Code := match Tryz.f27.body with
  | some c => c
  | none => .skip
noncomputable def cfg27 (RP : List PanicEntry → G → Prop) : Cfg := ⟨Tryz.prog, TT, FNS, [6, 7], [(6, 6), (7, 7), (49, 7), (50, 7), (60, 7), (69, 7)], [], TCH, false, false, some RP, PNF, false⟩
def an27 : AnnG := (.seq .leaf (.seq .leaf (.join ⟨[], [], []⟩ (.seq .leaf (.cond .leaf .leaf)) (.seq .leaf (.seq (.seq .leaf (.cond (.seq .leaf .leaf) .leaf)) (.seq (.treeP true [7] 10 (.quiet 0 (.quiet 1 (.quiet 2 (.quiet 3 (.quiet 4 (.quiet 5 (.quiet 6 (.quiet 7 (.quiet 8 (.eff 9 .fin .fin))))))))))) (.seq (.seq .leaf (.blk (.loop ⟨[(56, .int .i64)], [(7, 7, 0)], [(7, [(.int .i64), (.int .i64), (.str), (.sl), (.sl)])]⟩ (.seq .leaf (.seq (.cond .leaf .leaf) (.seq (.blk (.seq .leaf (.treeP true [7] 8 (.quiet 0 (.quiet 2 (.quiet 3 (.quiet 4 (.quiet 5 (.eff 1 (.eff 6 (.eff 7 .fin .fin) .fin) (.eff 6 (.eff 1 (.eff 7 .fin .fin) (.eff 7 (.eff 1 .fin .fin) .fin)) .fin)))))))))) .leaf)))))) (.seq .leaf .leaf))))))))
def F27 (o : Option Addr) (v_1 : Option Addr) (depth : Int) (g : G) (M : Nat → Prop) (R : Value → G → Prop) (RP : List PanicEntry → G → Prop) : Prop :=
  derefP o fun ad => ∀ g1 : G, Ex g g1 →
  ∃ x : Int, g1.w.cell? ad = some (.int .i64 x) ∧ InI64 (x - (1 : Int)) ∧ derefP o fun ad_1 => stOk g1.w ad_1 1 ∧ ¬ g1.X (Addr.block ad_1) ∧ mutAt g1 ad_1 1 ∧ ((Addr.block ad_1) < g.w.heap.size → M (Addr.block ad_1)) ∧ ∀ g2 : G, StG false g1 ad_1 [(.int .i64 (x - (1 : Int)))] g2 →
  ∀ J : G → Prop,
  (∀ g3 : G, (∀ g4 : G, NewM g3 g4 →
  ∃ wo1 : World, Sem.run Tryz.prog (Instr.mapUpdate 107 (.map (some g3.w.heap.size)) (.int .i64 (1 : Int)) (.int .i64 (1 : Int))) g4.w = .ok () wo1 ∧ ∃ g5 : G, g5.w = wo1 ∧ Stp g.w.heap.size M g4 g5 ∧ ∃ wo2 : World, Sem.run Tryz.prog (Instr.mapUpdate 107 (.map (some g3.w.heap.size)) (.int .i64 (2 : Int)) (.int .i64 (2 : Int))) g5.w = .ok () wo2 ∧ ∃ g6 : G, g6.w = wo2 ∧ Stp g.w.heap.size M g5 g6 ∧ ∃ wo3 : World, Sem.run Tryz.prog (Instr.mapUpdate 107 (.map (some g3.w.heap.size)) (.int .i64 (3 : Int)) (.int .i64 (3 : Int))) g6.w = .ok () wo3 ∧ ∃ g7 : G, g7.w = wo3 ∧ Stp g.w.heap.size M g6 g7 ∧ ∃ wo4 : World, Sem.run Tryz.prog (Instr.mapUpdate 107 (.map (some g3.w.heap.size)) (.int .i64 (4 : Int)) (.int .i64 (4 : Int))) g7.w = .ok () wo4 ∧ ∃ g8 : G, g8.w = wo4 ∧ Stp g.w.heap.size M g7 g8 ∧ ∃ wo5 : World, Sem.run Tryz.prog (Instr.mapUpdate 107 (.map (some g3.w.heap.size)) (.int .i64 (5 : Int)) (.int .i64 (7 : Int))) g8.w = .ok () wo5 ∧ ∃ g9 : G, g9.w = wo5 ∧ Stp g.w.heap.size M g8 g9 ∧ derefP v_1 fun ad_2 => ∃ x_1 : Int, g9.w.cell? ad_2 = some (.int .i64 x_1) ∧ ∃ (x_2 : Int) (wo6 : World), Sem.run Tryz.prog (Instr.lookup 107 (.map (some g3.w.heap.size)) (.int .i64 x_1) false) g9.w = .ok (.int .i64 x_2) wo6 ∧ ∃ g10 : G, g10.w = wo6 ∧ Stp g.w.heap.size M g9 g10 ∧ derefP v_1 fun ad_3 => ∀ g11 : G, Ex g10 g11 →
  ∃ x_3 : Int, g11.w.cell? ad_3 = some (.int .i64 x_3) ∧ ifB (eqI x_3 (5 : Int))
  (∀ g12 : G, Ex g11 g12 →
  R (.agg ⟨[(.int .i64 x_2), (.int .i64 (0 : Int)), (.string (bs [])), (.slice none 0 0), (.slice none 0 0)]⟩) g12)
  (∀ g13 : G, Ex g11 g13 →
  ∃ MR1 : Nat → Prop, (∀ b, MR1 b → ¬ g13.X b) ∧ derefP v_1 fun ad_4 => ¬ g13.X (Addr.block (Addr.add ad_4 1)) ∧ ¬ MR1 (Addr.block (Addr.add ad_4 1)) ∧ ∃ x_4 : Int, g13.w.cell? (Addr.add ad_4 1) = some (.int .i64 x_4) ∧ derefP v_1 fun ad_5 => ¬ g13.X (Addr.block (Addr.add ad_5 2)) ∧ ¬ MR1 (Addr.block (Addr.add ad_5 2)) ∧ ∃ x_5 : ByteArray, g13.w.cell? (Addr.add ad_5 2) = some (.string x_5) ∧ derefP v_1 fun ad_6 => ∀ g14 : G, Ex g13 g14 →
  ∃ (xa : Option Addr) (xl xc : Nat), g14.w.cell? (Addr.add ad_6 3) = some (.slice xa xl xc) ∧ ∃ Inv : Nat → Int → Int → Int → ByteArray → Option Addr → Nat → Nat → Option Addr → Nat → Nat → G → Prop, ((∃ m0 : Nat, Inv m0 (0 : Int) x_2 x_4 x_5 none 0 0 none 0 0 g14)) ∧
  ∀ (m : Nat) (v_2 out0 out1 : Int) (out2 : ByteArray) (out3a : Option Addr) (out3l out3c : Nat) (out4a : Option Addr) (out4l out4c : Nat) (g15 : G), Le g14 g15 → Inv m v_2 out0 out1 out2 out3a out3l out3c out4a out4l out4c g15 →
  ifB (ltI v_2 ((xl : Nat) : Int))
  ((0 ≤ v_2 ∧ v_2 < ((xl : Nat) : Int)) ∧ derefP xa fun ad_7 => ∃ x_6 : Option Addr, g15.w.cell? (Addr.add ad_7 (Int.toNat v_2 * 1)) = some (.pointer x_6) ∧ ∀ g16 : G, Ex g15 g16 →
  ∃ MR2 : Nat → Prop, (∀ b, MR2 b → ¬ g16.X b) ∧ InI64 (depth - (1 : Int)) ∧ (∀ g17 : G, Ex g16 g17 →
  ∃ M3 : Nat → Prop, (∀ b, b < g.w.heap.size → M3 b → M b) ∧ (CallsX Tryz.prog 27 #[(.pointer o), (.pointer x_6), (.int .i64 (depth - (1 : Int)))] g17 M3 (fun v g18 =>
  ∃ (x0 x1 : Int) (x2 : ByteArray) (x3a : Option Addr) (x3l x3c : Nat) (x4a : Option Addr) (x4l x4c : Nat), v = (.agg ⟨[(.int .i64 x0), (.int .i64 x1), (.string x2), (.slice x3a x3l x3c), (.slice x4a x4l x4c)]⟩) ∧ SameBut MR2 g16 g18 ∧ ∀ g19 : G, Ex g18 g19 →
  ∀ g20 : G, NewL g19 g20 28 [(.int .i64 x0), (.int .i64 x1), (.string x2), (.slice x3a x3l x3c), (.slice x4a x4l x4c)] →
  ∃ (xa_1 : Option Addr) (xl_1 xc_1 : Nat) (wo7 : World), Sem.run Tryz.prog (Builtin.append_ #[26, 26] 26 #[(.slice out4a out4l out4c), (.slice (some ⟨g19.w.heap.size, 0, none⟩) 1 1)]) g20.w = .ok (.slice xa_1 xl_1 xc_1) wo7 ∧ ∃ g21 : G, g21.w = wo7 ∧ Stp g.w.heap.size M g20 g21 ∧ InI64 (v_2 + (1 : Int)) ∧ ∀ g22 : G, Ex g21 g22 →
  (∃ m_1 : Nat, m_1 < m ∧ Inv m_1 (v_2 + (1 : Int)) out0 out1 out2 out3a out3l out3c xa_1 xl_1 xc_1 g22)) (fun ch g23 => ∀ g24 : G, Ex g23 g24 → RP ch g24))) ∧ (∀ g25 : G, Ex g16 g25 →
  ∃ M4 : Nat → Prop, (∀ b, b < g.w.heap.size → M4 b → M b) ∧ (CallsX Tryz.prog 27 #[(.pointer o), (.pointer x_6), (.int .i64 (depth - (1 : Int)))] g25 M4 (fun v g26 =>
  ∃ (x0_1 x1_1 : Int) (x2_1 : ByteArray) (x3a_1 : Option Addr) (x3l_1 x3c_1 : Nat) (x4a_1 : Option Addr) (x4l_1 x4c_1 : Nat), v = (.agg ⟨[(.int .i64 x0_1), (.int .i64 x1_1), (.string x2_1), (.slice x3a_1 x3l_1 x3c_1), (.slice x4a_1 x4l_1 x4c_1)]⟩) ∧ SameBut MR2 g16 g26 ∧ Rep 1 (∀ g27 : G, Ex g26 g27 →
  ∀ g28 : G, NewL g27 g28 28 [(.int .i64 x0_1), (.int .i64 x1_1), (.string x2_1), (.slice x3a_1 x3l_1 x3c_1), (.slice x4a_1 x4l_1 x4c_1)] →
  ∃ (xa_2 : Option Addr) (xl_2 xc_2 : Nat) (wo8 : World), Sem.run Tryz.prog (Builtin.append_ #[26, 26] 26 #[(.slice out4a out4l out4c), (.slice (some ⟨g27.w.heap.size, 0, none⟩) 1 1)]) g28.w = .ok (.slice xa_2 xl_2 xc_2) wo8 ∧ ∃ g29 : G, g29.w = wo8 ∧ Stp g.w.heap.size M g28 g29 ∧ InI64 (v_2 + (1 : Int)) ∧ ∀ g30 : G, Ex g29 g30 →
  (∃ m_1 : Nat, m_1 < m ∧ Inv m_1 (v_2 + (1 : Int)) out0 out1 out2 out3a out3l out3c xa_2 xl_2 xc_2 g30))) (fun ch g35 => ∀ g36 : G, Ex g35 g36 → RP ch g36))))
  (∀ g37 : G, Ex g15 g37 →
  R (.agg ⟨[(.int .i64 out0), (.int .i64 out1), (.string out2), (.slice out3a out3l out3c), (.slice out4a out4l out4c)]⟩) g37))) → J g3) →
  derefP o fun ad_8 => ∃ x_7 : Int, g2.w.cell? ad_8 = some (.int .i64 x_7) ∧ ifB (ltI x_7 (0 : Int))
  ((CallsX Tryz.prog 51 #[(.int .i64 (2 : Int)), (.int .i64 (2 : Int))] g2 nobody (fun v g38 =>
  v = (.tuple ⟨[]⟩) ∧ J g38) (fun ch g39 => ∀ g40 : G, Ex g39 g40 → RP ch g40)))
  (ifB (eqI depth (0 : Int))
  ((CallsX Tryz.prog 51 #[(.int .i64 (2 : Int)), (.int .i64 (2 : Int))] g2 nobody (fun v g41 =>
  v = (.tuple ⟨[]⟩) ∧ J g41) (fun ch g42 => ∀ g43 : G, Ex g42 g43 → RP ch g43)))
  (J g2))
theorem F27_eq (o : Option Addr) (v_1 : Option Addr) (depth : Int) (g : G) (M : Nat → Prop) (R : Value → G → Prop) (RP : List PanicEntry → G → Prop) : fnG (cfg27 RP) 72 [.cell 6 28] c27 an27 [(.pointer o), (.pointer v_1), (.int .i64 depth)] g M R = F27 o v_1 depth g M R RP := by kernel_rfl
theorem call27 (o : Option Addr) (v_1 : Option Addr) (depth : Int) (g : G) (M : Nat → Prop) (R : Value → G → Prop) (RP : List PanicEntry → G → Prop) (hF : F27 o v_1 depth g M R RP ) : CallsX Tryz.prog 27 #[(.pointer o), (.pointer v_1), (.int .i64 depth)] g M R RP :=
  fn_soundX (c := (cfg27 RP)) TTok FNSok mixed (.inr rfl) Tryz.func27 (show Tryz.f27.body = some c27 by kernel_rfl) (show Tryz.f27.ntmps = 72 by kernel_rfl) (show Tryz.f27.results.toList = [.cell 6 28] by kernel_rfl) rfl ((F27_eq o v_1 depth g M R RP ).mpr hF)
noncomputable def c50 : Code := match Tryz.f50.body with
  | some c => c
  | none => .skip
noncomputable def cfg50 (RP : List PanicEntry → G → Prop) : Cfg := ⟨Tryz.prog, TT, FNS, [4], [(4, 4), (27, 4), (31, 4), (37, 4), (44, 4), (53, 4), (60, 4), (73, 4), (79, 4), (82, 4), (91, 4), (103, 4), (109, 4), (129, 4), (135, 4), (145, 4), (148, 4), (159, 4), (178, 4), (184, 4), (187, 4), (196, 4), (209, 4)], [34, 40, 49, 87, 192], TCH, false, false, some RP, PNF, false⟩
def an50 : AnnG := (.seq .leaf (.join ⟨[], [], []⟩ (.seq (.treeB 8 (.quiet 0 (.quiet 1 (.quiet 2 (.quiet 3 (.quiet 4 (.quiet 5 (.quiet 6 (.quiet 7 .fin))))))))) (.cond .leaf .leaf)) (.seq .leaf (.seq (.seq .leaf (.blk (.seq .leaf (.cond (.seq .leaf .leaf) (.seq .leaf (.cond (.seq .leaf .leaf) (.seq .leaf (.cond (.seq .leaf .leaf) (.seq .leaf (.cond (.seq .leaf (.join ⟨[], [], []⟩ (.seq (.treeB 7 (.quiet 0 (.quiet 1 (.quiet 2 (.quiet 3 (.quiet 4 (.quiet 5 (.quiet 6 .fin)))))))) (.cond .leaf .leaf)) (.seq (.treeB 6 (.quiet 0 (.quiet 1 (.quiet 2 (.quiet 3 (.quiet 4 (.quiet 5 .fin))))))) .leaf))) (.seq .leaf (.cond (.seq (.treeB 7 (.quiet 0 (.quiet 1 (.quiet 2 (.quiet 3 (.quiet 4 (.quiet 5 (.eff 6 .fin .fin)))))))) .leaf) (.seq .leaf (.cond (.seq .leaf (.join ⟨[], [], []⟩ (.seq (.treeB 8 (.quiet 0 (.quiet 1 (.quiet 2 (.quiet 3 (.quiet 4 (.quiet 5 (.quiet 6 (.quiet 7 .fin))))))))) (.cond .leaf .leaf)) (.seq (.treeB 17 (.quiet 0 (.quiet 1 (.quiet 2 (.quiet 3 (.quiet 4 (.quiet 5 (.quiet 6 (.quiet 7 (.quiet 8 (.quiet 9 (.quiet 10 (.quiet 11 (.quiet 12 (.quiet 13 (.quiet 14 (.quiet 15 (.quiet 16 .fin)))))))))))))))))) .leaf))) (.seq .leaf (.cond (.seq (.treeB 13 (.quiet 0 (.quiet 1 (.quiet 2 (.quiet 3 (.quiet 4 (.quiet 5 (.quiet 6 (.quiet 7 (.quiet 8 (.quiet 9 (.quiet 10 (.quiet 11 (.eff 12 .fin .fin)))))))))))))) .leaf) (.seq .leaf (.cond (.seq (.treeB 8 (.quiet 0 (.quiet 1 (.quiet 2 (.quiet 3 (.quiet 4 (.quiet 5 (.quiet 6 (.eff 7 .fin .fin))))))))) .leaf) (.seq .leaf (.cond (.seq (.treeB 6 (.quiet 0 (.quiet 1 (.quiet 2 (.quiet 3 (.quiet 4 (.quiet 5 .fin))))))) .leaf) (.seq .leaf (.cond (.seq .leaf .leaf) (.seq .leaf (.cond (.seq (.treeB 9 (.quiet 0 (.quiet 1 (.quiet 2 (.quiet 3 (.quiet 4 (.quiet 5 (.quiet 6 (.quiet 7 (.quiet 8 .fin)))))))))) .leaf) (.seq .leaf (.cond (.seq (.treeB 7 (.quiet 0 (.quiet 1 (.quiet 2 (.quiet 3 (.quiet 4 (.quiet 5 (.eff 6 .fin .fin)))))))) .leaf) (.seq .leaf (.cond (.seq .leaf (.seq (.treeB 8 (.quiet 0 (.quiet 1 (.quiet 2 (.quiet 3 (.quiet 5 (.quiet 6 (.quiet 7 (.eff 4 .fin .fin))))))))) .leaf)) .leaf)))))))))))))))))))))))))))) (.seq .leaf (.seq .leaf .leaf))))))
def F50 (m : Option Addr) (x0 : Int) (x1 : Int) (x2 : ByteArray) (x3a : Option Addr) (x3l : Nat) (x3c : Nat) (f : Option Addr) (g : G) (M : Nat → Prop) (R : Value → G → Prop) (RP : List PanicEntry → G → Prop) : Prop :=
  ∀ J : G → Prop,
  (∀ g1 : G, (derefP m fun ad => ∃ x : Int, g1.w.cell? (Addr.add ad 2) = some (.int .i64 x) ∧ InI64 (x + (1 : Int)) ∧ derefP m fun ad_1 => stOk g1.w (Addr.add ad_1 2) 1 ∧ ¬ g1.X (Addr.block (Addr.add ad_1 2)) ∧ mutAt g1 (Addr.add ad_1 2) 1 ∧ ((Addr.block (Addr.add ad_1 2)) < g.w.heap.size → M (Addr.block (Addr.add ad_1 2))) ∧ ∀ g2 : G, StG false g1 (Addr.add ad_1 2) [(.int .i64 (x + (1 : Int)))] g2 →
  ifB (eqI x0 (2 : Int))
  (∀ g3 : G, NewL g2 g3 66 ([(.int .i64 (1 : Int)), (.int .i64 x1), (.string (bs [])), (.slice none 0 0)] : List Value) →
  ∀ g4 : G, Ex g3 g4 →
  R (.pointer (some ⟨g2.w.heap.size, 0, none⟩)) g4)
  (ifB (eqI x0 (3 : Int))
  (∀ g5 : G, NewL g2 g5 66 ([(.int .i64 (2 : Int)), (.int .i64 (0 : Int)), (.string x2), (.slice none 0 0)] : List Value) →
  ∀ g6 : G, Ex g5 g6 →
  R (.pointer (some ⟨g2.w.heap.size, 0, none⟩)) g6)
  (ifB (eqI x0 (6 : Int))
  (∃ M1 : Nat → Prop, (∀ b, b < g.w.heap.size → M1 b → M b) ∧ (CallsX Tryz.prog 74 #[(.pointer m), (.slice x3a x3l x3c), (.pointer f)] g2 M1 (fun v g7 =>
  ∃ (xa : Option Addr) (xl xc : Nat), v = (.slice xa xl xc) ∧ ∀ g8 : G, NewL g7 g8 66 ([(.int .i64 (3 : Int)), (.int .i64 (0 : Int)), (.string (bs [])), (.slice xa xl xc)] : List Value) →
  ∀ g9 : G, Ex g8 g9 →
  R (.pointer (some ⟨g7.w.heap.size, 0, none⟩)) g9) (fun ch g10 => ∀ g11 : G, Ex g10 g11 → RP ch g11)))
  (ifB (eqI x0 (7 : Int))
  ((0 ≤ (0 : Int) ∧ (0 : Int) < ((x3l : Nat) : Int)) ∧ derefP x3a fun ad_2 => ∃ (x0_1 x1_1 : Int) (x2_1 : ByteArray) (x3a_1 : Option Addr) (x3l_1 x3c_1 : Nat), g2.w.cell? (Addr.add ad_2 (Int.toNat (0 : Int) * 4)) = some (.int .i64 x0_1) ∧ g2.w.cell? (Addr.add (Addr.add ad_2 (Int.toNat (0 : Int) * 4)) 1) = some (.int .i64 x1_1) ∧ g2.w.cell? (Addr.add (Addr.add ad_2 (Int.toNat (0 : Int) * 4)) 2) = some (.string x2_1) ∧ g2.w.cell? (Addr.add (Addr.add ad_2 (Int.toNat (0 : Int) * 4)) 3) = some (.slice x3a_1 x3l_1 x3c_1) ∧ ∃ M4 : Nat → Prop, (∀ b, b < g.w.heap.size → M4 b → M b) ∧ (CallsX Tryz.prog 50 #[(.pointer m), (.agg ⟨[(.int .i64 x0_1), (.int .i64 x1_1), (.string x2_1), (.slice x3a_1 x3l_1 x3c_1)]⟩), (.pointer f)] g2 M4 (fun v g12 =>
  ∃ x_1 : Option Addr, v = (.pointer x_1) ∧ (CallsX Tryz.prog 75 #[(.pointer x_1), (.int .i64 (3 : Int))] g12 nobody (fun v g13 =>
  ∃ v_1 : Option Addr, v = (.pointer v_1) ∧ ∀ J_1 : G → Prop,
  (∀ g14 : G, (∀ g15 : G, Ex g14 g15 →
  ∃ MR2 : Nat → Prop, (∀ b, MR2 b → ¬ g15.X b) ∧ derefP v_1 fun ad_3 => ¬ MR2 (Addr.block (Addr.add ad_3 3)) ∧ ∃ (xa_1 : Option Addr) (xl_1 xc_1 : Nat), g15.w.cell? (Addr.add ad_3 3) = some (.slice xa_1 xl_1 xc_1) ∧ (0 ≤ x1 ∧ x1 < ((xl_1 : Nat) : Int)) ∧ derefP xa_1 fun ad_4 => ∃ x_2 : Option Addr, g15.w.cell? (Addr.add ad_4 (Int.toNat x1 * 1)) = some (.pointer x_2) ∧ ∀ g16 : G, Ex g15 g16 →
  R (.pointer x_2) g16) → J_1 g14) →
  ∀ g17 : G, Ex g13 g17 →
  ∃ MR3 : Nat → Prop, (∀ b, MR3 b → ¬ g17.X b) ∧ derefP v_1 fun ad_5 => ¬ MR3 (Addr.block (Addr.add ad_5 3)) ∧ ∃ (xa_2 : Option Addr) (xl_2 xc_2 : Nat), g17.w.cell? (Addr.add ad_5 3) = some (.slice xa_2 xl_2 xc_2) ∧ ifB (leI ((xl_2 : Nat) : Int) x1)
  ((CallsX Tryz.prog 51 #[(.int .i64 (4 : Int)), (.int .i64 (0 : Int))] g17 nobody (fun v g18 =>
  v = (.tuple ⟨[]⟩) ∧ J_1 g18) (fun ch g19 => ∀ g20 : G, Ex g19 g20 → RP ch g20)))
  (J_1 g17)) (fun ch g21 => ∀ g22 : G, Ex g21 g22 → RP ch g22))) (fun ch g23 => ∀ g24 : G, Ex g23 g24 → RP ch g24)))
  (ifB (eqI x0 (8 : Int))
  (∀ g25 : G, Ex g2 g25 →
  ∃ MR5 : Nat → Prop, (∀ b, MR5 b → ¬ g25.X b) ∧ ∃ M6 : Nat → Prop, (∀ b, b < g.w.heap.size → M6 b → M b) ∧ (CallsX Tryz.prog 74 #[(.pointer m), (.slice x3a x3l x3c), (.pointer f)] g25 M6 (fun v g26 =>
  ∃ (xa_3 : Option Addr) (xl_3 xc_3 : Nat), v = (.slice xa_3 xl_3 xc_3) ∧ SameBut MR5 g25 g26 ∧ ∀ g27 : G, NewL g26 g27 66 ([(.int .i64 (4 : Int)), (.int .i64 x1), (.string (bs [])), (.slice xa_3 xl_3 xc_3)] : List Value) →
  ∀ g28 : G, Ex g27 g28 →
  R (.pointer (some ⟨g26.w.heap.size, 0, none⟩)) g28) (fun ch g29 => ∀ g30 : G, Ex g29 g30 → RP ch g30)))
  (ifB (eqI x0 (9 : Int))
  ((0 ≤ (0 : Int) ∧ (0 : Int) < ((x3l : Nat) : Int)) ∧ derefP x3a fun ad_6 => ∃ (x0_2 x1_2 : Int) (x2_2 : ByteArray) (x3a_2 : Option Addr) (x3l_2 x3c_2 : Nat), g2.w.cell? (Addr.add ad_6 (Int.toNat (0 : Int) * 4)) = some (.int .i64 x0_2) ∧ g2.w.cell? (Addr.add (Addr.add ad_6 (Int.toNat (0 : Int) * 4)) 1) = some (.int .i64 x1_2) ∧ g2.w.cell? (Addr.add (Addr.add ad_6 (Int.toNat (0 : Int) * 4)) 2) = some (.string x2_2) ∧ g2.w.cell? (Addr.add (Addr.add ad_6 (Int.toNat (0 : Int) * 4)) 3) = some (.slice x3a_2 x3l_2 x3c_2) ∧ ∃ M10 : Nat → Prop, (∀ b, b < g.w.heap.size → M10 b → M b) ∧ (CallsX Tryz.prog 50 #[(.pointer m), (.agg ⟨[(.int .i64 x0_2), (.int .i64 x1_2), (.string x2_2), (.slice x3a_2 x3l_2 x3c_2)]⟩), (.pointer f)] g2 M10 (fun v g31 =>
  ∃ x_3 : Option Addr, v = (.pointer x_3) ∧ (CallsX Tryz.prog 75 #[(.pointer x_3), (.int .i64 (4 : Int))] g31 nobody (fun v g32 =>
  ∃ v_2 : Option Addr, v = (.pointer v_2) ∧ ∀ J_2 : G → Prop,
  (∀ g33 : G, (∀ g34 : G, Ex g33 g34 →
  ∃ MR7 : Nat → Prop, (∀ b, MR7 b → ¬ g34.X b) ∧ derefP v_2 fun ad_7 => ¬ MR7 (Addr.block (Addr.add ad_7 1)) ∧ ∃ x_4 : Int, g34.w.cell? (Addr.add ad_7 1) = some (.int .i64 x_4) ∧ InI64 (x_4 + (1 : Int)) ∧ (0 ≤ (x_4 + (1 : Int)) ∧ (x_4 + (1 : Int)) < ((x3l : Nat) : Int)) ∧ derefP x3a fun ad_8 => ¬ MR7 (Addr.block (Addr.add ad_8 (Int.toNat (x_4 + (1 : Int)) * 4))) ∧ ∃ (x0_3 x1_3 : Int) (x2_3 : ByteArray) (x3a_3 : Option Addr) (x3l_3 x3c_3 : Nat), g34.w.cell? (Addr.add ad_8 (Int.toNat (x_4 + (1 : Int)) * 4)) = some (.int .i64 x0_3) ∧ g34.w.cell? (Addr.add (Addr.add ad_8 (Int.toNat (x_4 + (1 : Int)) * 4)) 1) = some (.int .i64 x1_3) ∧ g34.w.cell? (Addr.add (Addr.add ad_8 (Int.toNat (x_4 + (1 : Int)) * 4)) 2) = some (.string x2_3) ∧ g34.w.cell? (Addr.add (Addr.add ad_8 (Int.toNat (x_4 + (1 : Int)) * 4)) 3) = some (.slice x3a_3 x3l_3 x3c_3) ∧ derefP v_2 fun ad_9 => ¬ MR7 (Addr.block (Addr.add ad_9 3)) ∧ ∃ (xa_4 : Option Addr) (xl_4 xc_4 : Nat), g34.w.cell? (Addr.add ad_9 3) = some (.slice xa_4 xl_4 xc_4) ∧ (0 ≤ (0 : Int) ∧ (0 : Int) < ((xl_4 : Nat) : Int)) ∧ derefP xa_4 fun ad_10 => ¬ MR7 (Addr.block (Addr.add ad_10 (Int.toNat (0 : Int) * 1))) ∧ ∃ x_5 : Option Addr, g34.w.cell? (Addr.add ad_10 (Int.toNat (0 : Int) * 1)) = some (.pointer x_5) ∧ ∃ M8 : Nat → Prop, (∀ b, b < g.w.heap.size → M8 b → M b) ∧ (CallsX Tryz.prog 76 #[(.pointer m), (.agg ⟨[(.int .i64 x0_3), (.int .i64 x1_3), (.string x2_3), (.slice x3a_3 x3l_3 x3c_3)]⟩), (.pointer f), (.pointer x_5)] g34 M8 (fun v g35 =>
  ∃ x_6 : Option Addr, v = (.pointer x_6) ∧ ∀ g36 : G, Ex g35 g36 →
  R (.pointer x_6) g36) (fun ch g37 => ∀ g38 : G, Ex g37 g38 → RP ch g38))) → J_2 g33) →
  ∀ g39 : G, Ex g32 g39 →
  ∃ MR9 : Nat → Prop, (∀ b, MR9 b → ¬ g39.X b) ∧ derefP v_2 fun ad_11 => ¬ MR9 (Addr.block (Addr.add ad_11 1)) ∧ ∃ x_7 : Int, g39.w.cell? (Addr.add ad_11 1) = some (.int .i64 x_7) ∧ InI64 (x_7 + (1 : Int)) ∧ ifB (leI ((x3l : Nat) : Int) (x_7 + (1 : Int)))
  ((CallsX Tryz.prog 51 #[(.int .i64 (4 : Int)), (.int .i64 (0 : Int))] g39 nobody (fun v g40 =>
  v = (.tuple ⟨[]⟩) ∧ J_2 g40) (fun ch g41 => ∀ g42 : G, Ex g41 g42 → RP ch g42)))
  (J_2 g39)) (fun ch g43 => ∀ g44 : G, Ex g43 g44 → RP ch g44))) (fun ch g45 => ∀ g46 : G, Ex g45 g46 → RP ch g46)))
  (ifB (eqI x0 (11 : Int))
  (∀ g47 : G, Ex g2 g47 →
  ∃ MR11 : Nat → Prop, (∀ b, MR11 b → ¬ g47.X b) ∧ (0 ≤ (1 : Int) ∧ (1 : Int) < ((x3l : Nat) : Int)) ∧ derefP x3a fun ad_12 => ¬ MR11 (Addr.block (Addr.add ad_12 (Int.toNat (1 : Int) * 4))) ∧ ∃ (x0_4 x1_4 : Int) (x2_4 : ByteArray) (x3a_4 : Option Addr) (x3l_4 x3c_4 : Nat), g47.w.cell? (Addr.add ad_12 (Int.toNat (1 : Int) * 4)) = some (.int .i64 x0_4) ∧ g47.w.cell? (Addr.add (Addr.add ad_12 (Int.toNat (1 : Int) * 4)) 1) = some (.int .i64 x1_4) ∧ g47.w.cell? (Addr.add (Addr.add ad_12 (Int.toNat (1 : Int) * 4)) 2) = some (.string x2_4) ∧ g47.w.cell? (Addr.add (Addr.add ad_12 (Int.toNat (1 : Int) * 4)) 3) = some (.slice x3a_4 x3l_4 x3c_4) ∧ (0 ≤ (0 : Int) ∧ (0 : Int) < ((x3l : Nat) : Int)) ∧ derefP x3a fun ad_13 => ¬ MR11 (Addr.block (Addr.add ad_13 (Int.toNat (0 : Int) * 4))) ∧ ∃ (x0_5 x1_5 : Int) (x2_5 : ByteArray) (x3a_5 : Option Addr) (x3l_5 x3c_5 : Nat), g47.w.cell? (Addr.add ad_13 (Int.toNat (0 : Int) * 4)) = some (.int .i64 x0_5) ∧ g47.w.cell? (Addr.add (Addr.add ad_13 (Int.toNat (0 : Int) * 4)) 1) = some (.int .i64 x1_5) ∧ g47.w.cell? (Addr.add (Addr.add ad_13 (Int.toNat (0 : Int) * 4)) 2) = some (.string x2_5) ∧ g47.w.cell? (Addr.add (Addr.add ad_13 (Int.toNat (0 : Int) * 4)) 3) = some (.slice x3a_5 x3l_5 x3c_5) ∧ ∃ M13 : Nat → Prop, (∀ b, b < g.w.heap.size → M13 b → M b) ∧ (CallsX Tryz.prog 50 #[(.pointer m), (.agg ⟨[(.int .i64 x0_5), (.int .i64 x1_5), (.string x2_5), (.slice x3a_5 x3l_5 x3c_5)]⟩), (.pointer f)] g47 M13 (fun v g48 =>
  ∃ x_8 : Option Addr, v = (.pointer x_8) ∧ SameBut MR11 g47 g48 ∧ ∃ M12 : Nat → Prop, (∀ b, b < g.w.heap.size → M12 b → M b) ∧ (CallsX Tryz.prog 76 #[(.pointer m), (.agg ⟨[(.int .i64 x0_4), (.int .i64 x1_4), (.string x2_4), (.slice x3a_4 x3l_4 x3c_4)]⟩), (.pointer f), (.pointer x_8)] g48 M12 (fun v g49 =>
  ∃ x_9 : Option Addr, v = (.pointer x_9) ∧ ∀ g50 : G, Ex g49 g50 →
  R (.pointer x_9) g50) (fun ch g51 => ∀ g52 : G, Ex g51 g52 → RP ch g52))) (fun ch g53 => ∀ g54 : G, Ex g53 g54 → RP ch g54)))
  (ifB (eqI x0 (12 : Int))
  (∀ g55 : G, Ex g2 g55 →
  ∃ MR14 : Nat → Prop, (∀ b, MR14 b → ¬ g55.X b) ∧ ∃ M16 : Nat → Prop, (∀ b, b < g.w.heap.size → M16 b → M b) ∧ (CallsX Tryz.prog 74 #[(.pointer m), (.slice x3a x3l x3c), (.pointer f)] g55 M16 (fun v g56 =>
  ∃ (xa_5 : Option Addr) (xl_5 xc_5 : Nat), v = (.slice xa_5 xl_5 xc_5) ∧ SameBut MR14 g55 g56 ∧ ∃ M15 : Nat → Prop, (∀ b, b < g.w.heap.size → M15 b → M b) ∧ (CallsX Tryz.prog 77 #[(.pointer m), (.int .i64 x1), (.slice xa_5 xl_5 xc_5)] g56 M15 (fun v g57 =>
  ∃ x_10 : Option Addr, v = (.pointer x_10) ∧ ∀ g58 : G, Ex g57 g58 →
  R (.pointer x_10) g58) (fun ch g59 => ∀ g60 : G, Ex g59 g60 → RP ch g60))) (fun ch g61 => ∀ g62 : G, Ex g61 g62 → RP ch g62)))
  (ifB (eqI x0 (21 : Int))
  (∀ g63 : G, Ex g2 g63 →
  ∃ MR17 : Nat → Prop, (∀ b, MR17 b → ¬ g63.X b) ∧ derefP f fun ad_14 => ¬ MR17 (Addr.block (Addr.add ad_14 1)) ∧ ∃ (xa_6 : Option Addr) (xl_6 xc_6 : Nat), g63.w.cell? (Addr.add ad_14 1) = some (.slice xa_6 xl_6 xc_6) ∧ (0 ≤ x1 ∧ x1 < ((xl_6 : Nat) : Int)) ∧ derefP xa_6 fun ad_15 => ∃ x_11 : Option Addr, g63.w.cell? (Addr.add ad_15 (Int.toNat x1 * 1)) = some (.pointer x_11) ∧ ∀ g64 : G, Ex g63 g64 →
  R (.pointer x_11) g64)
  (ifB (eqI x0 (22 : Int))
  (derefP f fun ad_16 => ∃ x_12 : Option Addr, g2.w.cell? ad_16 = some (.pointer x_12) ∧ ∀ g65 : G, Ex g2 g65 →
  R (.pointer x_12) g65)
  (ifB (eqI x0 (23 : Int))
  (∀ g66 : G, Ex g2 g66 →
  ∃ MR18 : Nat → Prop, (∀ b, MR18 b → ¬ g66.X b) ∧ derefP f fun ad_17 => ¬ MR18 (Addr.block ad_17) ∧ ∃ x_13 : Option Addr, g66.w.cell? ad_17 = some (.pointer x_13) ∧ derefP x_13 fun ad_18 => ¬ MR18 (Addr.block (Addr.add ad_18 3)) ∧ ∃ (xa_7 : Option Addr) (xl_7 xc_7 : Nat), g66.w.cell? (Addr.add ad_18 3) = some (.slice xa_7 xl_7 xc_7) ∧ (0 ≤ x1 ∧ x1 < ((xl_7 : Nat) : Int)) ∧ derefP xa_7 fun ad_19 => ∃ x_14 : Option Addr, g66.w.cell? (Addr.add ad_19 (Int.toNat x1 * 1)) = some (.pointer x_14) ∧ ∀ g67 : G, Ex g66 g67 →
  R (.pointer x_14) g67)
  (ifB (eqI x0 (24 : Int))
  (∀ g68 : G, Ex g2 g68 →
  ∃ MR19 : Nat → Prop, (∀ b, MR19 b → ¬ g68.X b) ∧ ∃ M20 : Nat → Prop, (∀ b, b < g.w.heap.size → M20 b → M b) ∧ (CallsX Tryz.prog 74 #[(.pointer m), (.slice x3a x3l x3c), (.pointer f)] g68 M20 (fun v g69 =>
  ∃ (xa_8 : Option Addr) (xl_8 xc_8 : Nat), v = (.slice xa_8 xl_8 xc_8) ∧ SameBut MR19 g68 g69 ∧ ∀ g70 : G, NewL g69 g70 66 ([(.int .i64 (5 : Int)), (.int .i64 x1), (.string (bs [])), (.slice xa_8 xl_8 xc_8)] : List Value) →
  ∀ g71 : G, Ex g70 g71 →
  R (.pointer (some ⟨g69.w.heap.size, 0, none⟩)) g71) (fun ch g72 => ∀ g73 : G, Ex g72 g73 → RP ch g73)))
  (ifB (eqI x0 (25 : Int))
  (∃ M23 : Nat → Prop, (∀ b, b < g.w.heap.size → M23 b → M b) ∧ (CallsX Tryz.prog 74 #[(.pointer m), (.slice x3a x3l x3c), (.pointer f)] g2 M23 (fun v g74 =>
  ∃ (la : Option Addr) (ll lc : Nat), v = (.slice la ll lc) ∧ ∀ g75 : G, Ex g74 g75 →
  ∃ MR21 : Nat → Prop, (∀ b, MR21 b → ¬ g75.X b) ∧ (0 ≤ (0 : Int) ∧ (0 : Int) < ((ll : Nat) : Int)) ∧ derefP la fun ad_20 => ¬ MR21 (Addr.block (Addr.add ad_20 (Int.toNat (0 : Int) * 1))) ∧ ∃ x_15 : Option Addr, g75.w.cell? (Addr.add ad_20 (Int.toNat (0 : Int) * 1)) = some (.pointer x_15) ∧ (0 ≤ (1 : Int) ∧ (1 : Int) < ((ll : Nat) : Int)) ∧ derefP la fun ad_21 => ¬ MR21 (Addr.block (Addr.add ad_21 (Int.toNat (1 : Int) * 1))) ∧ ∃ x_16 : Option Addr, g75.w.cell? (Addr.add ad_21 (Int.toNat (1 : Int) * 1)) = some (.pointer x_16) ∧ (CallsX Tryz.prog 75 #[(.pointer x_15), (.int .i64 (5 : Int))] g75 nobody (fun v g76 =>
  ∃ x_17 : Option Addr, v = (.pointer x_17) ∧ ∃ M22 : Nat → Prop, (∀ b, b < g.w.heap.size → M22 b → M b) ∧ (CallsX Tryz.prog 25 #[(.pointer m), (.pointer x_17), (.pointer x_16)] g76 M22 (fun v g77 =>
  ∃ x_18 : Option Addr, v = (.pointer x_18) ∧ ∀ g78 : G, Ex g77 g78 →
  R (.pointer x_18) g78) (fun ch g79 => ∀ g80 : G, Ex g79 g80 → RP ch g80))) (fun ch g81 => ∀ g82 : G, Ex g81 g82 → RP ch g82))) (fun ch g83 => ∀ g84 : G, Ex g83 g84 → RP ch g84)))
  ((CallsX Tryz.prog 51 #[(.int .i64 (2 : Int)), (.int .i64 x1)] g2 nobody (fun v g85 =>
  v = (.tuple ⟨[]⟩) ∧ ∀ g86 : G, Ex g85 g86 →
  R (.pointer none) g86) (fun ch g87 => ∀ g88 : G, Ex g87 g88 → RP ch g88)))))))))))))))) → J g1) →
  ∀ g89 : G, Ex g g89 →
  ∃ MR24 : Nat → Prop, (∀ b, MR24 b → ¬ g89.X b) ∧ derefP m fun ad_22 => ¬ MR24 (Addr.block (Addr.add ad_22 2)) ∧ ∃ x_19 : Int, g89.w.cell? (Addr.add ad_22 2) = some (.int .i64 x_19) ∧ derefP m fun ad_23 => ¬ MR24 (Addr.block (Addr.add ad_23 1)) ∧ ∃ x_20 : Int, g89.w.cell? (Addr.add ad_23 1) = some (.int .i64 x_20) ∧ ifB (eqI x_19 x_20)
  ((CallsX Tryz.prog 51 #[(.int .i64 (3 : Int)), (.int .i64 (0 : Int))] g89 nobody (fun v g90 =>
  v = (.tuple ⟨[]⟩) ∧ J g90) (fun ch g91 => ∀ g92 : G, Ex g91 g92 → RP ch g92)))
  (J g89)
theorem F50_eq (m : Option Addr) (x0 : Int) (x1 : Int) (x2 : ByteArray) (x3a : Option Addr) (x3l : Nat) (x3c : Nat) (f : Option Addr) (g : G) (M : Nat → Prop) (R : Value → G → Prop) (RP : List PanicEntry → G → Prop) : fnG (cfg50 RP) 212 [.tmp 6] c50 an50 [(.pointer m), (.agg ⟨[(.int .i64 x0), (.int .i64 x1), (.string x2), (.slice x3a x3l x3c)]⟩), (.pointer f)] g M R = F50 m x0 x1 x2 x3a x3l x3c f g M R RP := by kernel_rfl
theorem call50 (m : Option Addr) (x0 : Int) (x1 : Int) (x2 : ByteArray) (x3a : Option Addr) (x3l : Nat) (x3c : Nat) (f : Option Addr) (g : G) (M : Nat → Prop) (R : Value → G → Prop) (RP : List PanicEntry → G → Prop) (hF : F50 m x0 x1 x2 x3a x3l x3c f g M R RP ) : CallsX Tryz.prog 50 #[(.pointer m), (.agg ⟨[(.int .i64 x0), (.int .i64 x1), (.string x2), (.slice x3a x3l x3c)]⟩), (.pointer f)] g M R RP :=
  fn_soundX (c := (cfg50 RP)) TTok FNSok mixed (.inr rfl) Tryz.func50 (show Tryz.f50.body = some c50 by kernel_rfl) (show Tryz.f50.ntmps = 212 by kernel_rfl) (show Tryz.f50.results.toList = [.tmp 6] by kernel_rfl) rfl ((F50_eq m x0 x1 x2 x3a x3l x3c f g M R RP ).mpr hF)
noncomputable def c51 : Code := match Tryz.f51.body with
  | some c => c
  | none => .skip
noncomputable def cfg51 (RP : List PanicEntry → G → Prop) : Cfg := ⟨Tryz.prog, TT, FNS, [], [], [], TCH, false, false, some RP, PNF, false⟩
def an51 : AnnG := .leaf
def F51 (op : Int) (n : Int) (g : G) (R : Value → G → Prop) (RP : List PanicEntry → G → Prop) : Prop :=
  ∀ g1 : G, Ex g g1 →
  RP [{ v := (.iface 60 (.agg ⟨[(.int .i64 op), (.int .i64 n)]⟩)), recovered := false }] g1
theorem F51_eq (op : Int) (n : Int) (g : G) (R : Value → G → Prop) (RP : List PanicEntry → G → Prop) : fnG (cfg51 RP) 8 [] c51 an51 [(.int .i64 op), (.int .i64 n)] g nobody R = F51 op n g R RP := by kernel_rfl
theorem call51 (op : Int) (n : Int) (g : G) (R : Value → G → Prop) (RP : List PanicEntry → G → Prop) (hF : F51 op n g R RP ) : CallsX Tryz.prog 51 #[(.int .i64 op), (.int .i64 n)] g nobody R RP :=
  fn_soundX (c := (cfg51 RP)) TTok FNSok mixed (.inr rfl) Tryz.func51 (show Tryz.f51.body = some c51 by kernel_rfl) (show Tryz.f51.ntmps = 8 by kernel_rfl) (show Tryz.f51.results.toList = [] by kernel_rfl) rfl ((F51_eq op n g R RP ).mpr hF)
noncomputable def c74 : Code := match Tryz.f74.body with
  | some c => c
  | none => .skip
noncomputable def cfg74 (RP : List PanicEntry → G → Prop) : Cfg := ⟨Tryz.prog, TT, FNS, [9], [(9, 9)], [], TCH, false, false, some RP, PNF, false⟩
def an74 : AnnG := (.seq .leaf (.seq .leaf (.seq (.seq .leaf (.blk (.loop ⟨[(7, .sl), (12, .int .i64)], [], []⟩ (.seq .leaf (.seq (.cond .leaf .leaf) (.seq (.blk (.seq .leaf .leaf)) .leaf)))))) (.seq .leaf .leaf))))
def F74 (m : Option Addr) (la : Option Addr) (ll : Nat) (lc : Nat) (f : Option Addr) (g : G) (M : Nat → Prop) (R : Value → G → Prop) (RP : List PanicEntry → G → Prop) : Prop :=
  ∃ Inv : Nat → Option Addr → Nat → Nat → Int → G → Prop, ((∃ m0 : Nat, Inv m0 none 0 0 (0 : Int) g)) ∧
  ∀ (m_1 : Nat) (outa : Option Addr) (outl outc : Nat) (v_1 : Int) (g1 : G), Le g g1 → Inv m_1 outa outl outc v_1 g1 →
  ifB (ltI v_1 ((ll : Nat) : Int))
  ((0 ≤ v_1 ∧ v_1 < ((ll : Nat) : Int)) ∧ derefP la fun ad => ∃ (x0 x1 : Int) (x2 : ByteArray) (x3a : Option Addr) (x3l x3c : Nat), g1.w.cell? (Addr.add ad (Int.toNat v_1 * 4)) = some (.int .i64 x0) ∧ g1.w.cell? (Addr.add (Addr.add ad (Int.toNat v_1 * 4)) 1) = some (.int .i64 x1) ∧ g1.w.cell? (Addr.add (Addr.add ad (Int.toNat v_1 * 4)) 2) = some (.string x2) ∧ g1.w.cell? (Addr.add (Addr.add ad (Int.toNat v_1 * 4)) 3) = some (.slice x3a x3l x3c) ∧ ∀ g2 : G, Ex g1 g2 →
  ∃ M1 : Nat → Prop, (∀ b, b < g.w.heap.size → M1 b → M b) ∧ (CallsX Tryz.prog 50 #[(.pointer m), (.agg ⟨[(.int .i64 x0), (.int .i64 x1), (.string x2), (.slice x3a x3l x3c)]⟩), (.pointer f)] g2 M1 (fun v g3 =>
  ∃ x : Option Addr, v = (.pointer x) ∧ ∀ g4 : G, NewL g3 g4 62 [(.pointer x)] →
  ∃ (outa_1 : Option Addr) (outl_1 outc_1 : Nat) (wo1 : World), Sem.run Tryz.prog (Builtin.append_ #[64, 64] 64 #[(.slice outa outl outc), (.slice (some ⟨g3.w.heap.size, 0, none⟩) 1 1)]) g4.w = .ok (.slice outa_1 outl_1 outc_1) wo1 ∧ ∃ g5 : G, g5.w = wo1 ∧ Stp g.w.heap.size M g4 g5 ∧ InI64 (v_1 + (1 : Int)) ∧ (∃ m_2 : Nat, m_2 < m_1 ∧ Inv m_2 outa_1 outl_1 outc_1 (v_1 + (1 : Int)) g5)) (fun ch g6 => ∀ g7 : G, Ex g6 g7 → RP ch g7)))
  (∀ g8 : G, Ex g1 g8 →
  R (.slice outa outl outc) g8)
theorem F74_eq (m : Option Addr) (la : Option Addr) (ll : Nat) (lc : Nat) (f : Option Addr) (g : G) (M : Nat → Prop) (R : Value → G → Prop) (RP : List PanicEntry → G → Prop) : fnG (cfg74 RP) 25 [.tmp 6] c74 an74 [(.pointer m), (.slice la ll lc), (.pointer f)] g M R = F74 m la ll lc f g M R RP := by kernel_rfl
theorem call74 (m : Option Addr) (la : Option Addr) (ll : Nat) (lc : Nat) (f : Option Addr) (g : G) (M : Nat → Prop) (R : Value → G → Prop) (RP : List PanicEntry → G → Prop) (hF : F74 m la ll lc f g M R RP ) : CallsX Tryz.prog 74 #[(.pointer m), (.slice la ll lc), (.pointer f)] g M R RP :=
  fn_soundX (c := (cfg74 RP)) TTok FNSok mixed (.inr rfl) Tryz.func74 (show Tryz.f74.body = some c74 by kernel_rfl) (show Tryz.f74.ntmps = 25 by kernel_rfl) (show Tryz.f74.results.toList = [.tmp 6] by kernel_rfl) rfl ((F74_eq m la ll lc f g M R RP ).mpr hF)
noncomputable def c75 : Code := match Tryz.f75.body with
  | some c => c
  | none => .skip
noncomputable def cfg75 (RP : List PanicEntry → G → Prop) : Cfg := ⟨Tryz.prog, TT, FNS, [], [], [], TCH, false, false, some RP, PNF, false⟩
def an75 : AnnG := (.seq .leaf (.seq (.seq .leaf (.cond .leaf .leaf)) (.seq .leaf .leaf)))
def F75 (v_1 : Option Addr) (sort : Int) (g : G) (R : Value → G → Prop) (RP : List PanicEntry → G → Prop) : Prop :=
  derefP v_1 fun ad => ∃ x : Int, g.w.cell? ad = some (.int .i64 x) ∧ ifB (!eqI x sort)
  ((CallsX Tryz.prog 51 #[(.int .i64 (4 : Int)), (.int .i64 (0 : Int))] g nobody (fun v g1 =>
  v = (.tuple ⟨[]⟩) ∧ ∀ g2 : G, Ex g1 g2 →
  R (.pointer v_1) g2) (fun ch g3 => ∀ g4 : G, Ex g3 g4 → RP ch g4)))
  (∀ g5 : G, Ex g g5 →
  R (.pointer v_1) g5)
theorem F75_eq (v_1 : Option Addr) (sort : Int) (g : G) (R : Value → G → Prop) (RP : List PanicEntry → G → Prop) : fnG (cfg75 RP) 13 [.tmp 4] c75 an75 [(.pointer v_1), (.int .i64 sort)] g nobody R = F75 v_1 sort g R RP := by kernel_rfl
theorem call75 (v_1 : Option Addr) (sort : Int) (g : G) (R : Value → G → Prop) (RP : List PanicEntry → G → Prop) (hF : F75 v_1 sort g R RP ) : CallsX Tryz.prog 75 #[(.pointer v_1), (.int .i64 sort)] g nobody R RP :=
  fn_soundX (c := (cfg75 RP)) TTok FNSok mixed (.inr rfl) Tryz.func75 (show Tryz.f75.body = some c75 by kernel_rfl) (show Tryz.f75.ntmps = 13 by kernel_rfl) (show Tryz.f75.results.toList = [.tmp 4] by kernel_rfl) rfl ((F75_eq v_1 sort g R RP ).mpr hF)
noncomputable def c76 : Code := match Tryz.f76.body with
  | some c => c
  | none => .skip
noncomputable def cfg76 (RP : List PanicEntry → G → Prop) : Cfg := ⟨Tryz.prog, TT, FNS, [5], [(5, 5)], [], TCH, false, false, some RP, PNF, false⟩
def an76 : AnnG := (.seq .leaf (.seq (.tree 16 (.quiet 0 (.quiet 1 (.quiet 2 (.quiet 3 (.quiet 4 (.quiet 5 (.quiet 6 (.quiet 7 (.quiet 8 (.quiet 9 (.quiet 11 (.eff 10 (.eff 12 (.eff 13 (.eff 14 (.eff 15 .fin .fin) .fin) .fin) .fin) (.eff 12 (.eff 10 (.eff 13 (.eff 14 (.eff 15 .fin .fin) .fin) .fin) .fin) .fin)))))))))))))) .leaf))
def F76 (m : Option Addr) (x0 : Int) (x1 : Int) (x2 : ByteArray) (x3a : Option Addr) (x3l : Nat) (x3c : Nat) (f : Option Addr) (v_1 : Option Addr) (g : G) (M : Nat → Prop) (R : Value → G → Prop) (RP : List PanicEntry → G → Prop) : Prop :=
  ∀ g1 : G, Ex g g1 →
  derefP f fun ad => ∃ x : Option Addr, g1.w.cell? ad = some (.pointer x) ∧ derefP f fun ad_1 => ∃ (xa : Option Addr) (xl xc : Nat), g1.w.cell? (Addr.add ad_1 1) = some (.slice xa xl xc) ∧ ((CallsP Tryz.prog 97 #[(.slice xa xl xc)] g1 fun v g2 =>
  ∃ (xa_1 : Option Addr) (xl_1 xc_1 : Nat), v = (.slice xa_1 xl_1 xc_1) ∧ ∀ g3 : G, NewL g2 g3 62 [(.pointer v_1)] →
  ∃ (xa_2 : Option Addr) (xl_2 xc_2 : Nat) (wo1 : World), Sem.run Tryz.prog (Builtin.append_ #[64, 64] 64 #[(.slice xa_1 xl_1 xc_1), (.slice (some ⟨g2.w.heap.size, 0, none⟩) 1 1)]) g3.w = .ok (.slice xa_2 xl_2 xc_2) wo1 ∧ ∃ g4 : G, g4.w = wo1 ∧ Stp g.w.heap.size M g3 g4 ∧ SameB g1 g4 ∧ ∀ g5 : G, NewD g4 g5 105 ([(.pointer x), (.slice xa_2 xl_2 xc_2)] : List Value) →
  ∃ M1 : Nat → Prop, (∀ b, b < g.w.heap.size → M1 b → M b) ∧ (CallsX Tryz.prog 50 #[(.pointer m), (.agg ⟨[(.int .i64 x0), (.int .i64 x1), (.string x2), (.slice x3a x3l x3c)]⟩), (.pointer (some ⟨g4.w.heap.size, 0, none⟩))] g5 M1 (fun v g6 =>
  ∃ x_1 : Option Addr, v = (.pointer x_1) ∧ ∀ g7 : G, Ex g6 g7 →
  R (.pointer x_1) g7) (fun ch g8 => ∀ g9 : G, Ex g8 g9 → RP ch g9)))) ∧ (∀ g10 : G, NewL g1 g10 62 [(.pointer v_1)] →
  (CallsP Tryz.prog 97 #[(.slice xa xl xc)] g10 fun v g11 =>
  ∃ (xa_3 : Option Addr) (xl_3 xc_3 : Nat), v = (.slice xa_3 xl_3 xc_3) ∧ ∃ (xa_4 : Option Addr) (xl_4 xc_4 : Nat) (wo2 : World), Sem.run Tryz.prog (Builtin.append_ #[64, 64] 64 #[(.slice xa_3 xl_3 xc_3), (.slice (some ⟨g1.w.heap.size, 0, none⟩) 1 1)]) g11.w = .ok (.slice xa_4 xl_4 xc_4) wo2 ∧ ∃ g12 : G, g12.w = wo2 ∧ Stp g.w.heap.size M g11 g12 ∧ SameB g1 g12 ∧ ∀ g13 : G, NewD g12 g13 105 ([(.pointer x), (.slice xa_4 xl_4 xc_4)] : List Value) →
  ∃ M2 : Nat → Prop, (∀ b, b < g.w.heap.size → M2 b → M b) ∧ (CallsX Tryz.prog 50 #[(.pointer m), (.agg ⟨[(.int .i64 x0), (.int .i64 x1), (.string x2), (.slice x3a x3l x3c)]⟩), (.pointer (some ⟨g12.w.heap.size, 0, none⟩))] g13 M2 (fun v g14 =>
  ∃ x_2 : Option Addr, v = (.pointer x_2) ∧ ∀ g15 : G, Ex g14 g15 →
  R (.pointer x_2) g15) (fun ch g16 => ∀ g17 : G, Ex g16 g17 → RP ch g17))))
theorem F76_eq (m : Option Addr) (x0 : Int) (x1 : Int) (x2 : ByteArray) (x3a : Option Addr) (x3l : Nat) (x3c : Nat) (f : Option Addr) (v_1 : Option Addr) (g : G) (M : Nat → Prop) (R : Value → G → Prop) (RP : List PanicEntry → G → Prop) : fnG (cfg76 RP) 26 [.tmp 8] c76 an76 [(.pointer m), (.agg ⟨[(.int .i64 x0), (.int .i64 x1), (.string x2), (.slice x3a x3l x3c)]⟩), (.pointer f), (.pointer v_1)] g M R = F76 m x0 x1 x2 x3a x3l x3c f v_1 g M R RP := by kernel_rfl
theorem call76 (m : Option Addr) (x0 : Int) (x1 : Int) (x2 : ByteArray) (x3a : Option Addr) (x3l : Nat) (x3c : Nat) (f : Option Addr) (v_1 : Option Addr) (g : G) (M : Nat → Prop) (R : Value → G → Prop) (RP : List PanicEntry → G → Prop) (hF : F76 m x0 x1 x2 x3a x3l x3c f v_1 g M R RP ) : CallsX Tryz.prog 76 #[(.pointer m), (.agg ⟨[(.int .i64 x0), (.int .i64 x1), (.string x2), (.slice x3a x3l x3c)]⟩), (.pointer f), (.pointer v_1)] g M R RP :=
  fn_soundX (c := (cfg76 RP)) TTok FNSok mixed (.inr rfl) Tryz.func76 (show Tryz.f76.body = some c76 by kernel_rfl) (show Tryz.f76.ntmps = 26 by kernel_rfl) (show Tryz.f76.results.toList = [.tmp 8] by kernel_rfl) rfl ((F76_eq m x0 x1 x2 x3a x3l x3c f v_1 g M R RP ).mpr hF)
noncomputable def c77 : Code := match Tryz.f77.body with
  | some c => c
  | none => .skip
noncomputable def cfg77 (RP : List PanicEntry → G → Prop) : Cfg := ⟨Tryz.prog, TT, FNS, [], [], [], TCH, false, false, some RP, PNF, false⟩
def an77 : AnnG := (.seq .leaf (.seq .leaf (.join ⟨[(7, .int .i64)], [], []⟩ (.seq .leaf (.blk (.seq (.seq .leaf (.cond .leaf (.seq .leaf (.cond .leaf (.seq .leaf (.cond .leaf .leaf)))))) (.cond .leaf .leaf)))) (.seq (.seq .leaf (.blk (.loop ⟨[(20, .int .i64)], [], []⟩ (.seq .leaf (.seq (.cond .leaf .leaf) (.seq (.blk (.seq .leaf .leaf)) .leaf)))))) (.seq (.treeB 10 (.quiet 0 (.quiet 1 (.quiet 2 (.quiet 3 (.quiet 4 (.quiet 5 (.quiet 6 (.quiet 7 (.quiet 8 (.quiet 9 .fin))))))))))) (.seq (.seq .leaf (.blk (.seq .leaf (.cond (.seq (.treeB 8 (.quiet 0 (.quiet 1 (.quiet 2 (.quiet 3 (.quiet 4 (.quiet 5 (.quiet 6 (.quiet 7 .fin))))))))) .leaf) (.seq .leaf (.cond (.seq (.treeB 8 (.quiet 0 (.quiet 1 (.quiet 2 (.quiet 3 (.quiet 4 (.quiet 5 (.quiet 6 (.quiet 7 .fin))))))))) .leaf) (.seq .leaf (.cond (.seq (.treeB 8 (.quiet 0 (.quiet 1 (.quiet 2 (.quiet 3 (.quiet 4 (.quiet 5 (.quiet 6 (.quiet 7 .fin))))))))) .leaf) (.seq .leaf (.cond (.seq .leaf .leaf) (.join ⟨[(81, .bool)], [], []⟩ (.seq .leaf (.cond .leaf .leaf)) (.cond (.join ⟨[], [], []⟩ (.seq .leaf (.cond .leaf .leaf)) (.seq (.seq .leaf (.cond (.seq (.treeB 8 (.quiet 0 (.quiet 1 (.quiet 2 (.quiet 3 (.quiet 4 (.quiet 5 (.quiet 6 (.quiet 7 .fin))))))))) .leaf) .leaf)) (.seq (.treeB 8 (.quiet 0 (.quiet 1 (.quiet 2 (.quiet 3 (.quiet 4 (.quiet 5 (.quiet 6 (.quiet 7 .fin))))))))) .leaf))) (.seq .leaf (.cond (.seq (.treeB 8 (.quiet 0 (.quiet 1 (.quiet 2 (.quiet 3 (.quiet 4 (.quiet 5 (.quiet 6 (.quiet 7 .fin))))))))) .leaf) (.seq .leaf (.cond (.seq (.treeB 8 (.quiet 0 (.quiet 1 (.quiet 2 (.quiet 3 (.quiet 4 (.quiet 5 (.quiet 6 (.quiet 7 .fin))))))))) .leaf) (.seq .leaf (.cond (.seq (.treeB 8 (.quiet 0 (.quiet 1 (.quiet 2 (.quiet 3 (.quiet 4 (.quiet 5 (.quiet 6 (.quiet 7 .fin))))))))) .leaf) (.seq .leaf (.cond (.seq (.treeB 8 (.quiet 0 (.quiet 1 (.quiet 2 (.quiet 3 (.quiet 4 (.quiet 5 (.quiet 6 (.quiet 7 .fin))))))))) .leaf) (.seq .leaf (.cond (.seq (.treeB 8 (.quiet 0 (.quiet 1 (.quiet 2 (.quiet 3 (.quiet 4 (.quiet 5 (.quiet 6 (.quiet 7 .fin))))))))) .leaf) (.seq .leaf (.cond (.seq .leaf .leaf) (.seq .leaf (.cond (.seq .leaf .leaf) .leaf)))))))))))))))))))))))))) (.join ⟨[], [], []⟩ (.seq .leaf (.cond .leaf .leaf)) (.seq (.treeB 11 (.quiet 0 (.quiet 1 (.quiet 2 (.quiet 3 (.quiet 4 (.quiet 5 (.quiet 6 (.quiet 7 (.quiet 8 (.eff 9 (.eff 10 .fin .fin) .fin))))))))))) (.seq .leaf .leaf)))))))))
def F77 (m : Option Addr) (n : Int) (la : Option Addr) (ll : Nat) (lc : Nat) (g : G) (M : Nat → Prop) (R : Value → G → Prop) (RP : List PanicEntry → G → Prop) : Prop :=
  ∀ J : Int → G → Prop,
  (∀ (sort : Int) (g1 : G), (∃ Inv : Nat → Int → G → Prop, ((∃ m0 : Nat, Inv m0 (0 : Int) g1)) ∧
  ∀ (m_1 : Nat) (v_1 : Int) (g2 : G), Le g1 g2 → Inv m_1 v_1 g2 →
  ifB (ltI v_1 ((ll : Nat) : Int))
  ((0 ≤ v_1 ∧ v_1 < ((ll : Nat) : Int)) ∧ derefP la fun ad => ∃ v_2 : Option Addr, g2.w.cell? (Addr.add ad (Int.toNat v_1 * 1)) = some (.pointer v_2) ∧ (CallsX Tryz.prog 75 #[(.pointer v_2), (.int .i64 sort)] g2 nobody (fun v g3 =>
  ∃ x : Option Addr, v = (.pointer x) ∧ InI64 (v_1 + (1 : Int)) ∧ (∃ m_2 : Nat, m_2 < m_1 ∧ Inv m_2 (v_1 + (1 : Int)) g3)) (fun ch g4 => ∀ g5 : G, Ex g4 g5 → RP ch g5)))
  (∀ g6 : G, Ex g2 g6 →
  ∃ MR1 : Nat → Prop, (∀ b, MR1 b → ¬ g6.X b) ∧ (0 ≤ (0 : Int) ∧ (0 : Int) < ((ll : Nat) : Int)) ∧ derefP la fun ad_1 => ¬ MR1 (Addr.block (Addr.add ad_1 (Int.toNat (0 : Int) * 1))) ∧ ∃ a : Option Addr, g6.w.cell? (Addr.add ad_1 (Int.toNat (0 : Int) * 1)) = some (.pointer a) ∧ InI64 (((ll : Nat) : Int) - (1 : Int)) ∧ (0 ≤ (((ll : Nat) : Int) - (1 : Int)) ∧ (((ll : Nat) : Int) - (1 : Int)) < ((ll : Nat) : Int)) ∧ derefP la fun ad_2 => ¬ MR1 (Addr.block (Addr.add ad_2 (Int.toNat (((ll : Nat) : Int) - (1 : Int)) * 1))) ∧ ∃ b : Option Addr, g6.w.cell? (Addr.add ad_2 (Int.toNat (((ll : Nat) : Int) - (1 : Int)) * 1)) = some (.pointer b) ∧ ifB (eqI n (1 : Int))
  (∀ g7 : G, Ex g6 g7 →
  ∃ MR2 : Nat → Prop, (∀ b, MR2 b → ¬ g7.X b) ∧ derefP a fun ad_3 => ¬ MR2 (Addr.block (Addr.add ad_3 1)) ∧ ∃ x_1 : Int, g7.w.cell? (Addr.add ad_3 1) = some (.int .i64 x_1) ∧ derefP b fun ad_4 => ¬ MR2 (Addr.block (Addr.add ad_4 1)) ∧ ∃ x_2 : Int, g7.w.cell? (Addr.add ad_4 1) = some (.int .i64 x_2) ∧ InI64 (x_1 + x_2) ∧ (CallsX Tryz.prog 98 #[(.int .i64 (x_1 + x_2))] g7 nobody (fun v g8 =>
  ∃ x_3 : Option Addr, v = (.pointer x_3) ∧ ∀ g9 : G, Ex g8 g9 →
  R (.pointer x_3) g9) (fun ch g10 => ∀ g11 : G, Ex g10 g11 → RP ch g11)))
  (ifB (eqI n (2 : Int))
  (∀ g12 : G, Ex g6 g12 →
  ∃ MR3 : Nat → Prop, (∀ b, MR3 b → ¬ g12.X b) ∧ derefP a fun ad_5 => ¬ MR3 (Addr.block (Addr.add ad_5 1)) ∧ ∃ x_4 : Int, g12.w.cell? (Addr.add ad_5 1) = some (.int .i64 x_4) ∧ derefP b fun ad_6 => ¬ MR3 (Addr.block (Addr.add ad_6 1)) ∧ ∃ x_5 : Int, g12.w.cell? (Addr.add ad_6 1) = some (.int .i64 x_5) ∧ InI64 (x_4 - x_5) ∧ (CallsX Tryz.prog 98 #[(.int .i64 (x_4 - x_5))] g12 nobody (fun v g13 =>
  ∃ x_6 : Option Addr, v = (.pointer x_6) ∧ ∀ g14 : G, Ex g13 g14 →
  R (.pointer x_6) g14) (fun ch g15 => ∀ g16 : G, Ex g15 g16 → RP ch g16)))
  (ifB (eqI n (3 : Int))
  (∀ g17 : G, Ex g6 g17 →
  ∃ MR4 : Nat → Prop, (∀ b, MR4 b → ¬ g17.X b) ∧ derefP a fun ad_7 => ¬ MR4 (Addr.block (Addr.add ad_7 1)) ∧ ∃ x_7 : Int, g17.w.cell? (Addr.add ad_7 1) = some (.int .i64 x_7) ∧ derefP b fun ad_8 => ¬ MR4 (Addr.block (Addr.add ad_8 1)) ∧ ∃ x_8 : Int, g17.w.cell? (Addr.add ad_8 1) = some (.int .i64 x_8) ∧ (CallsX Tryz.prog 99 #[(.int .i64 x_7), (.int .i64 x_8)] g17 nobody (fun v g18 =>
  ∃ x_9 : Option Addr, v = (.pointer x_9) ∧ ∀ g19 : G, Ex g18 g19 →
  R (.pointer x_9) g19) (fun ch g20 => ∀ g21 : G, Ex g20 g21 → RP ch g21)))
  (ifB (eqI n (6 : Int))
  (derefP a fun ad_9 => ∃ x_10 : Int, g6.w.cell? (Addr.add ad_9 1) = some (.int .i64 x_10) ∧ InI64 ((0 : Int) - x_10) ∧ (CallsX Tryz.prog 98 #[(.int .i64 ((0 : Int) - x_10))] g6 nobody (fun v g22 =>
  ∃ x_11 : Option Addr, v = (.pointer x_11) ∧ ∀ g23 : G, Ex g22 g23 →
  R (.pointer x_11) g23) (fun ch g24 => ∀ g25 : G, Ex g24 g25 → RP ch g25)))
  (∀ J_1 : Bool → G → Prop,
  (∀ (v_3 : Bool) (g26 : G), (ifB v_3
  (∀ J_2 : G → Prop,
  (∀ g27 : G, (ifB (eqI n (4 : Int))
  (∀ g28 : G, Ex g27 g28 →
  ∃ MR5 : Nat → Prop, (∀ b, MR5 b → ¬ g28.X b) ∧ derefP a fun ad_10 => ¬ MR5 (Addr.block (Addr.add ad_10 1)) ∧ ∃ x_12 : Int, g28.w.cell? (Addr.add ad_10 1) = some (.int .i64 x_12) ∧ derefP b fun ad_11 => ¬ MR5 (Addr.block (Addr.add ad_11 1)) ∧ ∃ x_13 : Int, g28.w.cell? (Addr.add ad_11 1) = some (.int .i64 x_13) ∧ x_13 ≠ 0 ∧ InI64 (Int.tdiv x_12 x_13) ∧ (CallsX Tryz.prog 98 #[(.int .i64 (Int.tdiv x_12 x_13))] g28 nobody (fun v g29 =>
  ∃ x_14 : Option Addr, v = (.pointer x_14) ∧ ∀ g30 : G, Ex g29 g30 →
  R (.pointer x_14) g30) (fun ch g31 => ∀ g32 : G, Ex g31 g32 → RP ch g32)))
  (∀ g33 : G, Ex g27 g33 →
  ∃ MR6 : Nat → Prop, (∀ b, MR6 b → ¬ g33.X b) ∧ derefP a fun ad_12 => ¬ MR6 (Addr.block (Addr.add ad_12 1)) ∧ ∃ x_15 : Int, g33.w.cell? (Addr.add ad_12 1) = some (.int .i64 x_15) ∧ derefP b fun ad_13 => ¬ MR6 (Addr.block (Addr.add ad_13 1)) ∧ ∃ x_16 : Int, g33.w.cell? (Addr.add ad_13 1) = some (.int .i64 x_16) ∧ x_16 ≠ 0 ∧ (CallsX Tryz.prog 98 #[(.int .i64 (Int.tmod x_15 x_16))] g33 nobody (fun v g34 =>
  ∃ x_17 : Option Addr, v = (.pointer x_17) ∧ ∀ g35 : G, Ex g34 g35 →
  R (.pointer x_17) g35) (fun ch g36 => ∀ g37 : G, Ex g36 g37 → RP ch g37)))) → J_2 g27) →
  derefP b fun ad_14 => ∃ x_18 : Int, g26.w.cell? (Addr.add ad_14 1) = some (.int .i64 x_18) ∧ ifB (eqI x_18 (0 : Int))
  ((CallsX Tryz.prog 51 #[(.int .i64 (2 : Int)), (.int .i64 (3 : Int))] g26 nobody (fun v g38 =>
  v = (.tuple ⟨[]⟩) ∧ J_2 g38) (fun ch g39 => ∀ g40 : G, Ex g39 g40 → RP ch g40)))
  (J_2 g26))
  (ifB (eqI n (7 : Int))
  (∀ g41 : G, Ex g26 g41 →
  ∃ MR7 : Nat → Prop, (∀ b, MR7 b → ¬ g41.X b) ∧ derefP a fun ad_15 => ¬ MR7 (Addr.block (Addr.add ad_15 1)) ∧ ∃ x_19 : Int, g41.w.cell? (Addr.add ad_15 1) = some (.int .i64 x_19) ∧ derefP b fun ad_16 => ¬ MR7 (Addr.block (Addr.add ad_16 1)) ∧ ∃ x_20 : Int, g41.w.cell? (Addr.add ad_16 1) = some (.int .i64 x_20) ∧ (CallsP Tryz.prog 100 #[(.bool (ltI x_19 x_20))] g41 fun v g42 =>
  ∃ x_21 : Option Addr, v = (.pointer x_21) ∧ ∀ g43 : G, Ex g42 g43 →
  R (.pointer x_21) g43))
  (ifB (eqI n (8 : Int))
  (∀ g44 : G, Ex g26 g44 →
  ∃ MR8 : Nat → Prop, (∀ b, MR8 b → ¬ g44.X b) ∧ derefP a fun ad_17 => ¬ MR8 (Addr.block (Addr.add ad_17 1)) ∧ ∃ x_22 : Int, g44.w.cell? (Addr.add ad_17 1) = some (.int .i64 x_22) ∧ derefP b fun ad_18 => ¬ MR8 (Addr.block (Addr.add ad_18 1)) ∧ ∃ x_23 : Int, g44.w.cell? (Addr.add ad_18 1) = some (.int .i64 x_23) ∧ (CallsP Tryz.prog 100 #[(.bool (leI x_22 x_23))] g44 fun v g45 =>
  ∃ x_24 : Option Addr, v = (.pointer x_24) ∧ ∀ g46 : G, Ex g45 g46 →
  R (.pointer x_24) g46))
  (ifB (eqI n (9 : Int))
  (∀ g47 : G, Ex g26 g47 →
  ∃ MR9 : Nat → Prop, (∀ b, MR9 b → ¬ g47.X b) ∧ derefP a fun ad_19 => ¬ MR9 (Addr.block (Addr.add ad_19 1)) ∧ ∃ x_25 : Int, g47.w.cell? (Addr.add ad_19 1) = some (.int .i64 x_25) ∧ derefP b fun ad_20 => ¬ MR9 (Addr.block (Addr.add ad_20 1)) ∧ ∃ x_26 : Int, g47.w.cell? (Addr.add ad_20 1) = some (.int .i64 x_26) ∧ (CallsP Tryz.prog 100 #[(.bool (eqI x_25 x_26))] g47 fun v g48 =>
  ∃ x_27 : Option Addr, v = (.pointer x_27) ∧ ∀ g49 : G, Ex g48 g49 →
  R (.pointer x_27) g49))
  (ifB (eqI n (12 : Int))
  (∀ g50 : G, Ex g26 g50 →
  ∃ MR10 : Nat → Prop, (∀ b, MR10 b → ¬ g50.X b) ∧ derefP a fun ad_21 => ¬ MR10 (Addr.block (Addr.add ad_21 2)) ∧ ∃ x_28 : ByteArray, g50.w.cell? (Addr.add ad_21 2) = some (.string x_28) ∧ derefP b fun ad_22 => ¬ MR10 (Addr.block (Addr.add ad_22 2)) ∧ ∃ x_29 : ByteArray, g50.w.cell? (Addr.add ad_22 2) = some (.string x_29) ∧ (CallsP Tryz.prog 100 #[(.bool (strEq x_28 x_29))] g50 fun v g51 =>
  ∃ x_30 : Option Addr, v = (.pointer x_30) ∧ ∀ g52 : G, Ex g51 g52 →
  R (.pointer x_30) g52))
  (ifB (eqI n (10 : Int))
  (∀ g53 : G, Ex g26 g53 →
  ∃ MR11 : Nat → Prop, (∀ b, MR11 b → ¬ g53.X b) ∧ derefP a fun ad_23 => ¬ MR11 (Addr.block (Addr.add ad_23 2)) ∧ ∃ x_31 : ByteArray, g53.w.cell? (Addr.add ad_23 2) = some (.string x_31) ∧ derefP b fun ad_24 => ¬ MR11 (Addr.block (Addr.add ad_24 2)) ∧ ∃ x_32 : ByteArray, g53.w.cell? (Addr.add ad_24 2) = some (.string x_32) ∧ x_31.size + x_32.size ≤ 9223372036854775807 ∧ (CallsX Tryz.prog 101 #[(.string (x_31 ++ x_32))] g53 nobody (fun v g54 =>
  ∃ x_33 : Option Addr, v = (.pointer x_33) ∧ ∀ g55 : G, Ex g54 g55 →
  R (.pointer x_33) g55) (fun ch g56 => ∀ g57 : G, Ex g56 g57 → RP ch g57)))
  (ifB (eqI n (11 : Int))
  (derefP a fun ad_25 => ∃ x_34 : ByteArray, g26.w.cell? (Addr.add ad_25 2) = some (.string x_34) ∧ (CallsX Tryz.prog 98 #[(.int .i64 ((x_34.size : Nat) : Int))] g26 nobody (fun v g58 =>
  ∃ x_35 : Option Addr, v = (.pointer x_35) ∧ ∀ g59 : G, Ex g58 g59 →
  R (.pointer x_35) g59) (fun ch g60 => ∀ g61 : G, Ex g60 g61 → RP ch g61)))
  (ifB (eqI n (13 : Int))
  (derefP a fun ad_26 => ∃ x_36 : Int, g26.w.cell? (Addr.add ad_26 1) = some (.int .i64 x_36) ∧ (CallsP Tryz.prog 102 #[(.int .i64 x_36)] g26 fun v g62 =>
  ∃ x_37 : ByteArray, v = (.string x_37) ∧ (CallsX Tryz.prog 101 #[(.string x_37)] g62 nobody (fun v g63 =>
  ∃ x_38 : Option Addr, v = (.pointer x_38) ∧ ∀ g64 : G, Ex g63 g64 →
  R (.pointer x_38) g64) (fun ch g65 => ∀ g66 : G, Ex g65 g66 → RP ch g66))))
  (∀ J_3 : G → Prop,
  (∀ g67 : G, (∀ g68 : G, Ex g67 g68 →
  ∃ MR12 : Nat → Prop, (∀ b, MR12 b → ¬ g68.X b) ∧ derefP m fun ad_27 => ¬ MR12 (Addr.block (Addr.add ad_27 3)) ∧ ∃ (xa : Option Addr) (xl xc : Nat), g68.w.cell? (Addr.add ad_27 3) = some (.slice xa xl xc) ∧ derefP a fun ad_28 => ¬ MR12 (Addr.block (Addr.add ad_28 2)) ∧ ∃ x_39 : ByteArray, g68.w.cell? (Addr.add ad_28 2) = some (.string x_39) ∧ ∀ g69 : G, NewL g68 g69 9 [(.string x_39)] →
  ∃ (xa_1 : Option Addr) (xl_1 xc_1 : Nat) (wo1 : World), Sem.run Tryz.prog (Builtin.append_ #[25, 25] 25 #[(.slice xa xl xc), (.slice (some ⟨g68.w.heap.size, 0, none⟩) 1 1)]) g69.w = .ok (.slice xa_1 xl_1 xc_1) wo1 ∧ ∃ g70 : G, g70.w = wo1 ∧ Stp g.w.heap.size M g69 g70 ∧ SameBut MR12 g68 g70 ∧ derefP m fun ad_29 => stOk g70.w (Addr.add ad_29 3) 1 ∧ ¬ g70.X (Addr.block (Addr.add ad_29 3)) ∧ mutAt g70 (Addr.add ad_29 3) 1 ∧ ((Addr.block (Addr.add ad_29 3)) < g.w.heap.size → M (Addr.block (Addr.add ad_29 3))) ∧ ∀ g71 : G, StG false g70 (Addr.add ad_29 3) [(.slice xa_1 xl_1 xc_1)] g71 →
  (CallsP Tryz.prog 26 #[] g71 fun v g72 =>
  ∃ x_40 : Option Addr, v = (.pointer x_40) ∧ ∀ g73 : G, Ex g72 g73 →
  R (.pointer x_40) g73)) → J_3 g67) →
  derefP m fun ad_30 => ∃ (xa_2 : Option Addr) (xl_2 xc_2 : Nat), g26.w.cell? (Addr.add ad_30 3) = some (.slice xa_2 xl_2 xc_2) ∧ ifB (eqI ((xl_2 : Nat) : Int) (1000 : Int))
  ((CallsX Tryz.prog 51 #[(.int .i64 (2 : Int)), (.int .i64 (2 : Int))] g26 nobody (fun v g74 =>
  v = (.tuple ⟨[]⟩) ∧ J_3 g74) (fun ch g75 => ∀ g76 : G, Ex g75 g76 → RP ch g76)))
  (J_3 g26)))))))))) → J_1 v_3 g26) →
  ifB (eqI n (4 : Int))
  (J_1 true g6)
  (J_1 (eqI n (5 : Int)) g6))))))) → J sort g1) →
  ifB (eqI n (10 : Int))
  (J (2 : Int) g)
  (ifB (eqI n (11 : Int))
  (J (2 : Int) g)
  (ifB (eqI n (12 : Int))
  (J (2 : Int) g)
  (ifB (eqI n (14 : Int))
  (J (2 : Int) g)
  (J (1 : Int) g))))
theorem F77_eq (m : Option Addr) (n : Int) (la : Option Addr) (ll : Nat) (lc : Nat) (g : G) (M : Nat → Prop) (R : Value → G → Prop) (RP : List PanicEntry → G → Prop) : fnG (cfg77 RP) 209 [.tmp 6] c77 an77 [(.pointer m), (.int .i64 n), (.slice la ll lc)] g M R = F77 m n la ll lc g M R RP := by kernel_rfl
theorem call77 (m : Option Addr) (n : Int) (la : Option Addr) (ll : Nat) (lc : Nat) (g : G) (M : Nat → Prop) (R : Value → G → Prop) (RP : List PanicEntry → G → Prop) (hF : F77 m n la ll lc g M R RP ) : CallsX Tryz.prog 77 #[(.pointer m), (.int .i64 n), (.slice la ll lc)] g M R RP :=
  fn_soundX (c := (cfg77 RP)) TTok FNSok mixed (.inr rfl) Tryz.func77 (show Tryz.f77.body = some c77 by kernel_rfl) (show Tryz.f77.ntmps = 209 by kernel_rfl) (show Tryz.f77.results.toList = [.tmp 6] by kernel_rfl) rfl ((F77_eq m n la ll lc g M R RP ).mpr hF)
noncomputable def c97 : Code := match Tryz.f97.body with
  | some c => c
  | none => .skip
noncomputable def cfg97 : Cfg := ⟨Tryz.prog, TT, FNS, [], [], [], TCH, false, false, none, PNF, false⟩
def an97 : AnnG := (.seq .leaf (.seq .leaf .leaf))
def F97 (sa : Option Addr) (sl : Nat) (sc : Nat) (g : G) (R : Value → G → Prop) : Prop :=
  (0 ≤ ((sl : Nat) : Int) ∧ ((sl : Nat) : Int) ≤ ((sc : Nat) : Int)) ∧ (0 ≤ ((sl : Nat) : Int) ∧ ((sl : Nat) : Int) ≤ (((Int.toNat ((sl : Nat) : Int)) : Nat) : Int)) ∧ ∀ g1 : G, Ex g g1 →
  R (.slice (slAddr sa (Int.toNat ((sl : Nat) : Int)) 0 1) ((Int.toNat ((sl : Nat) : Int)) - 0) ((Int.toNat ((sl : Nat) : Int)) - 0)) g1
theorem F97_eq (sa : Option Addr) (sl : Nat) (sc : Nat) (g : G) (R : Value → G → Prop) : fnG cfg97 9 [.tmp 2] c97 an97 [(.slice sa sl sc)] g nobody R = F97 sa sl sc g R := by kernel_rfl
theorem call97 (sa : Option Addr) (sl : Nat) (sc : Nat) (g : G) (R : Value → G → Prop) (hF : F97 sa sl sc g R) : CallsG Tryz.prog 97 #[(.slice sa sl sc)] g nobody R :=
  fn_soundG (c := cfg97) TTok FNSok mixed Tryz.func97 (show Tryz.f97.body = some c97 by kernel_rfl) (show Tryz.f97.ntmps = 9 by kernel_rfl) (show Tryz.f97.results.toList = [.tmp 2] by kernel_rfl) rfl ((F97_eq sa sl sc g R ).mpr hF)
noncomputable def c98 : Code := match Tryz.f98.body with
  | some c => c
  | none => .skip
noncomputable def cfg98 (RP : List PanicEntry → G → Prop) : Cfg := ⟨Tryz.prog, TT, FNS, [], [], [9], TCH, false, false, some RP, PNF, false⟩
def an98 : AnnG := (.seq .leaf (.seq (.seq .leaf (.cond .leaf .leaf)) (.seq .leaf .leaf)))
def F98 (n : Int) (g : G) (R : Value → G → Prop) (RP : List PanicEntry → G → Prop) : Prop :=
  (CallsP Tryz.prog 41 #[(.int .i64 n), (.int .i64 (-4503599627370496 : Int)), (.int .i64 (4503599627370496 : Int))] g fun v g1 =>
  ∃ x : Bool, v = (.bool x) ∧ ifB (!x)
  ((CallsX Tryz.prog 51 #[(.int .i64 (2 : Int)), (.int .i64 (2 : Int))] g1 nobody (fun v g2 =>
  v = (.tuple ⟨[]⟩) ∧ ∀ g3 : G, NewL g2 g3 66 ([(.int .i64 (1 : Int)), (.int .i64 n), (.string (bs [])), (.slice none 0 0)] : List Value) →
  ∀ g4 : G, Ex g3 g4 →
  R (.pointer (some ⟨g2.w.heap.size, 0, none⟩)) g4) (fun ch g5 => ∀ g6 : G, Ex g5 g6 → RP ch g6)))
  (∀ g7 : G, NewL g1 g7 66 ([(.int .i64 (1 : Int)), (.int .i64 n), (.string (bs [])), (.slice none 0 0)] : List Value) →
  ∀ g8 : G, Ex g7 g8 →
  R (.pointer (some ⟨g1.w.heap.size, 0, none⟩)) g8))
theorem F98_eq (n : Int) (g : G) (R : Value → G → Prop) (RP : List PanicEntry → G → Prop) : fnG (cfg98 RP) 10 [.tmp 2] c98 an98 [(.int .i64 n)] g nobody R = F98 n g R RP := by kernel_rfl
theorem call98 (n : Int) (g : G) (R : Value → G → Prop) (RP : List PanicEntry → G → Prop) (hF : F98 n g R RP ) : CallsX Tryz.prog 98 #[(.int .i64 n)] g nobody R RP :=
  fn_soundX (c := (cfg98 RP)) TTok FNSok mixed (.inr rfl) Tryz.func98 (show Tryz.f98.body = some c98 by kernel_rfl) (show Tryz.f98.ntmps = 10 by kernel_rfl) (show Tryz.f98.results.toList = [.tmp 2] by kernel_rfl) rfl ((F98_eq n g R RP ).mpr hF)
noncomputable def c99 : Code := match Tryz.f99.body with
  | some c => c
  | none => .skip
noncomputable def cfg99 (RP : List PanicEntry → G → Prop) : Cfg := ⟨Tryz.prog, TT, FNS, [], [], [], TCH, false, false, some RP, PNF, false⟩
def an99 : AnnG := (.seq .leaf (.join ⟨[], [], []⟩ (.seq .leaf (.cond .leaf .leaf)) (.seq .leaf .leaf)))
def F99 (a : Int) (b : Int) (g : G) (R : Value → G → Prop) (RP : List PanicEntry → G → Prop) : Prop :=
  ∀ J : G → Prop,
  (∀ g1 : G, (InI64 (a * b) ∧ (CallsX Tryz.prog 98 #[(.int .i64 (a * b))] g1 nobody (fun v g2 =>
  ∃ x : Option Addr, v = (.pointer x) ∧ ∀ g3 : G, Ex g2 g3 →
  R (.pointer x) g3) (fun ch g4 => ∀ g5 : G, Ex g4 g5 → RP ch g5))) → J g1) →
  ifB (!eqI a (0 : Int))
  (InI64 ((0 : Int) - b) ∧ InI64 ((0 : Int) - a) ∧ (maxI a ((0 : Int) - a)) ≠ 0 ∧ InI64 (Int.tdiv (4503599627370496 : Int) (maxI a ((0 : Int) - a))) ∧ ifB (ltI (Int.tdiv (4503599627370496 : Int) (maxI a ((0 : Int) - a))) (maxI b ((0 : Int) - b)))
  ((CallsX Tryz.prog 51 #[(.int .i64 (2 : Int)), (.int .i64 (2 : Int))] g nobody (fun v g6 =>
  v = (.tuple ⟨[]⟩) ∧ J g6) (fun ch g7 => ∀ g8 : G, Ex g7 g8 → RP ch g8)))
  (J g))
  (J g)
theorem F99_eq (a : Int) (b : Int) (g : G) (R : Value → G → Prop) (RP : List PanicEntry → G → Prop) : fnG (cfg99 RP) 24 [.tmp 4] c99 an99 [(.int .i64 a), (.int .i64 b)] g nobody R = F99 a b g R RP := by kernel_rfl
theorem call99 (a : Int) (b : Int) (g : G) (R : Value → G → Prop) (RP : List PanicEntry → G → Prop) (hF : F99 a b g R RP ) : CallsX Tryz.prog 99 #[(.int .i64 a), (.int .i64 b)] g nobody R RP :=
  fn_soundX (c := (cfg99 RP)) TTok FNSok mixed (.inr rfl) Tryz.func99 (show Tryz.f99.body = some c99 by kernel_rfl) (show Tryz.f99.ntmps = 24 by kernel_rfl) (show Tryz.f99.results.toList = [.tmp 4] by kernel_rfl) rfl ((F99_eq a b g R RP ).mpr hF)
noncomputable def c100 : Code := match Tryz.f100.body with
  | some c => c
  | none => .skip
noncomputable def cfg100 : Cfg := ⟨Tryz.prog, TT, FNS, [], [], [], TCH, false, false, none, PNF, false⟩
def an100 : AnnG := (.seq .leaf (.seq .leaf (.seq (.seq .leaf (.cond .leaf .leaf)) (.seq .leaf .leaf))))
def F100 (b : Bool) (g : G) (R : Value → G → Prop) : Prop :=
  (CallsP Tryz.prog 26 #[] g fun v g1 =>
  ∃ x : Option Addr, v = (.pointer x) ∧ ∀ g2 : G, NewL g1 g2 62 [(.pointer x)] →
  ∀ g3 : G, NewD g2 g3 66 ([(.int .i64 (4 : Int)), (.int .i64 (0 : Int)), (.string (bs [])), (.slice (some ⟨g1.w.heap.size, 0, none⟩) 1 1)] : List Value) →
  ifB b
  (stOk g3.w (Addr.add ⟨g2.w.heap.size, 0, none⟩ 1) 1 ∧ ¬ g3.X (Addr.block (Addr.add ⟨g2.w.heap.size, 0, none⟩ 1)) ∧ mutAt g3 (Addr.add ⟨g2.w.heap.size, 0, none⟩ 1) 1 ∧ ((Addr.block (Addr.add ⟨g2.w.heap.size, 0, none⟩ 1)) < g.w.heap.size → nobody (Addr.block (Addr.add ⟨g2.w.heap.size, 0, none⟩ 1))) ∧ ∀ g4 : G, StG false g3 (Addr.add ⟨g2.w.heap.size, 0, none⟩ 1) [(.int .i64 (1 : Int))] g4 →
  ∀ g5 : G, Ex g4 g5 →
  R (.pointer (some ⟨g2.w.heap.size, 0, none⟩)) g5)
  (∀ g6 : G, Ex g3 g6 →
  R (.pointer (some ⟨g2.w.heap.size, 0, none⟩)) g6))
theorem F100_eq (b : Bool) (g : G) (R : Value → G → Prop) : fnG cfg100 13 [.tmp 2] c100 an100 [(.bool b)] g nobody R = F100 b g R := by kernel_rfl
theorem call100 (b : Bool) (g : G) (R : Value → G → Prop) (hF : F100 b g R) : CallsG Tryz.prog 100 #[(.bool b)] g nobody R :=
  fn_soundG (c := cfg100) TTok FNSok mixed Tryz.func100 (show Tryz.f100.body = some c100 by kernel_rfl) (show Tryz.f100.ntmps = 13 by kernel_rfl) (show Tryz.f100.results.toList = [.tmp 2] by kernel_rfl) rfl ((F100_eq b g R ).mpr hF)
noncomputable def c101 : Code := match Tryz.f101.body with
  | some c => c
  | none => .skip
noncomputable def cfg101 (RP : List PanicEntry → G → Prop) : Cfg := ⟨Tryz.prog, TT, FNS, [], [], [9], TCH, false, false, some RP, PNF, false⟩
def an101 : AnnG := (.seq .leaf (.seq (.seq .leaf (.cond .leaf .leaf)) (.seq .leaf .leaf)))
def F101 (s : ByteArray) (g : G) (R : Value → G → Prop) (RP : List PanicEntry → G → Prop) : Prop :=
  ifB (ltI (16384 : Int) ((s.size : Nat) : Int))
  ((CallsX Tryz.prog 51 #[(.int .i64 (2 : Int)), (.int .i64 (2 : Int))] g nobody (fun v g1 =>
  v = (.tuple ⟨[]⟩) ∧ ∀ g2 : G, NewL g1 g2 66 ([(.int .i64 (2 : Int)), (.int .i64 (0 : Int)), (.string s), (.slice none 0 0)] : List Value) →
  ∀ g3 : G, Ex g2 g3 →
  R (.pointer (some ⟨g1.w.heap.size, 0, none⟩)) g3) (fun ch g4 => ∀ g5 : G, Ex g4 g5 → RP ch g5)))
  (∀ g6 : G, NewL g g6 66 ([(.int .i64 (2 : Int)), (.int .i64 (0 : Int)), (.string s), (.slice none 0 0)] : List Value) →
  ∀ g7 : G, Ex g6 g7 →
  R (.pointer (some ⟨g.w.heap.size, 0, none⟩)) g7)
theorem F101_eq (s : ByteArray) (g : G) (R : Value → G → Prop) (RP : List PanicEntry → G → Prop) : fnG (cfg101 RP) 10 [.tmp 2] c101 an101 [(.string s)] g nobody R = F101 s g R RP := by kernel_rfl
theorem call101 (s : ByteArray) (g : G) (R : Value → G → Prop) (RP : List PanicEntry → G → Prop) (hF : F101 s g R RP ) : CallsX Tryz.prog 101 #[(.string s)] g nobody R RP :=
  fn_soundX (c := (cfg101 RP)) TTok FNSok mixed (.inr rfl) Tryz.func101 (show Tryz.f101.body = some c101 by kernel_rfl) (show Tryz.f101.ntmps = 10 by kernel_rfl) (show Tryz.f101.results.toList = [.tmp 2] by kernel_rfl) rfl ((F101_eq s g R RP ).mpr hF)
end Go.Proofs.YthlcdgpemjdgnaaGreatDoor.PM
