/- Printed by a program (wip/tools/gen2.py): for each function its condition as a plain formula, and that the formula gives the call. -/
import Derived.Test.YtmkdbndniffkfaaGreatDoorProg
import Derived.Test.YtmkdbndniffkfaaGreatDoorVda
namespace Go.Proofs.YtmkdbndniffkfaaGreatDoor.P3
open Go Go.Vc Go.RowKit
set_option maxRecDepth 100000
set_option linter.unusedVariables false
def TT : List TI := [
  ⟨3, .int .i64, 1, 8, some (.int .i64 (0 : Int)), (.e (.one (.int .i64)))⟩,
  ⟨4, .bool, 1, 1, some (.bool false), (.e (.one (.bool)))⟩,
  ⟨9, .string, 1, 16, some (.string (bs [])), (.e (.one (.str)))⟩,
  ⟨22, .slice 43, 1, 24, some (.slice none 0 0), (.e (.one (.sl)))⟩,
  ⟨23, .int .u32, 1, 4, some (.int .u32 (0 : Int)), (.e (.one (.int .u32)))⟩,
  ⟨27, .int .i64, 1, 8, some (.int .i64 (0 : Int)), (.e (.one (.int .i64)))⟩,
  ⟨28, .tuple #[26, 27], 1, 0, some (.tuple ⟨[(.slice none 0 0), (.int .i64 (0 : Int))]⟩), (.tup [(.one (.sl)), (.one (.int .i64))])⟩,
  ⟨30, .slice 9, 1, 24, some (.slice none 0 0), (.e (.one (.sl)))⟩,
  ⟨32, .slice 59, 1, 24, some (.slice none 0 0), (.e (.one (.sl)))⟩,
  ⟨34, .slice 39, 1, 24, some (.slice none 0 0), (.e (.one (.sl)))⟩,
  ⟨35, .tuple #[34, 27], 1, 0, some (.tuple ⟨[(.slice none 0 0), (.int .i64 (0 : Int))]⟩), (.tup [(.one (.sl)), (.one (.int .i64))])⟩,
  ⟨39, .struct #[{ name := "Op", type := 3, offset := 0, embedded := false, tag := "", pkgPath := "", byteOffset := 0 }, { name := "Unit", type := 9, offset := 1, embedded := false, tag := "", pkgPath := "", byteOffset := 8 }], 2, 24, some (.agg ⟨[(.int .i64 (0 : Int)), (.string (bs []))]⟩), (.e (.agg [(.int .i64), (.str)]))⟩,
  ⟨43, .struct #[{ name := "Name", type := 9, offset := 0, embedded := false, tag := "", pkgPath := "", byteOffset := 0 }, { name := "Imports", type := 30, offset := 1, embedded := false, tag := "", pkgPath := "", byteOffset := 16 }, { name := "Decls", type := 41, offset := 2, embedded := false, tag := "", pkgPath := "", byteOffset := 40 }], 3, 64, some (.agg ⟨[(.string (bs [])), (.slice none 0 0), (.slice none 0 0)]⟩), (.e (.agg [(.str), (.sl), (.sl)]))⟩]
theorem TTok : TOk Tryz.prog TT := tok_of (by kernel_rfl)
def FNS : List Nat := [7, 8, 9, 10, 11, 12, 13, 15]
theorem FNSok : FOk Tryz.prog FNS := fok_of (by kernel_rfl)
theorem mixed : Tryz.prog.follows .mixedOrders = true := by kernel_rfl
def TCH : List Nat := [37, 41, 76, 143, 146]
def PNF : List Nat := []

/- 3 pilaster/pilasterlaw41.RecompileChanges -/
noncomputable def c3 : Code := match Tryz.f3.body with
  | some c => c
  | none => .skip
noncomputable def cfg3 : Cfg := ⟨Tryz.prog, TT, FNS, [19, 20], [(19, 19), (20, 20), (133, 19), (143, 20), (147, 19)], [3, 5], TCH, false, false, none, PNF, false⟩
def an3 : AnnG := (.seq .leaf (.join ⟨[], [], []⟩ (.seq .leaf (.cond (.seq .leaf .leaf) .leaf)) (.seq (.seq .leaf (.seq .leaf (.cond (.seq .leaf .leaf) .leaf))) (.seq .leaf (.seq (.seq .leaf (.blk (.loop ⟨[(9, .sl), (10, .sl), (11, .sl), (12, .sl), (39, .int .i64)], [], []⟩ (.seq .leaf (.seq (.cond .leaf .leaf) (.seq (.blk (.seq .leaf (.seq .leaf (.join ⟨[(11, .sl), (12, .sl)], [], []⟩ (.treeB 13 (.quiet 0 (.quiet 1 (.quiet 2 (.quiet 3 (.quiet 4 (.quiet 7 (.quiet 8 (.quiet 9 (.quiet 10 (.quiet 11 (.eff 5 (.eff 6 (.eff 12 .fin .fin) (.eff 12 (.eff 6 .fin .fin) .fin)) (.eff 12 (.eff 5 (.eff 6 .fin .fin) .fin) .fin))))))))))))) (.join ⟨[], [], []⟩ (.seq .leaf (.cond .leaf .leaf)) (.seq .leaf (.cond .leaf .leaf))))))) .leaf)))))) (.seq .leaf (.seq .leaf (.join ⟨[], [], []⟩ (.seq .leaf (.cond (.seq .leaf .leaf) .leaf)) (.seq .leaf (.join ⟨[], [], []⟩ (.seq .leaf (.cond (.seq .leaf .leaf) .leaf)) (.seq (.seq .leaf (.blk (.loop ⟨[(127, .int .i64)], [], []⟩ (.seq .leaf (.seq (.cond .leaf .leaf) (.seq (.blk (.seq .leaf (.seq .leaf (.seq .leaf (.join ⟨[], [(20, 20, 0)], [(20, [(.int .i64), (.str)])]⟩ (.blk (.seq .leaf (.cond .leaf (.seq .leaf (.cond .leaf .leaf))))) (.seq (.treeB 5 (.quiet 0 (.quiet 1 (.quiet 2 (.quiet 3 (.quiet 4 .fin)))))) (.cond (.seq .leaf .leaf) .leaf))))))) .leaf)))))) (.seq .leaf .leaf))))))))))))
def F3 (la : Option Addr) (ll : Nat) (lc : Nat) (source : Int) (face : Int) (g : G) (R : Value → G → Prop) : Prop :=
  ∀ g1 : G, NewL g g1 22 ([(.slice la ll lc)] : List Value) →
  ∀ g2 : G, NewL g1 g2 23 ([(.int .u32 face)] : List Value) →
  ∀ J : G → Prop,
  (∀ g3 : G, (∃ la_1 : Option Addr, ∃ ll_1 : Nat, ∃ lc_1 : Nat, g3.w.cell? ⟨g.w.heap.size, 0, none⟩ = some (.slice la_1 ll_1 lc_1) ∧ (CallsP Tryz.prog 9 #[(.slice la_1 ll_1 lc_1)] g3 fun v g4 =>
  ∃ x0a : Option Addr, ∃ x0l : Nat, ∃ x0c : Nat, ∃ x1 : Int, v = (.tuple ⟨[(.slice x0a x0l x0c), (.int .i64 x1)]⟩) ∧ ifB (!eqI x1 (0 : Int))
  (∀ g5 : G, Ex g4 g5 →
  R (.bool true) g5)
  (∃ la_2 : Option Addr, ∃ ll_2 : Nat, ∃ lc_2 : Nat, g4.w.cell? ⟨g.w.heap.size, 0, none⟩ = some (.slice la_2 ll_2 lc_2) ∧ ∃ Inv : Nat → Option Addr → Nat → Nat → Option Addr → Nat → Nat → Option Addr → Nat → Nat → Option Addr → Nat → Nat → Int → G → Prop, ((∃ m0 : Nat, Inv m0 none 0 0 none 0 0 none 0 0 none 0 0 (0 : Int) g4)) ∧
  ∀ m : Nat, ∀ sourcesa : Option Addr, ∀ sourcesl : Nat, ∀ sourcesc : Nat, ∀ facesa : Option Addr, ∀ facesl : Nat, ∀ facesc : Nat, ∀ othersa : Option Addr, ∀ othersl : Nat, ∀ othersc : Nat, ∀ changeda : Option Addr, ∀ changedl : Nat, ∀ changedc : Nat, ∀ v_1 : Int, ∀ g6 : G, Le g4 g6 → Inv m sourcesa sourcesl sourcesc facesa facesl facesc othersa othersl othersc changeda changedl changedc v_1 g6 →
  ifB (ltI v_1 ((ll_2 : Nat) : Int))
  ((CallsP Tryz.prog 10 #[(.string (bs [97])), (.int .i64 (64 : Int))] g6 fun v g7 =>
  ∃ x : ByteArray, v = (.string x) ∧ ∀ g8 : G, NewL g7 g8 9 [(.string x)] →
  ∃ sourcesa_1 : Option Addr, ∃ sourcesl_1 : Nat, ∃ sourcesc_1 : Nat, ∃ wo1 : World, Sem.run Tryz.prog (Builtin.append_ #[30, 30] 30 #[(.slice sourcesa sourcesl sourcesc), (.slice (some ⟨g7.w.heap.size, 0, none⟩) 1 1)]) g8.w = .ok (.slice sourcesa_1 sourcesl_1 sourcesc_1) wo1 ∧ ∃ g9 : G, g9.w = wo1 ∧ Stp g.w.heap.size nobody g8 g9 ∧ (CallsP Tryz.prog 10 #[(.string (bs [98])), (.int .i64 (64 : Int))] g9 fun v g10 =>
  ∃ x_1 : ByteArray, v = (.string x_1) ∧ ∀ g11 : G, NewL g10 g11 9 [(.string x_1)] →
  ∃ facesa_1 : Option Addr, ∃ facesl_1 : Nat, ∃ facesc_1 : Nat, ∃ wo2 : World, Sem.run Tryz.prog (Builtin.append_ #[30, 30] 30 #[(.slice facesa facesl facesc), (.slice (some ⟨g10.w.heap.size, 0, none⟩) 1 1)]) g11.w = .ok (.slice facesa_1 facesl_1 facesc_1) wo2 ∧ ∃ g12 : G, g12.w = wo2 ∧ Stp g.w.heap.size nobody g11 g12 ∧ ∀ J_1 : Option Addr → Nat → Nat → Option Addr → Nat → Nat → G → Prop,
  (∀ othersa_1 : Option Addr, ∀ othersl_1 : Nat, ∀ othersc_1 : Nat, ∀ changeda_1 : Option Addr, ∀ changedl_1 : Nat, ∀ changedc_1 : Nat, ∀ g13 : G, (∀ J_2 : G → Prop,
  (∀ g14 : G, (∃ face_1 : Int, g14.w.cell? ⟨g1.w.heap.size, 0, none⟩ = some (.int .u32 face_1) ∧ 0 ≤ v_1 ∧ ifB (eqI (bits BinOp.and IntKind.u32 (shrI IntKind.u32 face_1 v_1) (1 : Int)) (1 : Int))
  ((CallsP Tryz.prog 10 #[(.string (bs [100])), (.int .i64 (64 : Int))] g14 fun v g15 =>
  ∃ x_2 : ByteArray, v = (.string x_2) ∧ (0 ≤ v_1 ∧ v_1 < ((changedl_1 : Nat) : Int)) ∧ derefP changeda_1 fun ad => stOk g15.w (Addr.add ad (Int.toNat v_1 * 1)) 1 ∧ ¬ g15.X (Addr.block (Addr.add ad (Int.toNat v_1 * 1))) ∧ mutAt g15 (Addr.add ad (Int.toNat v_1 * 1)) 1 ∧ ((Addr.block (Addr.add ad (Int.toNat v_1 * 1))) < g.w.heap.size → nobody (Addr.block (Addr.add ad (Int.toNat v_1 * 1)))) ∧ ∀ g16 : G, StG false g15 (Addr.add ad (Int.toNat v_1 * 1)) [(.string x_2)] g16 →
  InI64 (v_1 + (1 : Int)) ∧ (∃ m_1 : Nat, m_1 < m ∧ Inv m_1 sourcesa_1 sourcesl_1 sourcesc_1 facesa_1 facesl_1 facesc_1 othersa_1 othersl_1 othersc_1 changeda_1 changedl_1 changedc_1 (v_1 + (1 : Int)) g16)))
  (InI64 (v_1 + (1 : Int)) ∧ (∃ m_1 : Nat, m_1 < m ∧ Inv m_1 sourcesa_1 sourcesl_1 sourcesc_1 facesa_1 facesl_1 facesc_1 othersa_1 othersl_1 othersc_1 changeda_1 changedl_1 changedc_1 (v_1 + (1 : Int)) g14))) → J_2 g14) →
  0 ≤ v_1 ∧ ifB (eqI (bits BinOp.and IntKind.u32 (shrI IntKind.u32 source v_1) (1 : Int)) (1 : Int))
  ((CallsP Tryz.prog 10 #[(.string (bs [99])), (.int .i64 (64 : Int))] g13 fun v g17 =>
  ∃ x_3 : ByteArray, v = (.string x_3) ∧ (0 ≤ v_1 ∧ v_1 < ((othersl_1 : Nat) : Int)) ∧ derefP othersa_1 fun ad_1 => stOk g17.w (Addr.add ad_1 (Int.toNat v_1 * 1)) 1 ∧ ¬ g17.X (Addr.block (Addr.add ad_1 (Int.toNat v_1 * 1))) ∧ mutAt g17 (Addr.add ad_1 (Int.toNat v_1 * 1)) 1 ∧ ((Addr.block (Addr.add ad_1 (Int.toNat v_1 * 1))) < g.w.heap.size → nobody (Addr.block (Addr.add ad_1 (Int.toNat v_1 * 1)))) ∧ ∀ g18 : G, StG false g17 (Addr.add ad_1 (Int.toNat v_1 * 1)) [(.string x_3)] g18 →
  J_2 g18))
  (J_2 g13)) → J_1 othersa_1 othersl_1 othersc_1 changeda_1 changedl_1 changedc_1 g13) →
  ∀ g19 : G, Ex g12 g19 →
  ∃ MR1 : Nat → Prop, (∀ b, MR1 b → ¬ g19.X b) ∧ (0 ≤ v_1 ∧ v_1 < ((sourcesl_1 : Nat) : Int)) ∧ derefP sourcesa_1 fun ad_2 => ¬ MR1 (Addr.block (Addr.add ad_2 (Int.toNat v_1 * 1))) ∧ ∃ x_4 : ByteArray, g19.w.cell? (Addr.add ad_2 (Int.toNat v_1 * 1)) = some (.string x_4) ∧ (0 ≤ v_1 ∧ v_1 < ((facesl_1 : Nat) : Int)) ∧ derefP facesa_1 fun ad_3 => ¬ MR1 (Addr.block (Addr.add ad_3 (Int.toNat v_1 * 1))) ∧ ∃ x_5 : ByteArray, g19.w.cell? (Addr.add ad_3 (Int.toNat v_1 * 1)) = some (.string x_5) ∧ (∀ g20 : G, NewL g19 g20 9 [(.string x_4)] →
  (∃ othersa_2 : Option Addr, ∃ othersl_2 : Nat, ∃ othersc_2 : Nat, ∃ wo3 : World, Sem.run Tryz.prog (Builtin.append_ #[30, 30] 30 #[(.slice othersa othersl othersc), (.slice (some ⟨g19.w.heap.size, 0, none⟩) 1 1)]) g20.w = .ok (.slice othersa_2 othersl_2 othersc_2) wo3 ∧ ∃ g21 : G, g21.w = wo3 ∧ Stp g.w.heap.size nobody g20 g21 ∧ SameBut MR1 g19 g21 ∧ ∀ g22 : G, NewL g21 g22 9 [(.string x_5)] →
  ∃ changeda_2 : Option Addr, ∃ changedl_2 : Nat, ∃ changedc_2 : Nat, ∃ wo4 : World, Sem.run Tryz.prog (Builtin.append_ #[30, 30] 30 #[(.slice changeda changedl changedc), (.slice (some ⟨g21.w.heap.size, 0, none⟩) 1 1)]) g22.w = .ok (.slice changeda_2 changedl_2 changedc_2) wo4 ∧ ∃ g23 : G, g23.w = wo4 ∧ Stp g.w.heap.size nobody g22 g23 ∧ J_1 othersa_2 othersl_2 othersc_2 changeda_2 changedl_2 changedc_2 g23) ∧ (∀ g24 : G, NewL g20 g24 9 [(.string x_5)] →
  ∃ othersa_3 : Option Addr, ∃ othersl_3 : Nat, ∃ othersc_3 : Nat, ∃ wo5 : World, Sem.run Tryz.prog (Builtin.append_ #[30, 30] 30 #[(.slice othersa othersl othersc), (.slice (some ⟨g19.w.heap.size, 0, none⟩) 1 1)]) g24.w = .ok (.slice othersa_3 othersl_3 othersc_3) wo5 ∧ ∃ g25 : G, g25.w = wo5 ∧ Stp g.w.heap.size nobody g24 g25 ∧ SameBut MR1 g19 g25 ∧ ∃ changeda_3 : Option Addr, ∃ changedl_3 : Nat, ∃ changedc_3 : Nat, ∃ wo6 : World, Sem.run Tryz.prog (Builtin.append_ #[30, 30] 30 #[(.slice changeda changedl changedc), (.slice (some ⟨g20.w.heap.size, 0, none⟩) 1 1)]) g25.w = .ok (.slice changeda_3 changedl_3 changedc_3) wo6 ∧ ∃ g26 : G, g26.w = wo6 ∧ Stp g.w.heap.size nobody g25 g26 ∧ J_1 othersa_3 othersl_3 othersc_3 changeda_3 changedl_3 changedc_3 g26)) ∧ (∀ g27 : G, NewL g19 g27 9 [(.string x_5)] →
  ∀ g28 : G, NewL g27 g28 9 [(.string x_4)] →
  ∃ othersa_4 : Option Addr, ∃ othersl_4 : Nat, ∃ othersc_4 : Nat, ∃ wo7 : World, Sem.run Tryz.prog (Builtin.append_ #[30, 30] 30 #[(.slice othersa othersl othersc), (.slice (some ⟨g27.w.heap.size, 0, none⟩) 1 1)]) g28.w = .ok (.slice othersa_4 othersl_4 othersc_4) wo7 ∧ ∃ g29 : G, g29.w = wo7 ∧ Stp g.w.heap.size nobody g28 g29 ∧ SameBut MR1 g19 g29 ∧ ∃ changeda_4 : Option Addr, ∃ changedl_4 : Nat, ∃ changedc_4 : Nat, ∃ wo8 : World, Sem.run Tryz.prog (Builtin.append_ #[30, 30] 30 #[(.slice changeda changedl changedc), (.slice (some ⟨g19.w.heap.size, 0, none⟩) 1 1)]) g29.w = .ok (.slice changeda_4 changedl_4 changedc_4) wo8 ∧ ∃ g30 : G, g30.w = wo8 ∧ Stp g.w.heap.size nobody g29 g30 ∧ J_1 othersa_4 othersl_4 othersc_4 changeda_4 changedl_4 changedc_4 g30))))
  (∃ la_3 : Option Addr, ∃ ll_3 : Nat, ∃ lc_3 : Nat, g6.w.cell? ⟨g.w.heap.size, 0, none⟩ = some (.slice la_3 ll_3 lc_3) ∧ (CallsP Tryz.prog 11 #[(.slice la_3 ll_3 lc_3), (.slice sourcesa sourcesl sourcesc), (.slice facesa facesl facesc)] g6 fun v g31 =>
  ∃ recordsa : Option Addr, ∃ recordsl : Nat, ∃ recordsc : Nat, v = (.slice recordsa recordsl recordsc) ∧ ∃ la_4 : Option Addr, ∃ ll_4 : Nat, ∃ lc_4 : Nat, g31.w.cell? ⟨g.w.heap.size, 0, none⟩ = some (.slice la_4 ll_4 lc_4) ∧ (CallsP Tryz.prog 12 #[(.slice la_4 ll_4 lc_4), (.slice recordsa recordsl recordsc), (.slice sourcesa sourcesl sourcesc), (.slice facesa facesl facesc)] g31 fun v g32 =>
  ∃ x0a_1 : Option Addr, ∃ x0l_1 : Nat, ∃ x0c_1 : Nat, ∃ x1_1 : Int, v = (.tuple ⟨[(.slice x0a_1 x0l_1 x0c_1), (.int .i64 x1_1)]⟩) ∧ ∀ J_3 : G → Prop,
  (∀ g33 : G, (∃ la_5 : Option Addr, ∃ ll_5 : Nat, ∃ lc_5 : Nat, g33.w.cell? ⟨g.w.heap.size, 0, none⟩ = some (.slice la_5 ll_5 lc_5) ∧ (CallsP Tryz.prog 12 #[(.slice la_5 ll_5 lc_5), (.slice recordsa recordsl recordsc), (.slice othersa othersl othersc), (.slice changeda changedl changedc)] g33 fun v g34 =>
  ∃ x0a_2 : Option Addr, ∃ x0l_2 : Nat, ∃ x0c_2 : Nat, ∃ x1_2 : Int, v = (.tuple ⟨[(.slice x0a_2 x0l_2 x0c_2), (.int .i64 x1_2)]⟩) ∧ ∀ J_4 : G → Prop,
  (∀ g35 : G, (∃ la_6 : Option Addr, ∃ ll_6 : Nat, ∃ lc_6 : Nat, g35.w.cell? ⟨g.w.heap.size, 0, none⟩ = some (.slice la_6 ll_6 lc_6) ∧ ∃ Inv_1 : Nat → Int → G → Prop, ((∃ m0 : Nat, Inv_1 m0 (0 : Int) g35)) ∧
  ∀ m_2 : Nat, ∀ v_2 : Int, ∀ g36 : G, Le g35 g36 → Inv_1 m_2 v_2 g36 →
  ifB (ltI v_2 ((ll_6 : Nat) : Int))
  ((0 ≤ v_2 ∧ v_2 < ((ll_6 : Nat) : Int)) ∧ derefP la_6 fun ad_4 => ∃ x0 : ByteArray, ∃ x1a : Option Addr, ∃ x1l : Nat, ∃ x1c : Nat, ∃ x2a : Option Addr, ∃ x2l : Nat, ∃ x2c : Nat, g36.w.cell? (Addr.add ad_4 (Int.toNat v_2 * 3)) = some (.string x0) ∧ g36.w.cell? (Addr.add (Addr.add ad_4 (Int.toNat v_2 * 3)) 1) = some (.slice x1a x1l x1c) ∧ g36.w.cell? (Addr.add (Addr.add ad_4 (Int.toNat v_2 * 3)) 2) = some (.slice x2a x2l x2c) ∧ ∀ g37 : G, Ex g36 g37 →
  ∀ g38 : G, Ex g37 g38 →
  (CallsP Tryz.prog 15 #[(.slice x1a x1l x1c), (.func (.func 16) #[] ⟨[(.pointer (some ⟨g.w.heap.size, 0, none⟩)), (.pointer (some ⟨g1.w.heap.size, 0, none⟩))]⟩)] g38 fun v g39 =>
  ∃ k : Int, v = (.int .i64 k) ∧ ∀ J_5 : Int → ByteArray → G → Prop,
  (∀ want0 : Int, ∀ want1 : ByteArray, ∀ g40 : G, (∀ g41 : G, Ex g40 g41 →
  ∃ MR2 : Nat → Prop, (∀ b, MR2 b → ¬ g41.X b) ∧ (0 ≤ v_2 ∧ v_2 < ((x0l_2 : Nat) : Int)) ∧ derefP x0a_2 fun ad_5 => ¬ MR2 (Addr.block (Addr.add ad_5 (Int.toNat v_2 * 2))) ∧ ∃ x0_1 : Int, ∃ x1_3 : ByteArray, g41.w.cell? (Addr.add ad_5 (Int.toNat v_2 * 2)) = some (.int .i64 x0_1) ∧ g41.w.cell? (Addr.add (Addr.add ad_5 (Int.toNat v_2 * 2)) 1) = some (.string x1_3) ∧ ifB (!((eqI x0_1 want0) && ((strEq x1_3 want1) && true)))
  (∀ g42 : G, Ex g41 g42 →
  R (.bool false) g42)
  (InI64 (v_2 + (1 : Int)) ∧ (∃ m_3 : Nat, m_3 < m_2 ∧ Inv_1 m_3 (v_2 + (1 : Int)) g41))) → J_5 want0 want1 g40) →
  0 ≤ v_2 ∧ ifB (eqI (bits BinOp.and IntKind.u32 (shrI IntKind.u32 source v_2) (1 : Int)) (1 : Int))
  (∀ g43 : G, Ex g39 g43 →
  J_5 (2 : Int) (bs []) g43)
  (ifB (leI (0 : Int) k)
  ((0 ≤ k ∧ k < ((x1l : Nat) : Int)) ∧ derefP x1a fun ad_6 => ∃ x_6 : ByteArray, g39.w.cell? (Addr.add ad_6 (Int.toNat k * 1)) = some (.string x_6) ∧ ∀ g44 : G, Ex g39 g44 →
  J_5 (4 : Int) x_6 g44)
  (J_5 (0 : Int) (bs []) g39))))
  (∀ g45 : G, Ex g36 g45 →
  R (.bool true) g45)) → J_4 g35) →
  ifB (!eqI x1_2 (0 : Int))
  (∀ g46 : G, Ex g34 g46 →
  R (.bool false) g46)
  (∃ la_7 : Option Addr, ∃ ll_7 : Nat, ∃ lc_7 : Nat, g34.w.cell? ⟨g.w.heap.size, 0, none⟩ = some (.slice la_7 ll_7 lc_7) ∧ ifB (!eqI ((x0l_2 : Nat) : Int) ((ll_7 : Nat) : Int))
  (∀ g47 : G, Ex g34 g47 →
  R (.bool false) g47)
  (J_4 g34)))) → J_3 g33) →
  ifB (!eqI x1_1 (0 : Int))
  (∀ g48 : G, Ex g32 g48 →
  R (.bool false) g48)
  (∃ la_8 : Option Addr, ∃ ll_8 : Nat, ∃ lc_8 : Nat, g32.w.cell? ⟨g.w.heap.size, 0, none⟩ = some (.slice la_8 ll_8 lc_8) ∧ ifB (!eqI ((x0l_1 : Nat) : Int) ((ll_8 : Nat) : Int))
  (∀ g49 : G, Ex g32 g49 →
  R (.bool false) g49)
  ((CallsP Tryz.prog 13 #[(.slice x0a_1 x0l_1 x0c_1), (.func (.func 14) #[] #[])] g32 fun v g50 =>
  ∃ x_7 : Bool, v = (.bool x_7) ∧ ifB x_7
  (∀ g51 : G, Ex g50 g51 →
  R (.bool false) g51)
  (J_3 g50)))))))))) → J g3) →
  (CallsP Tryz.prog 7 #[] g2 fun v g52 =>
  ∃ x_8 : Bool, v = (.bool x_8) ∧ ifB (!x_8)
  ((CallsP Tryz.prog 7 #[] g52 fun v g53 =>
  ∃ x_9 : Bool, v = (.bool x_9) ∧ ∀ g54 : G, Ex g53 g54 →
  R (.bool x_9) g54))
  (∃ la_9 : Option Addr, ∃ ll_9 : Nat, ∃ lc_9 : Nat, g52.w.cell? ⟨g.w.heap.size, 0, none⟩ = some (.slice la_9 ll_9 lc_9) ∧ (CallsP Tryz.prog 8 #[(.slice la_9 ll_9 lc_9)] g52 fun v g55 =>
  ∃ x_10 : Bool, v = (.bool x_10) ∧ ifB (!x_10)
  ((CallsP Tryz.prog 7 #[] g55 fun v g56 =>
  ∃ x_11 : Bool, v = (.bool x_11) ∧ ∀ g57 : G, Ex g56 g57 →
  R (.bool x_11) g57))
  (J g55))))
theorem F3_eq (la : Option Addr) (ll : Nat) (lc : Nat) (source : Int) (face : Int) (g : G) (R : Value → G → Prop) : fnG cfg3 160 [.tmp 6] c3 an3 [(.slice la ll lc), (.int .u32 source), (.int .u32 face)] g nobody R = F3 la ll lc source face g R := by kernel_rfl
theorem call3 (la : Option Addr) (ll : Nat) (lc : Nat) (source : Int) (face : Int) (g : G) (R : Value → G → Prop) (hF : F3 la ll lc source face g R) : CallsG Tryz.prog 3 #[(.slice la ll lc), (.int .u32 source), (.int .u32 face)] g nobody R :=
  fn_soundG (c := cfg3) TTok FNSok mixed Tryz.func3 (show Tryz.f3.body = some c3 by kernel_rfl) (show Tryz.f3.ntmps = 160 by kernel_rfl) (show Tryz.f3.results.toList = [.tmp 6] by kernel_rfl) rfl ((F3_eq la ll lc source face g R ).mpr hF)
end Go.Proofs.YtmkdbndniffkfaaGreatDoor.P3
