/- Printed by a program (wip/tools/gen2.py): more functions. -/
import Derived.Test.YtfmjipgcbecamaaDoorFn44
namespace Go.Proofs.YtfmjipgcbecamaaDoor
open Go Go.Vc Go.RowKit
set_option maxRecDepth 100000
set_option linter.unusedVariables false

/- 47 (*pilaster/lambda.machine).observe -/
noncomputable def c47 : Code := match Tryd.f47.body with
  | some c => c
  | none => .skip
noncomputable def cfg47 (RP : List PanicEntry → G → Prop) : Cfg := ⟨Tryd.prog, TT, FNS, [8, 9], [(8, 8), (9, 9), (55, 9), (65, 9)], [], TCH, false, false, some RP, PNF, false⟩
def an47 : AnnG := (.seq .leaf (.seq .leaf (.join ⟨[], [], []⟩ (.seq .leaf (.cond .leaf .leaf)) (.seq (.seq .leaf (.cond (.seq .leaf .leaf) .leaf)) (.join ⟨[], [(9, 9, 0)], [(9, [(.int .i64), (.int .i64), (.str), (.sl), (.sl)])]⟩ (.treeP true [] 14 (.quiet 0 (.quiet 1 (.quiet 2 (.quiet 3 (.quiet 4 (.quiet 5 (.quiet 6 (.quiet 7 (.quiet 8 (.quiet 9 (.quiet 10 (.quiet 11 (.eff 12 (.eff 13 .fin .fin) (.eff 13 (.eff 12 .fin .fin) .fin))))))))))))))) (.seq (.seq .leaf (.blk (.loop ⟨[(51, .int .i64)], [(9, 9, 0)], [(9, [(.int .i64), (.int .i64), (.str), (.sl), (.sl)])]⟩ (.seq .leaf (.seq (.cond .leaf .leaf) (.seq (.blk (.seq .leaf (.treeP true [9] 9 (.quiet 0 (.quiet 2 (.quiet 3 (.quiet 4 (.quiet 5 (.quiet 6 (.eff 1 (.eff 7 (.eff 8 .fin .fin) .fin) (.eff 7 (.eff 1 (.eff 8 .fin .fin) (.eff 8 (.eff 1 .fin .fin) .fin)) .fin))))))))))) .leaf)))))) (.seq .leaf .leaf)))))))
def F47 (m : Option Addr) (v_1 : Option Addr) (left : Option Addr) (depth : Int) (g : G) (M : Nat → Prop) (R : Value → G → Prop) (RP : List PanicEntry → G → Prop) : Prop :=
  derefP left fun ad => ∀ g1 : G, Ex g g1 →
  ∃ x : Int, g1.w.cell? ad = some (.int .i64 x) ∧ InI64 (x - (1 : Int)) ∧ derefP left fun ad_1 => stOk g1.w ad_1 1 ∧ ¬ g1.X (Addr.block ad_1) ∧ mutAt g1 ad_1 1 ∧ ((Addr.block ad_1) < g.w.heap.size → M (Addr.block ad_1)) ∧ ∀ g2 : G, StG false g1 ad_1 [(.int .i64 (x - (1 : Int)))] g2 →
  ∀ J : G → Prop,
  (∀ g3 : G, (derefP v_1 fun ad_2 => ∃ x_1 : Int, g3.w.cell? ad_2 = some (.int .i64 x_1) ∧ ifB (eqI x_1 (7 : Int))
  (∀ g4 : G, Ex g3 g4 →
  R (.agg ⟨[(.int .i64 (7 : Int)), (.int .i64 (0 : Int)), (.string (bs [])), (.slice none 0 0), (.slice none 0 0)]⟩) g4)
  (∀ J_1 : Int → Int → ByteArray → Option Addr → Nat → Nat → Option Addr → Nat → Nat → G → Prop,
  (∀ out0 : Int, ∀ out1 : Int, ∀ out2 : ByteArray, ∀ out3a : Option Addr, ∀ out3l : Nat, ∀ out3c : Nat, ∀ out4a : Option Addr, ∀ out4l : Nat, ∀ out4c : Nat, ∀ g5 : G, (derefP v_1 fun ad_3 => ∃ xa : Option Addr, ∃ xl : Nat, ∃ xc : Nat, g5.w.cell? (Addr.add ad_3 3) = some (.slice xa xl xc) ∧ ∃ Inv : Nat → Int → Int → Int → ByteArray → Option Addr → Nat → Nat → Option Addr → Nat → Nat → G → Prop, ((∃ m0 : Nat, Inv m0 (0 : Int) out0 out1 out2 out3a out3l out3c out4a out4l out4c g5)) ∧
  ∀ m_1 : Nat, ∀ v_2 : Int, ∀ out0_1 : Int, ∀ out1_1 : Int, ∀ out2_1 : ByteArray, ∀ out3a_1 : Option Addr, ∀ out3l_1 : Nat, ∀ out3c_1 : Nat, ∀ out4a_1 : Option Addr, ∀ out4l_1 : Nat, ∀ out4c_1 : Nat, ∀ g6 : G, Le g5 g6 → Inv m_1 v_2 out0_1 out1_1 out2_1 out3a_1 out3l_1 out3c_1 out4a_1 out4l_1 out4c_1 g6 →
  ifB (ltI v_2 ((xl : Nat) : Int))
  ((0 ≤ v_2 ∧ v_2 < ((xl : Nat) : Int)) ∧ derefP xa fun ad_4 => ∃ x_2 : Option Addr, g6.w.cell? (Addr.add ad_4 (Int.toNat v_2 * 1)) = some (.pointer x_2) ∧ ∀ g7 : G, Ex g6 g7 →
  ∃ MR1 : Nat → Prop, (∀ b, MR1 b → ¬ g7.X b) ∧ InI64 (depth + (1 : Int)) ∧ (∀ g8 : G, Ex g7 g8 →
  ∃ M2 : Nat → Prop, (∀ b, b < g.w.heap.size → M2 b → M b) ∧ (CallsX Tryd.prog 47 #[(.pointer m), (.pointer x_2), (.pointer left), (.int .i64 (depth + (1 : Int)))] g8 M2 (fun v g9 =>
  ∃ x0 : Int, ∃ x1 : Int, ∃ x2 : ByteArray, ∃ x3a : Option Addr, ∃ x3l : Nat, ∃ x3c : Nat, ∃ x4a : Option Addr, ∃ x4l : Nat, ∃ x4c : Nat, v = (.agg ⟨[(.int .i64 x0), (.int .i64 x1), (.string x2), (.slice x3a x3l x3c), (.slice x4a x4l x4c)]⟩) ∧ SameBut MR1 g7 g9 ∧ ∀ g10 : G, Ex g9 g10 →
  ∀ g11 : G, NewL g10 g11 30 [(.int .i64 x0), (.int .i64 x1), (.string x2), (.slice x3a x3l x3c), (.slice x4a x4l x4c)] →
  ∃ xa_1 : Option Addr, ∃ xl_1 : Nat, ∃ xc_1 : Nat, ∃ wo1 : World, Sem.run Tryd.prog (Builtin.append_ #[28, 28] 28 #[(.slice out4a_1 out4l_1 out4c_1), (.slice (some ⟨g10.w.heap.size, 0, none⟩) 1 1)]) g11.w = .ok (.slice xa_1 xl_1 xc_1) wo1 ∧ ∃ g12 : G, g12.w = wo1 ∧ Stp g.w.heap.size M g11 g12 ∧ InI64 (v_2 + (1 : Int)) ∧ ∀ g13 : G, Ex g12 g13 →
  (∃ m_2 : Nat, m_2 < m_1 ∧ Inv m_2 (v_2 + (1 : Int)) out0_1 out1_1 out2_1 out3a_1 out3l_1 out3c_1 xa_1 xl_1 xc_1 g13)) (fun ch g14 => ∀ g15 : G, Ex g14 g15 → RP ch g15))) ∧ (∀ g16 : G, Ex g7 g16 →
  ∃ M3 : Nat → Prop, (∀ b, b < g.w.heap.size → M3 b → M b) ∧ (CallsX Tryd.prog 47 #[(.pointer m), (.pointer x_2), (.pointer left), (.int .i64 (depth + (1 : Int)))] g16 M3 (fun v g17 =>
  ∃ x0_1 : Int, ∃ x1_1 : Int, ∃ x2_1 : ByteArray, ∃ x3a_1 : Option Addr, ∃ x3l_1 : Nat, ∃ x3c_1 : Nat, ∃ x4a_1 : Option Addr, ∃ x4l_1 : Nat, ∃ x4c_1 : Nat, v = (.agg ⟨[(.int .i64 x0_1), (.int .i64 x1_1), (.string x2_1), (.slice x3a_1 x3l_1 x3c_1), (.slice x4a_1 x4l_1 x4c_1)]⟩) ∧ SameBut MR1 g7 g17 ∧ Rep 1 (∀ g18 : G, Ex g17 g18 →
  ∀ g19 : G, NewL g18 g19 30 [(.int .i64 x0_1), (.int .i64 x1_1), (.string x2_1), (.slice x3a_1 x3l_1 x3c_1), (.slice x4a_1 x4l_1 x4c_1)] →
  ∃ xa_2 : Option Addr, ∃ xl_2 : Nat, ∃ xc_2 : Nat, ∃ wo2 : World, Sem.run Tryd.prog (Builtin.append_ #[28, 28] 28 #[(.slice out4a_1 out4l_1 out4c_1), (.slice (some ⟨g18.w.heap.size, 0, none⟩) 1 1)]) g19.w = .ok (.slice xa_2 xl_2 xc_2) wo2 ∧ ∃ g20 : G, g20.w = wo2 ∧ Stp g.w.heap.size M g19 g20 ∧ InI64 (v_2 + (1 : Int)) ∧ ∀ g21 : G, Ex g20 g21 →
  (∃ m_2 : Nat, m_2 < m_1 ∧ Inv m_2 (v_2 + (1 : Int)) out0_1 out1_1 out2_1 out3a_1 out3l_1 out3c_1 xa_2 xl_2 xc_2 g21))) (fun ch g26 => ∀ g27 : G, Ex g26 g27 → RP ch g27))))
  (∀ g28 : G, Ex g6 g28 →
  R (.agg ⟨[(.int .i64 out0_1), (.int .i64 out1_1), (.string out2_1), (.slice out3a_1 out3l_1 out3c_1), (.slice out4a_1 out4l_1 out4c_1)]⟩) g28)) → J_1 out0 out1 out2 out3a out3l out3c out4a out4l out4c g5) →
  ∀ g29 : G, Ex g3 g29 →
  ∃ MR4 : Nat → Prop, (∀ b, MR4 b → ¬ g29.X b) ∧ derefP v_1 fun ad_5 => ¬ g29.X (Addr.block ad_5) ∧ ¬ MR4 (Addr.block ad_5) ∧ ∃ x_3 : Int, g29.w.cell? ad_5 = some (.int .i64 x_3) ∧ derefP v_1 fun ad_6 => ¬ g29.X (Addr.block (Addr.add ad_6 1)) ∧ ¬ MR4 (Addr.block (Addr.add ad_6 1)) ∧ ∃ x_4 : Int, g29.w.cell? (Addr.add ad_6 1) = some (.int .i64 x_4) ∧ derefP v_1 fun ad_7 => ¬ g29.X (Addr.block (Addr.add ad_7 2)) ∧ ¬ MR4 (Addr.block (Addr.add ad_7 2)) ∧ ∃ x_5 : ByteArray, g29.w.cell? (Addr.add ad_7 2) = some (.string x_5) ∧ Rep 1 (∀ g30 : G, Ex g29 g30 →
  ∀ g31 : G, Ex g30 g31 →
  J_1 x_3 x_4 x_5 none 0 0 none 0 0 g31))) → J g3) →
  derefP left fun ad_8 => ∃ x_6 : Int, g2.w.cell? ad_8 = some (.int .i64 x_6) ∧ ifB (ltI x_6 (0 : Int))
  (∃ M5 : Nat → Prop, (∀ b, b < g.w.heap.size → M5 b → M b) ∧ (CallsX Tryd.prog 64 #[(.pointer m), (.int .i64 (2 : Int)), (.int .i64 (2 : Int))] g2 M5 (fun v g34 =>
  v = (.tuple ⟨[]⟩) ∧ J g34) (fun ch g35 => ∀ g36 : G, Ex g35 g36 → RP ch g36)))
  (ifB (ltI (400 : Int) depth)
  (∃ M6 : Nat → Prop, (∀ b, b < g.w.heap.size → M6 b → M b) ∧ (CallsX Tryd.prog 64 #[(.pointer m), (.int .i64 (2 : Int)), (.int .i64 (2 : Int))] g2 M6 (fun v g37 =>
  v = (.tuple ⟨[]⟩) ∧ J g37) (fun ch g38 => ∀ g39 : G, Ex g38 g39 → RP ch g39)))
  (J g2))
theorem F47_eq (m : Option Addr) (v_1 : Option Addr) (left : Option Addr) (depth : Int) (g : G) (M : Nat → Prop) (R : Value → G → Prop) (RP : List PanicEntry → G → Prop) : fnG (cfg47 RP) 68 [.cell 8 30] c47 an47 [(.pointer m), (.pointer v_1), (.pointer left), (.int .i64 depth)] g M R = F47 m v_1 left depth g M R RP := by kernel_rfl
theorem call47 (m : Option Addr) (v_1 : Option Addr) (left : Option Addr) (depth : Int) (g : G) (M : Nat → Prop) (R : Value → G → Prop) (RP : List PanicEntry → G → Prop) (hF : F47 m v_1 left depth g M R RP ) : CallsX Tryd.prog 47 #[(.pointer m), (.pointer v_1), (.pointer left), (.int .i64 depth)] g M R RP :=
  fn_soundX (c := (cfg47 RP)) TTok FNSok mixed (.inr rfl) Tryd.func47 (show Tryd.f47.body = some c47 by kernel_rfl) (show Tryd.f47.ntmps = 68 by kernel_rfl) (show Tryd.f47.results.toList = [.cell 8 30] by kernel_rfl) rfl ((F47_eq m v_1 left depth g M R RP ).mpr hF)

/- 48 (*pilaster/lambda.machine).run -/
noncomputable def c48 : Code := match Tryd.f48.body with
  | some c => c
  | none => .skip
noncomputable def cfg48 (RP : List PanicEntry → G → Prop) : Cfg := ⟨Tryd.prog, TT, FNS, [4, 11], [(4, 4), (11, 11), (30, 4), (35, 4), (40, 4), (46, 4), (52, 4), (66, 4), (81, 4), (87, 4), (92, 4), (105, 4), (123, 4), (130, 4), (149, 4)], [43, 49, 58], TCH, false, false, some RP, PNF, false⟩
def an48 : AnnG := (.seq .leaf (.join ⟨[], [], []⟩ (.seq (.treeB 8 (.quiet 0 (.quiet 1 (.quiet 2 (.quiet 3 (.quiet 4 (.quiet 5 (.quiet 6 (.quiet 7 .fin))))))))) (.cond .leaf .leaf)) (.seq .leaf (.join ⟨[], [], []⟩ (.seq .leaf (.blk (.seq .leaf (.cond (.seq .leaf .leaf) (.seq .leaf (.cond (.seq .leaf .leaf) (.seq .leaf (.cond (.seq .leaf .leaf) (.seq .leaf (.cond (.seq .leaf .leaf) (.seq .leaf (.cond (.seq .leaf (.seq .leaf (.seq .leaf .leaf))) (.seq .leaf (.cond .leaf (.seq .leaf (.cond (.seq (.treeB 15 (.quiet 0 (.quiet 1 (.quiet 2 (.quiet 3 (.quiet 4 (.quiet 5 (.quiet 6 (.quiet 7 (.quiet 8 (.quiet 9 (.quiet 10 (.quiet 12 (.eff 11 (.eff 13 (.eff 14 .fin .fin) .fin) .fin)))))))))))))) .leaf) (.seq .leaf (.cond (.seq .leaf (.join ⟨[], [], []⟩ (.treeB 17 (.quiet 0 (.quiet 1 (.quiet 2 (.quiet 3 (.quiet 4 (.quiet 5 (.quiet 6 (.quiet 7 (.quiet 8 (.quiet 9 (.quiet 10 (.quiet 11 (.quiet 12 (.quiet 13 (.quiet 14 (.quiet 15 (.quiet 16 .fin)))))))))))))))))) (.seq (.treeB 19 (.quiet 0 (.quiet 1 (.quiet 2 (.quiet 3 (.quiet 4 (.quiet 5 (.quiet 6 (.quiet 7 (.quiet 8 (.quiet 9 (.quiet 10 (.quiet 11 (.quiet 12 (.quiet 13 (.quiet 14 (.quiet 15 (.quiet 16 (.eff 17 (.eff 18 .fin .fin) .fin))))))))))))))))))) .leaf))) .leaf)))))))))))))))))) (.seq .leaf (.seq (.seq .leaf (.blk (.loop ⟨[(9, .sl), (152, .int .i64)], [], []⟩ (.seq .leaf (.seq (.cond .leaf .leaf) (.seq (.blk (.seq .leaf .leaf)) .leaf)))))) (.seq .leaf .leaf)))))))
def F48 (m : Option Addr) (x0 : Int) (x1 : Int) (x2 : ByteArray) (x3a : Option Addr) (x3l : Nat) (x3c : Nat) (env : Option Addr) (g : G) (M : Nat → Prop) (R : Value → G → Prop) (RP : List PanicEntry → G → Prop) : Prop :=
  ∀ J : G → Prop,
  (∀ g1 : G, (derefP m fun ad => ∃ x : Int, g1.w.cell? ad = some (.int .i64 x) ∧ InI64 (x + (1 : Int)) ∧ derefP m fun ad_1 => stOk g1.w ad_1 1 ∧ ¬ g1.X (Addr.block ad_1) ∧ mutAt g1 ad_1 1 ∧ ((Addr.block ad_1) < g.w.heap.size → M (Addr.block ad_1)) ∧ ∀ g2 : G, StG false g1 ad_1 [(.int .i64 (x + (1 : Int)))] g2 →
  ∀ J_1 : G → Prop,
  (∀ g3 : G, (∃ Inv : Nat → Option Addr → Nat → Nat → Int → G → Prop, ((∃ m0 : Nat, Inv m0 none 0 0 (0 : Int) g3)) ∧
  ∀ m_1 : Nat, ∀ la : Option Addr, ∀ ll : Nat, ∀ lc : Nat, ∀ v_1 : Int, ∀ g4 : G, Le g3 g4 → Inv m_1 la ll lc v_1 g4 →
  ifB (ltI v_1 ((x3l : Nat) : Int))
  ((0 ≤ v_1 ∧ v_1 < ((x3l : Nat) : Int)) ∧ derefP x3a fun ad_2 => ∃ x0_1 : Int, ∃ x1_1 : Int, ∃ x2_1 : ByteArray, ∃ x3a_1 : Option Addr, ∃ x3l_1 : Nat, ∃ x3c_1 : Nat, g4.w.cell? (Addr.add ad_2 (Int.toNat v_1 * 4)) = some (.int .i64 x0_1) ∧ g4.w.cell? (Addr.add (Addr.add ad_2 (Int.toNat v_1 * 4)) 1) = some (.int .i64 x1_1) ∧ g4.w.cell? (Addr.add (Addr.add ad_2 (Int.toNat v_1 * 4)) 2) = some (.string x2_1) ∧ g4.w.cell? (Addr.add (Addr.add ad_2 (Int.toNat v_1 * 4)) 3) = some (.slice x3a_1 x3l_1 x3c_1) ∧ ∀ g5 : G, Ex g4 g5 →
  ∃ M1 : Nat → Prop, (∀ b, b < g.w.heap.size → M1 b → M b) ∧ (CallsX Tryd.prog 48 #[(.pointer m), (.agg ⟨[(.int .i64 x0_1), (.int .i64 x1_1), (.string x2_1), (.slice x3a_1 x3l_1 x3c_1)]⟩), (.pointer env)] g5 M1 (fun v g6 =>
  ∃ x_1 : Option Addr, v = (.pointer x_1) ∧ ∀ g7 : G, NewL g6 g7 80 [(.pointer x_1)] →
  ∃ la_1 : Option Addr, ∃ ll_1 : Nat, ∃ lc_1 : Nat, ∃ wo1 : World, Sem.run Tryd.prog (Builtin.append_ #[97, 97] 97 #[(.slice la ll lc), (.slice (some ⟨g6.w.heap.size, 0, none⟩) 1 1)]) g7.w = .ok (.slice la_1 ll_1 lc_1) wo1 ∧ ∃ g8 : G, g8.w = wo1 ∧ Stp g.w.heap.size M g7 g8 ∧ InI64 (v_1 + (1 : Int)) ∧ (∃ m_2 : Nat, m_2 < m_1 ∧ Inv m_2 la_1 ll_1 lc_1 (v_1 + (1 : Int)) g8)) (fun ch g9 => ∀ g10 : G, Ex g9 g10 → RP ch g10)))
  (∃ M2 : Nat → Prop, (∀ b, b < g.w.heap.size → M2 b → M b) ∧ (CallsX Tryd.prog 67 #[(.pointer m), (.agg ⟨[(.int .i64 x0), (.int .i64 x1), (.string x2), (.slice x3a x3l x3c)]⟩), (.slice la ll lc)] g4 M2 (fun v g11 =>
  ∃ x_2 : Option Addr, v = (.pointer x_2) ∧ ∀ g12 : G, Ex g11 g12 →
  R (.pointer x_2) g12) (fun ch g13 => ∀ g14 : G, Ex g13 g14 → RP ch g14)))) → J_1 g3) →
  ifB (eqI x0 (1 : Int))
  ((CallsP Tryd.prog 65 #[(.pointer env), (.int .i64 x1)] g2 fun v g15 =>
  ∃ x_3 : Option Addr, v = (.pointer x_3) ∧ ∀ g16 : G, Ex g15 g16 →
  R (.pointer x_3) g16))
  (ifB (eqI x0 (2 : Int))
  (∀ g17 : G, NewL g2 g17 100 ([(.int .i64 (1 : Int)), (.int .i64 x1), (.string (bs [])), (.slice none 0 0), (.int .i64 (0 : Int)), (.int .i64 (0 : Int)), (.string (bs [])), (.slice none 0 0), (.pointer none)] : List Value) →
  ∀ g18 : G, Ex g17 g18 →
  R (.pointer (some ⟨g2.w.heap.size, 0, none⟩)) g18)
  (ifB (eqI x0 (3 : Int))
  (∀ g19 : G, NewL g2 g19 100 ([(.int .i64 (2 : Int)), (.int .i64 (0 : Int)), (.string x2), (.slice none 0 0), (.int .i64 (0 : Int)), (.int .i64 (0 : Int)), (.string (bs [])), (.slice none 0 0), (.pointer none)] : List Value) →
  ∀ g20 : G, Ex g19 g20 →
  R (.pointer (some ⟨g2.w.heap.size, 0, none⟩)) g20)
  (ifB (eqI x0 (4 : Int))
  ((0 ≤ (0 : Int) ∧ (0 : Int) < ((x3l : Nat) : Int)) ∧ derefP x3a fun ad_3 => ∃ x0_2 : Int, ∃ x1_2 : Int, ∃ x2_2 : ByteArray, ∃ x3a_2 : Option Addr, ∃ x3l_2 : Nat, ∃ x3c_2 : Nat, g2.w.cell? (Addr.add ad_3 (Int.toNat (0 : Int) * 4)) = some (.int .i64 x0_2) ∧ g2.w.cell? (Addr.add (Addr.add ad_3 (Int.toNat (0 : Int) * 4)) 1) = some (.int .i64 x1_2) ∧ g2.w.cell? (Addr.add (Addr.add ad_3 (Int.toNat (0 : Int) * 4)) 2) = some (.string x2_2) ∧ g2.w.cell? (Addr.add (Addr.add ad_3 (Int.toNat (0 : Int) * 4)) 3) = some (.slice x3a_2 x3l_2 x3c_2) ∧ ∀ g21 : G, NewL g2 g21 100 ([(.int .i64 (7 : Int)), (.int .i64 (0 : Int)), (.string (bs [])), (.slice none 0 0), (.int .i64 x0_2), (.int .i64 x1_2), (.string x2_2), (.slice x3a_2 x3l_2 x3c_2), (.pointer env)] : List Value) →
  ∀ g22 : G, Ex g21 g22 →
  R (.pointer (some ⟨g2.w.heap.size, 0, none⟩)) g22)
  (ifB (eqI x0 (10 : Int))
  (∀ g23 : G, NewD g2 g23 103 ([(.pointer none), (.pointer env)] : List Value) →
  (0 ≤ (0 : Int) ∧ (0 : Int) < ((x3l : Nat) : Int)) ∧ derefP x3a fun ad_4 => ∃ x0_3 : Int, ∃ x1_3 : Int, ∃ x2_3 : ByteArray, ∃ x3a_3 : Option Addr, ∃ x3l_3 : Nat, ∃ x3c_3 : Nat, g23.w.cell? (Addr.add ad_4 (Int.toNat (0 : Int) * 4)) = some (.int .i64 x0_3) ∧ g23.w.cell? (Addr.add (Addr.add ad_4 (Int.toNat (0 : Int) * 4)) 1) = some (.int .i64 x1_3) ∧ g23.w.cell? (Addr.add (Addr.add ad_4 (Int.toNat (0 : Int) * 4)) 2) = some (.string x2_3) ∧ g23.w.cell? (Addr.add (Addr.add ad_4 (Int.toNat (0 : Int) * 4)) 3) = some (.slice x3a_3 x3l_3 x3c_3) ∧ ∃ M3 : Nat → Prop, (∀ b, b < g.w.heap.size → M3 b → M b) ∧ (CallsX Tryd.prog 48 #[(.pointer m), (.agg ⟨[(.int .i64 x0_3), (.int .i64 x1_3), (.string x2_3), (.slice x3a_3 x3l_3 x3c_3)]⟩), (.pointer (some ⟨g2.w.heap.size, 0, none⟩))] g23 M3 (fun v g24 =>
  ∃ x_4 : Option Addr, v = (.pointer x_4) ∧ stOk g24.w ⟨g2.w.heap.size, 0, none⟩ 1 ∧ ¬ g24.X (Addr.block ⟨g2.w.heap.size, 0, none⟩) ∧ mutAt g24 ⟨g2.w.heap.size, 0, none⟩ 1 ∧ ((Addr.block ⟨g2.w.heap.size, 0, none⟩) < g.w.heap.size → M (Addr.block ⟨g2.w.heap.size, 0, none⟩)) ∧ ∀ g25 : G, StG false g24 ⟨g2.w.heap.size, 0, none⟩ [(.pointer x_4)] g25 →
  ∃ x_5 : Option Addr, g25.w.cell? ⟨g2.w.heap.size, 0, none⟩ = some (.pointer x_5) ∧ ∀ g26 : G, Ex g25 g26 →
  R (.pointer x_5) g26) (fun ch g27 => ∀ g28 : G, Ex g27 g28 → RP ch g28)))
  (ifB (eqI x0 (13 : Int))
  (∃ M4 : Nat → Prop, (∀ b, b < g.w.heap.size → M4 b → M b) ∧ (CallsX Tryd.prog 64 #[(.pointer m), (.int .i64 (2 : Int)), (.int .i64 x1)] g2 M4 (fun v g29 =>
  v = (.tuple ⟨[]⟩) ∧ J_1 g29) (fun ch g30 => ∀ g31 : G, Ex g30 g31 → RP ch g31)))
  (ifB (eqI x0 (11 : Int))
  (∀ g32 : G, Ex g2 g32 →
  ∃ MR5 : Nat → Prop, (∀ b, MR5 b → ¬ g32.X b) ∧ (0 ≤ (1 : Int) ∧ (1 : Int) < ((x3l : Nat) : Int)) ∧ derefP x3a fun ad_5 => ¬ MR5 (Addr.block (Addr.add ad_5 (Int.toNat (1 : Int) * 4))) ∧ ∃ x0_4 : Int, ∃ x1_4 : Int, ∃ x2_4 : ByteArray, ∃ x3a_4 : Option Addr, ∃ x3l_4 : Nat, ∃ x3c_4 : Nat, g32.w.cell? (Addr.add ad_5 (Int.toNat (1 : Int) * 4)) = some (.int .i64 x0_4) ∧ g32.w.cell? (Addr.add (Addr.add ad_5 (Int.toNat (1 : Int) * 4)) 1) = some (.int .i64 x1_4) ∧ g32.w.cell? (Addr.add (Addr.add ad_5 (Int.toNat (1 : Int) * 4)) 2) = some (.string x2_4) ∧ g32.w.cell? (Addr.add (Addr.add ad_5 (Int.toNat (1 : Int) * 4)) 3) = some (.slice x3a_4 x3l_4 x3c_4) ∧ (0 ≤ (0 : Int) ∧ (0 : Int) < ((x3l : Nat) : Int)) ∧ derefP x3a fun ad_6 => ¬ MR5 (Addr.block (Addr.add ad_6 (Int.toNat (0 : Int) * 4))) ∧ ∃ x0_5 : Int, ∃ x1_5 : Int, ∃ x2_5 : ByteArray, ∃ x3a_5 : Option Addr, ∃ x3l_5 : Nat, ∃ x3c_5 : Nat, g32.w.cell? (Addr.add ad_6 (Int.toNat (0 : Int) * 4)) = some (.int .i64 x0_5) ∧ g32.w.cell? (Addr.add (Addr.add ad_6 (Int.toNat (0 : Int) * 4)) 1) = some (.int .i64 x1_5) ∧ g32.w.cell? (Addr.add (Addr.add ad_6 (Int.toNat (0 : Int) * 4)) 2) = some (.string x2_5) ∧ g32.w.cell? (Addr.add (Addr.add ad_6 (Int.toNat (0 : Int) * 4)) 3) = some (.slice x3a_5 x3l_5 x3c_5) ∧ ∃ M7 : Nat → Prop, (∀ b, b < g.w.heap.size → M7 b → M b) ∧ (CallsX Tryd.prog 48 #[(.pointer m), (.agg ⟨[(.int .i64 x0_5), (.int .i64 x1_5), (.string x2_5), (.slice x3a_5 x3l_5 x3c_5)]⟩), (.pointer env)] g32 M7 (fun v g33 =>
  ∃ x_6 : Option Addr, v = (.pointer x_6) ∧ SameBut MR5 g32 g33 ∧ ∀ g34 : G, NewD g33 g34 103 ([(.pointer x_6), (.pointer env)] : List Value) →
  ∃ M6 : Nat → Prop, (∀ b, b < g.w.heap.size → M6 b → M b) ∧ (CallsX Tryd.prog 48 #[(.pointer m), (.agg ⟨[(.int .i64 x0_4), (.int .i64 x1_4), (.string x2_4), (.slice x3a_4 x3l_4 x3c_4)]⟩), (.pointer (some ⟨g33.w.heap.size, 0, none⟩))] g34 M6 (fun v g35 =>
  ∃ x_7 : Option Addr, v = (.pointer x_7) ∧ ∀ g36 : G, Ex g35 g36 →
  R (.pointer x_7) g36) (fun ch g37 => ∀ g38 : G, Ex g37 g38 → RP ch g38))) (fun ch g39 => ∀ g40 : G, Ex g39 g40 → RP ch g40)))
  (ifB (eqI x0 (9 : Int))
  ((0 ≤ (0 : Int) ∧ (0 : Int) < ((x3l : Nat) : Int)) ∧ derefP x3a fun ad_7 => ∃ x0_6 : Int, ∃ x1_6 : Int, ∃ x2_6 : ByteArray, ∃ x3a_6 : Option Addr, ∃ x3l_6 : Nat, ∃ x3c_6 : Nat, g2.w.cell? (Addr.add ad_7 (Int.toNat (0 : Int) * 4)) = some (.int .i64 x0_6) ∧ g2.w.cell? (Addr.add (Addr.add ad_7 (Int.toNat (0 : Int) * 4)) 1) = some (.int .i64 x1_6) ∧ g2.w.cell? (Addr.add (Addr.add ad_7 (Int.toNat (0 : Int) * 4)) 2) = some (.string x2_6) ∧ g2.w.cell? (Addr.add (Addr.add ad_7 (Int.toNat (0 : Int) * 4)) 3) = some (.slice x3a_6 x3l_6 x3c_6) ∧ ∃ M13 : Nat → Prop, (∀ b, b < g.w.heap.size → M13 b → M b) ∧ (CallsX Tryd.prog 48 #[(.pointer m), (.agg ⟨[(.int .i64 x0_6), (.int .i64 x1_6), (.string x2_6), (.slice x3a_6 x3l_6 x3c_6)]⟩), (.pointer env)] g2 M13 (fun v g41 =>
  ∃ v_2 : Option Addr, v = (.pointer v_2) ∧ ∀ J_2 : G → Prop,
  (∀ g42 : G, (∀ g43 : G, Ex g42 g43 →
  ∃ MR8 : Nat → Prop, (∀ b, MR8 b → ¬ g43.X b) ∧ derefP v_2 fun ad_8 => ¬ MR8 (Addr.block (Addr.add ad_8 1)) ∧ ∃ x_8 : Int, g43.w.cell? (Addr.add ad_8 1) = some (.int .i64 x_8) ∧ InI64 (x_8 + (1 : Int)) ∧ (0 ≤ (x_8 + (1 : Int)) ∧ (x_8 + (1 : Int)) < ((x3l : Nat) : Int)) ∧ derefP x3a fun ad_9 => ¬ MR8 (Addr.block (Addr.add ad_9 (Int.toNat (x_8 + (1 : Int)) * 4))) ∧ ∃ x0_7 : Int, ∃ x1_7 : Int, ∃ x2_7 : ByteArray, ∃ x3a_7 : Option Addr, ∃ x3l_7 : Nat, ∃ x3c_7 : Nat, g43.w.cell? (Addr.add ad_9 (Int.toNat (x_8 + (1 : Int)) * 4)) = some (.int .i64 x0_7) ∧ g43.w.cell? (Addr.add (Addr.add ad_9 (Int.toNat (x_8 + (1 : Int)) * 4)) 1) = some (.int .i64 x1_7) ∧ g43.w.cell? (Addr.add (Addr.add ad_9 (Int.toNat (x_8 + (1 : Int)) * 4)) 2) = some (.string x2_7) ∧ g43.w.cell? (Addr.add (Addr.add ad_9 (Int.toNat (x_8 + (1 : Int)) * 4)) 3) = some (.slice x3a_7 x3l_7 x3c_7) ∧ derefP v_2 fun ad_10 => ¬ MR8 (Addr.block (Addr.add ad_10 3)) ∧ ∃ xa : Option Addr, ∃ xl : Nat, ∃ xc : Nat, g43.w.cell? (Addr.add ad_10 3) = some (.slice xa xl xc) ∧ (0 ≤ (0 : Int) ∧ (0 : Int) < ((xl : Nat) : Int)) ∧ derefP xa fun ad_11 => ¬ MR8 (Addr.block (Addr.add ad_11 (Int.toNat (0 : Int) * 1))) ∧ ∃ x_9 : Option Addr, g43.w.cell? (Addr.add ad_11 (Int.toNat (0 : Int) * 1)) = some (.pointer x_9) ∧ ∀ g44 : G, NewD g43 g44 103 ([(.pointer x_9), (.pointer env)] : List Value) →
  ∃ M9 : Nat → Prop, (∀ b, b < g.w.heap.size → M9 b → M b) ∧ (CallsX Tryd.prog 48 #[(.pointer m), (.agg ⟨[(.int .i64 x0_7), (.int .i64 x1_7), (.string x2_7), (.slice x3a_7 x3l_7 x3c_7)]⟩), (.pointer (some ⟨g43.w.heap.size, 0, none⟩))] g44 M9 (fun v g45 =>
  ∃ x_10 : Option Addr, v = (.pointer x_10) ∧ ∀ g46 : G, Ex g45 g46 →
  R (.pointer x_10) g46) (fun ch g47 => ∀ g48 : G, Ex g47 g48 → RP ch g48))) → J_2 g42) →
  ∀ g49 : G, Ex g41 g49 →
  ∃ MR10 : Nat → Prop, (∀ b, MR10 b → ¬ g49.X b) ∧ derefP v_2 fun ad_12 => ¬ MR10 (Addr.block ad_12) ∧ ∃ x_11 : Int, g49.w.cell? ad_12 = some (.int .i64 x_11) ∧ ifB (eqI x_11 (4 : Int))
  (derefP v_2 fun ad_13 => ¬ MR10 (Addr.block (Addr.add ad_13 1)) ∧ ∃ x_12 : Int, g49.w.cell? (Addr.add ad_13 1) = some (.int .i64 x_12) ∧ InI64 (x_12 + (1 : Int)) ∧ ∃ M11 : Nat → Prop, (∀ b, b < g.w.heap.size → M11 b → M b) ∧ (CallsX Tryd.prog 66 #[(.pointer m), (.bool (ltI (x_12 + (1 : Int)) ((x3l : Nat) : Int)))] g49 M11 (fun v g50 =>
  v = (.tuple ⟨[]⟩) ∧ J_2 g50) (fun ch g51 => ∀ g52 : G, Ex g51 g52 → RP ch g52)))
  (∃ M12 : Nat → Prop, (∀ b, b < g.w.heap.size → M12 b → M b) ∧ (CallsX Tryd.prog 66 #[(.pointer m), (.bool false)] g49 M12 (fun v g53 =>
  v = (.tuple ⟨[]⟩) ∧ J_2 g53) (fun ch g54 => ∀ g55 : G, Ex g54 g55 → RP ch g55)))) (fun ch g56 => ∀ g57 : G, Ex g56 g57 → RP ch g57)))
  (J_1 g2))))))))) → J g1) →
  ∀ g58 : G, Ex g g58 →
  ∃ MR14 : Nat → Prop, (∀ b, MR14 b → ¬ g58.X b) ∧ derefP m fun ad_14 => ¬ MR14 (Addr.block ad_14) ∧ ∃ x_13 : Int, g58.w.cell? ad_14 = some (.int .i64 x_13) ∧ derefP m fun ad_15 => ¬ MR14 (Addr.block (Addr.add ad_15 1)) ∧ ∃ x_14 : Int, g58.w.cell? (Addr.add ad_15 1) = some (.int .i64 x_14) ∧ ifB (leI x_14 x_13)
  (∃ M15 : Nat → Prop, (∀ b, b < g.w.heap.size → M15 b → M b) ∧ (CallsX Tryd.prog 64 #[(.pointer m), (.int .i64 (3 : Int)), (.int .i64 (0 : Int))] g58 M15 (fun v g59 =>
  v = (.tuple ⟨[]⟩) ∧ J g59) (fun ch g60 => ∀ g61 : G, Ex g60 g61 → RP ch g61)))
  (J g58)
theorem F48_eq (m : Option Addr) (x0 : Int) (x1 : Int) (x2 : ByteArray) (x3a : Option Addr) (x3l : Nat) (x3c : Nat) (env : Option Addr) (g : G) (M : Nat → Prop) (R : Value → G → Prop) (RP : List PanicEntry → G → Prop) : fnG (cfg48 RP) 168 [.tmp 6] c48 an48 [(.pointer m), (.agg ⟨[(.int .i64 x0), (.int .i64 x1), (.string x2), (.slice x3a x3l x3c)]⟩), (.pointer env)] g M R = F48 m x0 x1 x2 x3a x3l x3c env g M R RP := by kernel_rfl
theorem call48 (m : Option Addr) (x0 : Int) (x1 : Int) (x2 : ByteArray) (x3a : Option Addr) (x3l : Nat) (x3c : Nat) (env : Option Addr) (g : G) (M : Nat → Prop) (R : Value → G → Prop) (RP : List PanicEntry → G → Prop) (hF : F48 m x0 x1 x2 x3a x3l x3c env g M R RP ) : CallsX Tryd.prog 48 #[(.pointer m), (.agg ⟨[(.int .i64 x0), (.int .i64 x1), (.string x2), (.slice x3a x3l x3c)]⟩), (.pointer env)] g M R RP :=
  fn_soundX (c := (cfg48 RP)) TTok FNSok mixed (.inr rfl) Tryd.func48 (show Tryd.f48.body = some c48 by kernel_rfl) (show Tryd.f48.ntmps = 168 by kernel_rfl) (show Tryd.f48.results.toList = [.tmp 6] by kernel_rfl) rfl ((F48_eq m x0 x1 x2 x3a x3l x3c env g M R RP ).mpr hF)

/- 49 pilaster/pilasterref44.node -/
noncomputable def c49 : Code := match Tryd.f49.body with
  | some c => c
  | none => .skip
noncomputable def cfg49 : Cfg := ⟨Tryd.prog, TT, FNS, [1], [(1, 1), (5, 1), (7, 1), (10, 1), (14, 1), (18, 1), (49, 1), (113, 1)], [], TCH, false, false, none, PNF, false⟩
def an49 : AnnG := (.seq .leaf (.seq (.tree 6 (.quiet 0 (.quiet 1 (.quiet 2 (.quiet 3 (.quiet 4 (.quiet 5 .fin))))))) (.join ⟨[], [], []⟩ (.seq .leaf (.cond (.seq .leaf .leaf) .leaf)) (.seq (.seq .leaf (.blk (.seq .leaf (.cond (.seq .leaf .leaf) (.seq .leaf (.cond (.seq .leaf .leaf) (.seq .leaf (.cond (.seq .leaf .leaf) (.seq .leaf (.cond (.seq .leaf .leaf) (.join ⟨[(62, .bool)], [], []⟩ (.seq .leaf (.cond .leaf .leaf)) (.cond (.seq .leaf .leaf) (.seq .leaf (.cond (.seq .leaf .leaf) (.join ⟨[(79, .bool)], [], []⟩ (.seq .leaf (.cond .leaf .leaf)) (.cond (.seq .leaf .leaf) (.seq .leaf (.cond (.seq .leaf .leaf) (.seq .leaf (.cond (.seq .leaf .leaf) (.seq .leaf (.cond (.seq .leaf .leaf) (.seq .leaf (.cond (.seq .leaf .leaf) .leaf)))))))))))))))))))))))) (.seq .leaf .leaf)))))
def F49 (x0 : Int) (x1 : Int) (x2 : ByteArray) (x3a : Option Addr) (x3l : Nat) (x3c : Nat) (g : G) (R : Value → G → Prop) : Prop :=
  ∀ g1 : G, Ex g g1 →
  ∀ J : G → Prop,
  (∀ g2 : G, (ifB (eqI x0 (1 : Int))
  (ifB (leI (0 : Int) x1)
  (∀ g3 : G, Ex g2 g3 →
  R (.bool (eqI ((x3l : Nat) : Int) (0 : Int))) g3)
  (∀ g4 : G, Ex g2 g4 →
  R (.bool false) g4))
  (ifB (eqI x0 (2 : Int))
  (ifB (leI (-4503599627370496 : Int) x1)
  (ifB (leI x1 (4503599627370496 : Int))
  (∀ g5 : G, Ex g2 g5 →
  R (.bool (eqI ((x3l : Nat) : Int) (0 : Int))) g5)
  (∀ g6 : G, Ex g2 g6 →
  R (.bool false) g6))
  (∀ g7 : G, Ex g2 g7 →
  R (.bool false) g7))
  (ifB (eqI x0 (3 : Int))
  (ifB (eqI x1 (0 : Int))
  (ifB (eqI ((x3l : Nat) : Int) (0 : Int))
  (∀ g8 : G, Ex g2 g8 →
  R (.bool (leI ((x2.size : Nat) : Int) (16384 : Int))) g8)
  (∀ g9 : G, Ex g2 g9 →
  R (.bool false) g9))
  (∀ g10 : G, Ex g2 g10 →
  R (.bool false) g10))
  (ifB (eqI x0 (4 : Int))
  (ifB (eqI x1 (0 : Int))
  (∀ g11 : G, Ex g2 g11 →
  R (.bool (eqI ((x3l : Nat) : Int) (1 : Int))) g11)
  (∀ g12 : G, Ex g2 g12 →
  R (.bool false) g12))
  (∀ J_1 : Bool → G → Prop,
  (∀ v_1 : Bool, ∀ g13 : G, (ifB v_1
  (ifB (eqI x1 (0 : Int))
  (∀ g14 : G, Ex g13 g14 →
  R (.bool (eqI ((x3l : Nat) : Int) (2 : Int))) g14)
  (∀ g15 : G, Ex g13 g15 →
  R (.bool false) g15))
  (ifB (eqI x0 (6 : Int))
  (ifB (eqI x1 (0 : Int))
  (∀ g16 : G, Ex g13 g16 →
  R (.bool (leI ((x3l : Nat) : Int) (1000 : Int))) g16)
  (∀ g17 : G, Ex g13 g17 →
  R (.bool false) g17))
  (∀ J_2 : Bool → G → Prop,
  (∀ v_2 : Bool, ∀ g18 : G, (ifB v_2
  (ifB (leI (0 : Int) x1)
  (ifB (ltI x1 (1000 : Int))
  (∀ g19 : G, Ex g18 g19 →
  R (.bool (eqI ((x3l : Nat) : Int) (1 : Int))) g19)
  (∀ g20 : G, Ex g18 g20 →
  R (.bool false) g20))
  (∀ g21 : G, Ex g18 g21 →
  R (.bool false) g21))
  (ifB (eqI x0 (9 : Int))
  (ifB (eqI x1 (0 : Int))
  (ifB (leI (2 : Int) ((x3l : Nat) : Int))
  (∀ g22 : G, Ex g18 g22 →
  R (.bool (leI ((x3l : Nat) : Int) (1001 : Int))) g22)
  (∀ g23 : G, Ex g18 g23 →
  R (.bool false) g23))
  (∀ g24 : G, Ex g18 g24 →
  R (.bool false) g24))
  (ifB (eqI x0 (10 : Int))
  (ifB (eqI x1 (0 : Int))
  (ifB (eqI ((x3l : Nat) : Int) (1 : Int))
  ((0 ≤ (0 : Int) ∧ (0 : Int) < ((x3l : Nat) : Int)) ∧ derefP x3a fun ad => ∃ x : Int, g18.w.cell? (Addr.add ad (Int.toNat (0 : Int) * 4)) = some (.int .i64 x) ∧ ∀ g25 : G, Ex g18 g25 →
  R (.bool (eqI x (4 : Int))) g25)
  (∀ g26 : G, Ex g18 g26 →
  R (.bool false) g26))
  (∀ g27 : G, Ex g18 g27 →
  R (.bool false) g27))
  (ifB (eqI x0 (12 : Int))
  ((CallsP Tryd.prog 68 #[(.int .i64 x1)] g18 fun v g28 =>
  ∃ x_1 : Int, v = (.int .i64 x_1) ∧ ifB (ltI (0 : Int) x_1)
  ((CallsP Tryd.prog 68 #[(.int .i64 x1)] g28 fun v g29 =>
  ∃ x_2 : Int, v = (.int .i64 x_2) ∧ ∀ g30 : G, Ex g29 g30 →
  R (.bool (eqI ((x3l : Nat) : Int) x_2)) g30))
  (∀ g31 : G, Ex g28 g31 →
  R (.bool false) g31)))
  (ifB (eqI x0 (13 : Int))
  (ifB (leI (1 : Int) x1)
  (ifB (leI x1 (1000000 : Int))
  (∀ g32 : G, Ex g18 g32 →
  R (.bool (eqI ((x3l : Nat) : Int) (0 : Int))) g32)
  (∀ g33 : G, Ex g18 g33 →
  R (.bool false) g33))
  (∀ g34 : G, Ex g18 g34 →
  R (.bool false) g34))
  (∀ g35 : G, Ex g18 g35 →
  R (.bool false) g35)))))) → J_2 v_2 g18) →
  ifB (eqI x0 (7 : Int))
  (J_2 true g13)
  (J_2 (eqI x0 (8 : Int)) g13)))) → J_1 v_1 g13) →
  ifB (eqI x0 (5 : Int))
  (J_1 true g2)
  (J_1 (eqI x0 (11 : Int)) g2)))))) → J g2) →
  ifB (!eqI x0 (3 : Int))
  (ifB (!strEq x2 (bs []))
  (∀ g36 : G, Ex g1 g36 →
  R (.bool false) g36)
  (J g1))
  (J g1)
theorem F49_eq (x0 : Int) (x1 : Int) (x2 : ByteArray) (x3a : Option Addr) (x3l : Nat) (x3c : Nat) (g : G) (R : Value → G → Prop) : fnG cfg49 143 [.tmp 2] c49 an49 [(.agg ⟨[(.int .i64 x0), (.int .i64 x1), (.string x2), (.slice x3a x3l x3c)]⟩)] g nobody R = F49 x0 x1 x2 x3a x3l x3c g R := by kernel_rfl
theorem call49 (x0 : Int) (x1 : Int) (x2 : ByteArray) (x3a : Option Addr) (x3l : Nat) (x3c : Nat) (g : G) (R : Value → G → Prop) (hF : F49 x0 x1 x2 x3a x3l x3c g R) : CallsG Tryd.prog 49 #[(.agg ⟨[(.int .i64 x0), (.int .i64 x1), (.string x2), (.slice x3a x3l x3c)]⟩)] g nobody R :=
  fn_soundG (c := cfg49) TTok FNSok mixed Tryd.func49 (show Tryd.f49.body = some c49 by kernel_rfl) (show Tryd.f49.ntmps = 143 by kernel_rfl) (show Tryd.f49.results.toList = [.tmp 2] by kernel_rfl) rfl ((F49_eq x0 x1 x2 x3a x3l x3c g R ).mpr hF)

/- 50 pilaster/pilasterref44.insert -/
noncomputable def c50 : Code := match Tryd.f50.body with
  | some c => c
  | none => .skip
noncomputable def cfg50 : Cfg := ⟨Tryd.prog, TT, FNS, [], [], [], TCH, false, false, none, PNF, false⟩
def an50 : AnnG := (.seq .leaf (.seq .leaf (.join ⟨[(5, .int .i64)], [], []⟩ (.blk (.loop ⟨[(5, .int .i64)], [], []⟩ (.seq (.seq .leaf (.cond .leaf .leaf)) (.blk .leaf)))) (.join ⟨[], [], []⟩ (.seq .leaf (.cond (.seq .leaf .leaf) .leaf)) (.seq .leaf (.seq .leaf (.seq .leaf .leaf)))))))
def F50 (la : Option Addr) (ll : Nat) (lc : Nat) (n : Int) (g : G) (R : Value → G → Prop) : Prop :=
  ∀ J : Int → G → Prop,
  (∀ i : Int, ∀ g1 : G, (∀ J_1 : G → Prop,
  (∀ g2 : G, (∀ g3 : G, NewL g2 g3 3 [] →
  (0 ≤ i ∧ i ≤ ((lc : Nat) : Int)) ∧ ∃ outa : Option Addr, ∃ outl : Nat, ∃ outc : Nat, ∃ wo1 : World, Sem.run Tryd.prog (Builtin.append_ #[36, 36] 36 #[(.slice (some ⟨g2.w.heap.size, 0, none⟩) 0 0), (.slice (slAddr la lc 0 1) ((Int.toNat i) - 0) (lc - 0))]) g3.w = .ok (.slice outa outl outc) wo1 ∧ ∃ g4 : G, g4.w = wo1 ∧ Stp g.w.heap.size nobody g3 g4 ∧ ∀ g5 : G, NewL g4 g5 3 [(.int .i64 n)] →
  ∃ outa_1 : Option Addr, ∃ outl_1 : Nat, ∃ outc_1 : Nat, ∃ wo2 : World, Sem.run Tryd.prog (Builtin.append_ #[36, 36] 36 #[(.slice outa outl outc), (.slice (some ⟨g4.w.heap.size, 0, none⟩) 1 1)]) g5.w = .ok (.slice outa_1 outl_1 outc_1) wo2 ∧ ∃ g6 : G, g6.w = wo2 ∧ Stp g.w.heap.size nobody g5 g6 ∧ (0 ≤ i ∧ i ≤ ((ll : Nat) : Int)) ∧ ∃ xa : Option Addr, ∃ xl : Nat, ∃ xc : Nat, ∃ wo3 : World, Sem.run Tryd.prog (Builtin.append_ #[36, 36] 36 #[(.slice outa_1 outl_1 outc_1), (.slice (slAddr la lc (Int.toNat i) 1) (ll - (Int.toNat i)) (lc - (Int.toNat i)))]) g6.w = .ok (.slice xa xl xc) wo3 ∧ ∃ g7 : G, g7.w = wo3 ∧ Stp g.w.heap.size nobody g6 g7 ∧ ∀ g8 : G, Ex g7 g8 →
  R (.slice xa xl xc) g8) → J_1 g2) →
  ifB (ltI i ((ll : Nat) : Int))
  ((0 ≤ i ∧ i < ((ll : Nat) : Int)) ∧ derefP la fun ad => ∃ x : Int, g1.w.cell? (Addr.add ad (Int.toNat i * 1)) = some (.int .i64 x) ∧ ifB (eqI x n)
  (∀ g9 : G, Ex g1 g9 →
  R (.slice la ll lc) g9)
  (J_1 g1))
  (J_1 g1)) → J i g1) →
  ∃ Inv : Nat → Int → G → Prop, ((∃ m0 : Nat, Inv m0 (0 : Int) g)) ∧
  ∀ m : Nat, ∀ i_1 : Int, ∀ g10 : G, Le g g10 → Inv m i_1 g10 →
  ifB (ltI i_1 ((ll : Nat) : Int))
  ((0 ≤ i_1 ∧ i_1 < ((ll : Nat) : Int)) ∧ derefP la fun ad_1 => ∃ x_1 : Int, g10.w.cell? (Addr.add ad_1 (Int.toNat i_1 * 1)) = some (.int .i64 x_1) ∧ ifB (ltI x_1 n)
  (InI64 (i_1 + (1 : Int)) ∧ (∃ m_1 : Nat, m_1 < m ∧ Inv m_1 (i_1 + (1 : Int)) g10))
  (J i_1 g10))
  (J i_1 g10)
theorem F50_eq (la : Option Addr) (ll : Nat) (lc : Nat) (n : Int) (g : G) (R : Value → G → Prop) : fnG cfg50 48 [.tmp 4] c50 an50 [(.slice la ll lc), (.int .i64 n)] g nobody R = F50 la ll lc n g R := by kernel_rfl
theorem call50 (la : Option Addr) (ll : Nat) (lc : Nat) (n : Int) (g : G) (R : Value → G → Prop) (hF : F50 la ll lc n g R) : CallsG Tryd.prog 50 #[(.slice la ll lc), (.int .i64 n)] g nobody R :=
  fn_soundG (c := cfg50) TTok FNSok mixed Tryd.func50 (show Tryd.f50.body = some c50 by kernel_rfl) (show Tryd.f50.ntmps = 48 by kernel_rfl) (show Tryd.f50.results.toList = [.tmp 4] by kernel_rfl) rfl ((F50_eq la ll lc n g R ).mpr hF)

/- 51 pilaster/pilasterref44.Bound -/
noncomputable def c51 : Code := match Tryd.f51.body with
  | some c => c
  | none => .skip
noncomputable def cfg51 : Cfg := ⟨Tryd.prog, TT, FNS, [2], [(2, 2), (5, 2)], [], TCH, false, false, none, PNF, false⟩
def an51 : AnnG := (.seq .leaf (.seq (.seq .leaf (.blk (.join ⟨[(7, .bool)], [], []⟩ (.seq .leaf (.cond .leaf .leaf)) (.cond (.seq .leaf .leaf) (.seq (.seq .leaf (.cond .leaf .leaf)) (.cond (.seq .leaf (.cond (.seq .leaf .leaf) .leaf)) .leaf)))))) (.seq .leaf .leaf)))
def F51 (x0 : Int) (x1 : Int) (x2 : ByteArray) (x3a : Option Addr) (x3l : Nat) (x3c : Nat) (part : Int) (g : G) (R : Value → G → Prop) : Prop :=
  ∀ J : Bool → G → Prop,
  (∀ v_1 : Bool, ∀ g1 : G, (ifB v_1
  (∀ g2 : G, Ex g1 g2 →
  R (.int .i64 (1 : Int)) g2)
  (ifB (eqI x0 (11 : Int))
  (ifB (ltI (0 : Int) part)
  (∀ g3 : G, Ex g1 g3 →
  R (.int .i64 (1 : Int)) g3)
  (∀ g4 : G, Ex g1 g4 →
  R (.int .i64 (0 : Int)) g4))
  (ifB (eqI x0 (9 : Int))
  (ifB (ltI (0 : Int) part)
  (∀ g5 : G, Ex g1 g5 →
  R (.int .i64 (1 : Int)) g5)
  (∀ g6 : G, Ex g1 g6 →
  R (.int .i64 (0 : Int)) g6))
  (∀ g7 : G, Ex g1 g7 →
  R (.int .i64 (0 : Int)) g7)))) → J v_1 g1) →
  ifB (eqI x0 (4 : Int))
  (∀ g8 : G, Ex g g8 →
  J true g8)
  (∀ g9 : G, Ex g g9 →
  J (eqI x0 (10 : Int)) g9)
theorem F51_eq (x0 : Int) (x1 : Int) (x2 : ByteArray) (x3a : Option Addr) (x3l : Nat) (x3c : Nat) (part : Int) (g : G) (R : Value → G → Prop) : fnG cfg51 15 [.tmp 4] c51 an51 [(.agg ⟨[(.int .i64 x0), (.int .i64 x1), (.string x2), (.slice x3a x3l x3c)]⟩), (.int .i64 part)] g nobody R = F51 x0 x1 x2 x3a x3l x3c part g R := by kernel_rfl
theorem call51 (x0 : Int) (x1 : Int) (x2 : ByteArray) (x3a : Option Addr) (x3l : Nat) (x3c : Nat) (part : Int) (g : G) (R : Value → G → Prop) (hF : F51 x0 x1 x2 x3a x3l x3c part g R) : CallsG Tryd.prog 51 #[(.agg ⟨[(.int .i64 x0), (.int .i64 x1), (.string x2), (.slice x3a x3l x3c)]⟩), (.int .i64 part)] g nobody R :=
  fn_soundG (c := cfg51) TTok FNSok mixed Tryd.func51 (show Tryd.f51.body = some c51 by kernel_rfl) (show Tryd.f51.ntmps = 15 by kernel_rfl) (show Tryd.f51.results.toList = [.tmp 4] by kernel_rfl) rfl ((F51_eq x0 x1 x2 x3a x3l x3c part g R ).mpr hF)

/- 52 pilaster/pilasterref44.end -/
noncomputable def c52 : Code := match Tryd.f52.body with
  | some c => c
  | none => .skip
noncomputable def cfg52 : Cfg := ⟨Tryd.prog, TT, FNS, [3, 6, 7], [(3, 3), (6, 6), (7, 7), (9, 3), (11, 3)], [], TCH, false, false, none, PNF, false⟩
def an52 : AnnG := (.seq .leaf (.seq .leaf (.seq .leaf (.seq (.treeP false [6, 7] 3 (.quiet 1 (.eff 0 (.eff 2 .fin .fin) .fin))) .leaf))))
def F52 (s0 : Int) (s1 : Int) (s2a : Option Addr) (s2l : Nat) (s2c : Nat) (s3 : Int) (s4 : Int) (op : Int) (code : Int) (g : G) (R : Value → G → Prop) : Prop :=
  ∀ g1 : G, Ex g g1 →
  ∀ g2 : G, Ex g1 g2 →
  ∀ g3 : G, Ex g2 g3 →
  R (.tuple ⟨[(.agg ⟨[(.int .i64 (0 : Int)), (.int .i64 (0 : Int)), (.string (bs [])), (.slice none 0 0), (.int .i64 (0 : Int)), (.int .i64 (0 : Int)), (.string (bs [])), (.slice none 0 0), (.slice none 0 0), (.bool false)]⟩), (.agg ⟨[(.int .i64 s0), (.int .i64 s1), (.slice s2a s2l s2c), (.int .i64 op), (.int .i64 code)]⟩)]⟩) g3
theorem F52_eq (s0 : Int) (s1 : Int) (s2a : Option Addr) (s2l : Nat) (s2c : Nat) (s3 : Int) (s4 : Int) (op : Int) (code : Int) (g : G) (R : Value → G → Prop) : fnG cfg52 14 [.cell 6 63, .cell 7 65] c52 an52 [(.agg ⟨[(.int .i64 s0), (.int .i64 s1), (.slice s2a s2l s2c), (.int .i64 s3), (.int .i64 s4)]⟩), (.int .i64 op), (.int .i64 code)] g nobody R = F52 s0 s1 s2a s2l s2c s3 s4 op code g R := by kernel_rfl
theorem call52 (s0 : Int) (s1 : Int) (s2a : Option Addr) (s2l : Nat) (s2c : Nat) (s3 : Int) (s4 : Int) (op : Int) (code : Int) (g : G) (R : Value → G → Prop) (hF : F52 s0 s1 s2a s2l s2c s3 s4 op code g R) : CallsG Tryd.prog 52 #[(.agg ⟨[(.int .i64 s0), (.int .i64 s1), (.slice s2a s2l s2c), (.int .i64 s3), (.int .i64 s4)]⟩), (.int .i64 op), (.int .i64 code)] g nobody R :=
  fn_soundG (c := cfg52) TTok FNSok mixed Tryd.func52 (show Tryd.f52.body = some c52 by kernel_rfl) (show Tryd.f52.ntmps = 14 by kernel_rfl) (show Tryd.f52.results.toList = [.cell 6 63, .cell 7 65] by kernel_rfl) rfl ((F52_eq s0 s1 s2a s2l s2c s3 s4 op code g R ).mpr hF)

/- 53 pilaster/pilasterref44.with -/
noncomputable def c53 : Code := match Tryd.f53.body with
  | some c => c
  | none => .skip
noncomputable def cfg53 : Cfg := ⟨Tryd.prog, TT, FNS, [3], [(3, 3)], [], TCH, false, false, none, PNF, false⟩
def an53 : AnnG := (.seq .leaf (.seq (.tree 5 (.quiet 1 (.quiet 3 (.eff 0 (.eff 2 (.eff 4 .fin .fin) (.eff 4 (.eff 2 .fin .fin) .fin)) (.eff 4 (.eff 0 (.eff 2 .fin .fin) .fin) .fin))))) .leaf))
def F53 (enva : Option Addr) (envl : Nat) (envc : Nat) (t0 : Int) (t1 : Int) (t2 : ByteArray) (t3a : Option Addr) (t3l : Nat) (t3c : Nat) (t4 : Int) (t5 : Int) (t6 : ByteArray) (t7a : Option Addr) (t7l : Nat) (t7c : Nat) (t8a : Option Addr) (t8l : Nat) (t8c : Nat) (t9 : Bool) (g : G) (R : Value → G → Prop) : Prop :=
  ∀ g1 : G, Ex g g1 →
  (∀ g2 : G, NewL g1 g2 63 [] →
  (∃ xa : Option Addr, ∃ xl : Nat, ∃ xc : Nat, ∃ wo1 : World, Sem.run Tryd.prog (Builtin.append_ #[61, 61] 61 #[(.slice (some ⟨g1.w.heap.size, 0, none⟩) 0 0), (.slice enva envl envc)]) g2.w = .ok (.slice xa xl xc) wo1 ∧ ∃ g3 : G, g3.w = wo1 ∧ Stp g.w.heap.size nobody g2 g3 ∧ SameB g1 g3 ∧ ∀ g4 : G, NewL g3 g4 63 [(.int .i64 t0), (.int .i64 t1), (.string t2), (.slice t3a t3l t3c), (.int .i64 t4), (.int .i64 t5), (.string t6), (.slice t7a t7l t7c), (.slice t8a t8l t8c), (.bool t9)] →
  ∃ xa_1 : Option Addr, ∃ xl_1 : Nat, ∃ xc_1 : Nat, ∃ wo2 : World, Sem.run Tryd.prog (Builtin.append_ #[61, 61] 61 #[(.slice xa xl xc), (.slice (some ⟨g3.w.heap.size, 0, none⟩) 1 1)]) g4.w = .ok (.slice xa_1 xl_1 xc_1) wo2 ∧ ∃ g5 : G, g5.w = wo2 ∧ Stp g.w.heap.size nobody g4 g5 ∧ ∀ g6 : G, Ex g5 g6 →
  R (.slice xa_1 xl_1 xc_1) g6) ∧ (∀ g7 : G, NewL g2 g7 63 [(.int .i64 t0), (.int .i64 t1), (.string t2), (.slice t3a t3l t3c), (.int .i64 t4), (.int .i64 t5), (.string t6), (.slice t7a t7l t7c), (.slice t8a t8l t8c), (.bool t9)] →
  ∃ xa_2 : Option Addr, ∃ xl_2 : Nat, ∃ xc_2 : Nat, ∃ wo3 : World, Sem.run Tryd.prog (Builtin.append_ #[61, 61] 61 #[(.slice (some ⟨g1.w.heap.size, 0, none⟩) 0 0), (.slice enva envl envc)]) g7.w = .ok (.slice xa_2 xl_2 xc_2) wo3 ∧ ∃ g8 : G, g8.w = wo3 ∧ Stp g.w.heap.size nobody g7 g8 ∧ SameB g1 g8 ∧ ∃ xa_3 : Option Addr, ∃ xl_3 : Nat, ∃ xc_3 : Nat, ∃ wo4 : World, Sem.run Tryd.prog (Builtin.append_ #[61, 61] 61 #[(.slice xa_2 xl_2 xc_2), (.slice (some ⟨g2.w.heap.size, 0, none⟩) 1 1)]) g8.w = .ok (.slice xa_3 xl_3 xc_3) wo4 ∧ ∃ g9 : G, g9.w = wo4 ∧ Stp g.w.heap.size nobody g8 g9 ∧ ∀ g10 : G, Ex g9 g10 →
  R (.slice xa_3 xl_3 xc_3) g10)) ∧ (∀ g11 : G, NewL g1 g11 63 [(.int .i64 t0), (.int .i64 t1), (.string t2), (.slice t3a t3l t3c), (.int .i64 t4), (.int .i64 t5), (.string t6), (.slice t7a t7l t7c), (.slice t8a t8l t8c), (.bool t9)] →
  ∀ g12 : G, NewL g11 g12 63 [] →
  ∃ xa_4 : Option Addr, ∃ xl_4 : Nat, ∃ xc_4 : Nat, ∃ wo5 : World, Sem.run Tryd.prog (Builtin.append_ #[61, 61] 61 #[(.slice (some ⟨g11.w.heap.size, 0, none⟩) 0 0), (.slice enva envl envc)]) g12.w = .ok (.slice xa_4 xl_4 xc_4) wo5 ∧ ∃ g13 : G, g13.w = wo5 ∧ Stp g.w.heap.size nobody g12 g13 ∧ SameB g1 g13 ∧ ∃ xa_5 : Option Addr, ∃ xl_5 : Nat, ∃ xc_5 : Nat, ∃ wo6 : World, Sem.run Tryd.prog (Builtin.append_ #[61, 61] 61 #[(.slice xa_4 xl_4 xc_4), (.slice (some ⟨g1.w.heap.size, 0, none⟩) 1 1)]) g13.w = .ok (.slice xa_5 xl_5 xc_5) wo6 ∧ ∃ g14 : G, g14.w = wo6 ∧ Stp g.w.heap.size nobody g13 g14 ∧ ∀ g15 : G, Ex g14 g15 →
  R (.slice xa_5 xl_5 xc_5) g15)
theorem F53_eq (enva : Option Addr) (envl : Nat) (envc : Nat) (t0 : Int) (t1 : Int) (t2 : ByteArray) (t3a : Option Addr) (t3l : Nat) (t3c : Nat) (t4 : Int) (t5 : Int) (t6 : ByteArray) (t7a : Option Addr) (t7l : Nat) (t7c : Nat) (t8a : Option Addr) (t8l : Nat) (t8c : Nat) (t9 : Bool) (g : G) (R : Value → G → Prop) : fnG cfg53 11 [.tmp 4] c53 an53 [(.slice enva envl envc), (.agg ⟨[(.int .i64 t0), (.int .i64 t1), (.string t2), (.slice t3a t3l t3c), (.int .i64 t4), (.int .i64 t5), (.string t6), (.slice t7a t7l t7c), (.slice t8a t8l t8c), (.bool t9)]⟩)] g nobody R = F53 enva envl envc t0 t1 t2 t3a t3l t3c t4 t5 t6 t7a t7l t7c t8a t8l t8c t9 g R := by kernel_rfl
theorem call53 (enva : Option Addr) (envl : Nat) (envc : Nat) (t0 : Int) (t1 : Int) (t2 : ByteArray) (t3a : Option Addr) (t3l : Nat) (t3c : Nat) (t4 : Int) (t5 : Int) (t6 : ByteArray) (t7a : Option Addr) (t7l : Nat) (t7c : Nat) (t8a : Option Addr) (t8l : Nat) (t8c : Nat) (t9 : Bool) (g : G) (R : Value → G → Prop) (hF : F53 enva envl envc t0 t1 t2 t3a t3l t3c t4 t5 t6 t7a t7l t7c t8a t8l t8c t9 g R) : CallsG Tryd.prog 53 #[(.slice enva envl envc), (.agg ⟨[(.int .i64 t0), (.int .i64 t1), (.string t2), (.slice t3a t3l t3c), (.int .i64 t4), (.int .i64 t5), (.string t6), (.slice t7a t7l t7c), (.slice t8a t8l t8c), (.bool t9)]⟩)] g nobody R :=
  fn_soundG (c := cfg53) TTok FNSok mixed Tryd.func53 (show Tryd.f53.body = some c53 by kernel_rfl) (show Tryd.f53.ntmps = 11 by kernel_rfl) (show Tryd.f53.results.toList = [.tmp 4] by kernel_rfl) rfl ((F53_eq enva envl envc t0 t1 t2 t3a t3l t3c t4 t5 t6 t7a t7l t7c t8a t8l t8c t9 g R ).mpr hF)

/- 54 pilaster/pilasterref44.all -/
noncomputable def c54 : Code := match Tryd.f54.body with
  | some c => c
  | none => .skip
noncomputable def cfg54 : Cfg := ⟨Tryd.prog, TT, FNS, [5, 7, 10, 11], [(5, 5), (7, 7), (10, 10), (11, 11), (29, 5)], [], TCH, false, false, none, PNF, false⟩
def an54 : AnnG := (.seq .leaf (.seq .leaf (.seq (.seq .leaf (.blk (.loop ⟨[(8, .sl), (9, .int .i64)], [(5, 5, 0), (7, 7, 0)], [(5, [(.int .i64), (.int .i64), (.sl), (.int .i64), (.int .i64)]), (7, [(.int .i64), (.int .i64), (.sl), (.int .i64), (.int .i64)])]⟩ (.seq (.seq .leaf (.cond .leaf .leaf)) (.seq (.blk (.join ⟨[], [(10, 10, 0), (11, 11, 0)], [(10, [(.int .i64), (.int .i64), (.str), (.sl), (.int .i64), (.int .i64), (.str), (.sl), (.sl), (.bool)]), (11, [(.int .i64), (.int .i64), (.sl), (.int .i64), (.int .i64)])]⟩ (.treeP false [] 13 (.quiet 0 (.quiet 1 (.quiet 2 (.quiet 3 (.quiet 4 (.quiet 5 (.eff 6 (.quiet 7 (.quiet 8 (.quiet 9 (.eff 10 (.eff 11 (.eff 12 .fin .fin) .fin) (.eff 11 (.eff 10 (.eff 12 .fin .fin) .fin) .fin))))) (.eff 10 (.eff 6 (.quiet 7 (.quiet 8 (.quiet 9 (.eff 11 (.eff 12 .fin .fin) .fin)))) (.eff 11 (.eff 6 (.quiet 7 (.quiet 8 (.quiet 9 (.eff 12 .fin .fin)))) .fin) .fin)) (.eff 11 (.eff 6 (.quiet 7 (.quiet 8 (.quiet 9 (.eff 10 (.eff 12 .fin .fin) .fin)))) (.eff 10 (.eff 6 (.quiet 7 (.quiet 8 (.quiet 9 (.eff 12 .fin .fin)))) .fin) .fin)) .fin)))))))))) (.seq .leaf (.seq (.seq .leaf (.cond (.seq (.treeP false [7] 2 (.quiet 0 (.quiet 1 .fin))) .leaf) .leaf)) .leaf)))) .leaf))))) (.seq (.treeP false [7] 3 (.quiet 0 (.quiet 1 (.quiet 2 .fin)))) .leaf))))
def F54 (la : Option Addr) (ll : Nat) (lc : Nat) (enva : Option Addr) (envl : Nat) (envc : Nat) (s0 : Int) (s1 : Int) (s2a : Option Addr) (s2l : Nat) (s2c : Nat) (s3 : Int) (s4 : Int) (g : G) (R : Value → G → Prop) : Prop :=
  ∃ Inv : Nat → Option Addr → Nat → Nat → Int → Int → Int → Option Addr → Nat → Nat → Int → Int → Int → Int → Option Addr → Nat → Nat → Int → Int → G → Prop, (∀ g1 : G, Ex g g1 →
  (∃ m0 : Nat, Inv m0 none 0 0 (0 : Int) s0 s1 s2a s2l s2c s3 s4 (0 : Int) (0 : Int) none 0 0 (0 : Int) (0 : Int) g1)) ∧
  ∀ m : Nat, ∀ outa : Option Addr, ∀ outl : Nat, ∀ outc : Nat, ∀ i : Int, ∀ s0_1 : Int, ∀ s1_1 : Int, ∀ s2a_1 : Option Addr, ∀ s2l_1 : Nat, ∀ s2c_1 : Nat, ∀ s3_1 : Int, ∀ s4_1 : Int, ∀ x0 : Int, ∀ x1 : Int, ∀ x2a : Option Addr, ∀ x2l : Nat, ∀ x2c : Nat, ∀ x3 : Int, ∀ x4 : Int, ∀ g2 : G, Le g g2 → Inv m outa outl outc i s0_1 s1_1 s2a_1 s2l_1 s2c_1 s3_1 s4_1 x0 x1 x2a x2l x2c x3 x4 g2 →
  ifB (ltI i ((ll : Nat) : Int))
  (∀ J : Int → Int → ByteArray → Option Addr → Nat → Nat → Int → Int → ByteArray → Option Addr → Nat → Nat → Option Addr → Nat → Nat → Bool → Int → Int → Option Addr → Nat → Nat → Int → Int → G → Prop,
  (∀ t0 : Int, ∀ t1 : Int, ∀ t2 : ByteArray, ∀ t3a : Option Addr, ∀ t3l : Nat, ∀ t3c : Nat, ∀ t4 : Int, ∀ t5 : Int, ∀ t6 : ByteArray, ∀ t7a : Option Addr, ∀ t7l : Nat, ∀ t7c : Nat, ∀ t8a : Option Addr, ∀ t8l : Nat, ∀ t8c : Nat, ∀ t9 : Bool, ∀ next0 : Int, ∀ next1 : Int, ∀ next2a : Option Addr, ∀ next2l : Nat, ∀ next2c : Nat, ∀ next3 : Int, ∀ next4 : Int, ∀ g3 : G, (ifB (!eqI next3 (0 : Int))
  (∀ g4 : G, Ex g3 g4 →
  ∀ g5 : G, Ex g4 g5 →
  R (.tuple ⟨[(.slice none 0 0), (.agg ⟨[(.int .i64 next0), (.int .i64 next1), (.slice next2a next2l next2c), (.int .i64 next3), (.int .i64 next4)]⟩)]⟩) g5)
  (∀ g6 : G, Ex g3 g6 →
  ∀ g7 : G, NewL g6 g7 63 [(.int .i64 t0), (.int .i64 t1), (.string t2), (.slice t3a t3l t3c), (.int .i64 t4), (.int .i64 t5), (.string t6), (.slice t7a t7l t7c), (.slice t8a t8l t8c), (.bool t9)] →
  ∃ outa_1 : Option Addr, ∃ outl_1 : Nat, ∃ outc_1 : Nat, ∃ wo1 : World, Sem.run Tryd.prog (Builtin.append_ #[61, 61] 61 #[(.slice outa outl outc), (.slice (some ⟨g6.w.heap.size, 0, none⟩) 1 1)]) g7.w = .ok (.slice outa_1 outl_1 outc_1) wo1 ∧ ∃ g8 : G, g8.w = wo1 ∧ Stp g.w.heap.size nobody g7 g8 ∧ InI64 (i + (1 : Int)) ∧ (∃ m_1 : Nat, m_1 < m ∧ Inv m_1 outa_1 outl_1 outc_1 (i + (1 : Int)) next0 next1 next2a next2l next2c next3 next4 x0 x1 x2a x2l x2c x3 x4 g8))) → J t0 t1 t2 t3a t3l t3c t4 t5 t6 t7a t7l t7c t8a t8l t8c t9 next0 next1 next2a next2l next2c next3 next4 g3) →
  ∀ g9 : G, Ex g2 g9 →
  (0 ≤ i ∧ i < ((ll : Nat) : Int)) ∧ derefP la fun ad => ¬ g9.X (Addr.block (Addr.add ad (Int.toNat i * 4))) ∧ ∃ x0_1 : Int, ∃ x1_1 : Int, ∃ x2 : ByteArray, ∃ x3a : Option Addr, ∃ x3l : Nat, ∃ x3c : Nat, g9.w.cell? (Addr.add ad (Int.toNat i * 4)) = some (.int .i64 x0_1) ∧ g9.w.cell? (Addr.add (Addr.add ad (Int.toNat i * 4)) 1) = some (.int .i64 x1_1) ∧ g9.w.cell? (Addr.add (Addr.add ad (Int.toNat i * 4)) 2) = some (.string x2) ∧ g9.w.cell? (Addr.add (Addr.add ad (Int.toNat i * 4)) 3) = some (.slice x3a x3l x3c) ∧ (∀ g10 : G, Ex g9 g10 →
  (CallsP Tryd.prog 37 #[(.agg ⟨[(.int .i64 x0_1), (.int .i64 x1_1), (.string x2), (.slice x3a x3l x3c)]⟩), (.slice enva envl envc), (.agg ⟨[(.int .i64 s0_1), (.int .i64 s1_1), (.slice s2a_1 s2l_1 s2c_1), (.int .i64 s3_1), (.int .i64 s4_1)]⟩)] g10 fun v g11 =>
  ∃ x00 : Int, ∃ x01 : Int, ∃ x02 : ByteArray, ∃ x03a : Option Addr, ∃ x03l : Nat, ∃ x03c : Nat, ∃ x04 : Int, ∃ x05 : Int, ∃ x06 : ByteArray, ∃ x07a : Option Addr, ∃ x07l : Nat, ∃ x07c : Nat, ∃ x08a : Option Addr, ∃ x08l : Nat, ∃ x08c : Nat, ∃ x09 : Bool, ∃ x10 : Int, ∃ x11 : Int, ∃ x12a : Option Addr, ∃ x12l : Nat, ∃ x12c : Nat, ∃ x13 : Int, ∃ x14 : Int, v = (.tuple ⟨[(.agg ⟨[(.int .i64 x00), (.int .i64 x01), (.string x02), (.slice x03a x03l x03c), (.int .i64 x04), (.int .i64 x05), (.string x06), (.slice x07a x07l x07c), (.slice x08a x08l x08c), (.bool x09)]⟩), (.agg ⟨[(.int .i64 x10), (.int .i64 x11), (.slice x12a x12l x12c), (.int .i64 x13), (.int .i64 x14)]⟩)]⟩) ∧ Rep 1 (∀ g12 : G, Ex g11 g12 →
  J x00 x01 x02 x03a x03l x03c x04 x05 x06 x07a x07l x07c x08a x08l x08c x09 x10 x11 x12a x12l x12c x13 x14 g12))) ∧ ((Rep 1 (∀ g14 : G, Ex g9 g14 →
  (CallsP Tryd.prog 37 #[(.agg ⟨[(.int .i64 x0_1), (.int .i64 x1_1), (.string x2), (.slice x3a x3l x3c)]⟩), (.slice enva envl envc), (.agg ⟨[(.int .i64 s0_1), (.int .i64 s1_1), (.slice s2a_1 s2l_1 s2c_1), (.int .i64 s3_1), (.int .i64 s4_1)]⟩)] g14 fun v g15 =>
  ∃ x00_1 : Int, ∃ x01_1 : Int, ∃ x02_1 : ByteArray, ∃ x03a_1 : Option Addr, ∃ x03l_1 : Nat, ∃ x03c_1 : Nat, ∃ x04_1 : Int, ∃ x05_1 : Int, ∃ x06_1 : ByteArray, ∃ x07a_1 : Option Addr, ∃ x07l_1 : Nat, ∃ x07c_1 : Nat, ∃ x08a_1 : Option Addr, ∃ x08l_1 : Nat, ∃ x08c_1 : Nat, ∃ x09_1 : Bool, ∃ x10_1 : Int, ∃ x11_1 : Int, ∃ x12a_1 : Option Addr, ∃ x12l_1 : Nat, ∃ x12c_1 : Nat, ∃ x13_1 : Int, ∃ x14_1 : Int, v = (.tuple ⟨[(.agg ⟨[(.int .i64 x00_1), (.int .i64 x01_1), (.string x02_1), (.slice x03a_1 x03l_1 x03c_1), (.int .i64 x04_1), (.int .i64 x05_1), (.string x06_1), (.slice x07a_1 x07l_1 x07c_1), (.slice x08a_1 x08l_1 x08c_1), (.bool x09_1)]⟩), (.agg ⟨[(.int .i64 x10_1), (.int .i64 x11_1), (.slice x12a_1 x12l_1 x12c_1), (.int .i64 x13_1), (.int .i64 x14_1)]⟩)]⟩) ∧ ∀ g16 : G, Ex g15 g16 →
  J x00_1 x01_1 x02_1 x03a_1 x03l_1 x03c_1 x04_1 x05_1 x06_1 x07a_1 x07l_1 x07c_1 x08a_1 x08l_1 x08c_1 x09_1 x10_1 x11_1 x12a_1 x12l_1 x12c_1 x13_1 x14_1 g16))) ∧ (Rep 1 (∀ g20 : G, Ex g9 g20 →
  (CallsP Tryd.prog 37 #[(.agg ⟨[(.int .i64 x0_1), (.int .i64 x1_1), (.string x2), (.slice x3a x3l x3c)]⟩), (.slice enva envl envc), (.agg ⟨[(.int .i64 s0_1), (.int .i64 s1_1), (.slice s2a_1 s2l_1 s2c_1), (.int .i64 s3_1), (.int .i64 s4_1)]⟩)] g20 fun v g21 =>
  ∃ x00_3 : Int, ∃ x01_3 : Int, ∃ x02_3 : ByteArray, ∃ x03a_3 : Option Addr, ∃ x03l_3 : Nat, ∃ x03c_3 : Nat, ∃ x04_3 : Int, ∃ x05_3 : Int, ∃ x06_3 : ByteArray, ∃ x07a_3 : Option Addr, ∃ x07l_3 : Nat, ∃ x07c_3 : Nat, ∃ x08a_3 : Option Addr, ∃ x08l_3 : Nat, ∃ x08c_3 : Nat, ∃ x09_3 : Bool, ∃ x10_3 : Int, ∃ x11_3 : Int, ∃ x12a_3 : Option Addr, ∃ x12l_3 : Nat, ∃ x12c_3 : Nat, ∃ x13_3 : Int, ∃ x14_3 : Int, v = (.tuple ⟨[(.agg ⟨[(.int .i64 x00_3), (.int .i64 x01_3), (.string x02_3), (.slice x03a_3 x03l_3 x03c_3), (.int .i64 x04_3), (.int .i64 x05_3), (.string x06_3), (.slice x07a_3 x07l_3 x07c_3), (.slice x08a_3 x08l_3 x08c_3), (.bool x09_3)]⟩), (.agg ⟨[(.int .i64 x10_3), (.int .i64 x11_3), (.slice x12a_3 x12l_3 x12c_3), (.int .i64 x13_3), (.int .i64 x14_3)]⟩)]⟩) ∧ ∀ g22 : G, Ex g21 g22 →
  J x00_3 x01_3 x02_3 x03a_3 x03l_3 x03c_3 x04_3 x05_3 x06_3 x07a_3 x07l_3 x07c_3 x08a_3 x08l_3 x08c_3 x09_3 x10_3 x11_3 x12a_3 x12l_3 x12c_3 x13_3 x14_3 g22)))))
  (∀ g26 : G, Ex g2 g26 →
  ∀ g27 : G, Ex g26 g27 →
  R (.tuple ⟨[(.slice outa outl outc), (.agg ⟨[(.int .i64 s0_1), (.int .i64 s1_1), (.slice s2a_1 s2l_1 s2c_1), (.int .i64 s3_1), (.int .i64 s4_1)]⟩)]⟩) g27)
theorem F54_eq (la : Option Addr) (ll : Nat) (lc : Nat) (enva : Option Addr) (envl : Nat) (envc : Nat) (s0 : Int) (s1 : Int) (s2a : Option Addr) (s2l : Nat) (s2c : Nat) (s3 : Int) (s4 : Int) (g : G) (R : Value → G → Prop) : fnG cfg54 39 [.tmp 6, .cell 7 65] c54 an54 [(.slice la ll lc), (.slice enva envl envc), (.agg ⟨[(.int .i64 s0), (.int .i64 s1), (.slice s2a s2l s2c), (.int .i64 s3), (.int .i64 s4)]⟩)] g nobody R = F54 la ll lc enva envl envc s0 s1 s2a s2l s2c s3 s4 g R := by kernel_rfl
theorem call54 (la : Option Addr) (ll : Nat) (lc : Nat) (enva : Option Addr) (envl : Nat) (envc : Nat) (s0 : Int) (s1 : Int) (s2a : Option Addr) (s2l : Nat) (s2c : Nat) (s3 : Int) (s4 : Int) (g : G) (R : Value → G → Prop) (hF : F54 la ll lc enva envl envc s0 s1 s2a s2l s2c s3 s4 g R) : CallsG Tryd.prog 54 #[(.slice la ll lc), (.slice enva envl envc), (.agg ⟨[(.int .i64 s0), (.int .i64 s1), (.slice s2a s2l s2c), (.int .i64 s3), (.int .i64 s4)]⟩)] g nobody R :=
  fn_soundG (c := cfg54) TTok FNSok mixed Tryd.func54 (show Tryd.f54.body = some c54 by kernel_rfl) (show Tryd.f54.ntmps = 39 by kernel_rfl) (show Tryd.f54.results.toList = [.tmp 6, .cell 7 65] by kernel_rfl) rfl ((F54_eq la ll lc enva envl envc s0 s1 s2a s2l s2c s3 s4 g R ).mpr hF)

/- 55 pilaster/pilasterref44.prim -/
noncomputable def c55 : Code := match Tryd.f55.body with
  | some c => c
  | none => .skip
noncomputable def cfg55 : Cfg := ⟨Tryd.prog, TT, FNS, [5, 6, 7, 10, 11], [(5, 5), (6, 6), (7, 7), (10, 10), (11, 11), (55, 10), (57, 11), (66, 10), (68, 11), (77, 10), (81, 11), (84, 10), (94, 10), (96, 11), (106, 11), (115, 10), (117, 11), (124, 10), (126, 11), (135, 10), (144, 10), (146, 11), (153, 10), (155, 11), (162, 10), (164, 11), (171, 10), (174, 11), (183, 10), (185, 11), (192, 10), (201, 10), (203, 11), (210, 10), (215, 5), (224, 5), (227, 10), (231, 5)], [], TCH, false, false, none, PNF, false⟩
def an55 : AnnG := (.seq .leaf (.seq .leaf (.join ⟨[(8, .int .i64)], [], []⟩ (.seq .leaf (.cond .leaf .leaf)) (.seq (.seq .leaf (.blk (.loop ⟨[(9, .int .i64)], [(6, 6, 0), (7, 7, 0)], [(6, [(.int .i64), (.int .i64), (.str), (.sl), (.int .i64), (.int .i64), (.str), (.sl), (.sl), (.bool)]), (7, [(.int .i64), (.int .i64), (.sl), (.int .i64), (.int .i64)])]⟩ (.seq (.seq .leaf (.cond .leaf .leaf)) (.seq (.blk (.seq .leaf (.cond (.seq .leaf .leaf) .leaf))) .leaf))))) (.join ⟨[], [(10, 10, 0), (11, 11, 0)], [(10, [(.int .i64), (.int .i64), (.str), (.sl), (.int .i64), (.int .i64), (.str), (.sl), (.sl), (.bool)]), (11, [(.int .i64), (.int .i64), (.str), (.sl), (.int .i64), (.int .i64), (.str), (.sl), (.sl), (.bool)])]⟩ (.treeP false [] 12 (.quiet 0 (.quiet 1 (.quiet 2 (.quiet 3 (.quiet 4 (.quiet 5 (.quiet 6 (.quiet 7 (.quiet 8 (.eff 9 (.eff 10 (.eff 11 .fin .fin) .fin) (.eff 10 (.eff 9 (.eff 11 .fin .fin) .fin) .fin)))))))))))) (.seq (.seq .leaf (.blk (.seq .leaf (.cond (.seq .leaf .leaf) (.seq .leaf (.cond (.seq .leaf .leaf) (.seq .leaf (.cond (.join ⟨[], [(6, 6, 0), (7, 7, 0)], [(6, [(.int .i64), (.int .i64), (.str), (.sl), (.int .i64), (.int .i64), (.str), (.sl), (.sl), (.bool)]), (7, [(.int .i64), (.int .i64), (.sl), (.int .i64), (.int .i64)])]⟩ (.seq (.tree 9 (.quiet 0 (.quiet 1 (.quiet 2 (.quiet 3 (.quiet 4 (.quiet 5 (.quiet 7 (.quiet 8 (.eff 6 .fin .fin)))))))))) (.cond (.seq .leaf .leaf) .leaf)) (.seq .leaf .leaf)) (.join ⟨[(103, .bool)], [], []⟩ (.seq .leaf (.cond .leaf .leaf)) (.cond (.seq (.seq .leaf (.cond (.seq .leaf .leaf) .leaf)) (.seq (.seq .leaf (.cond (.seq (.treeP false [6, 7] 9 (.quiet 0 (.quiet 1 (.quiet 2 (.quiet 3 (.quiet 4 (.quiet 5 (.eff 6 (.quiet 7 (.quiet 8 .fin)) .fin)))))))) .leaf) .leaf)) (.seq (.treeP false [6, 7] 9 (.quiet 0 (.quiet 1 (.quiet 2 (.quiet 3 (.quiet 4 (.quiet 5 (.eff 6 (.quiet 7 (.quiet 8 .fin)) .fin)))))))) .leaf))) (.seq .leaf (.cond (.seq .leaf .leaf) (.seq .leaf (.cond (.seq (.treeP false [6, 7] 8 (.quiet 0 (.quiet 1 (.quiet 2 (.quiet 3 (.quiet 4 (.quiet 6 (.eff 5 (.eff 7 .fin .fin) .fin)))))))) .leaf) (.seq .leaf (.cond (.seq (.treeP false [6, 7] 8 (.quiet 0 (.quiet 1 (.quiet 2 (.quiet 3 (.quiet 4 (.quiet 6 (.eff 5 (.eff 7 .fin .fin) .fin)))))))) .leaf) (.seq .leaf (.cond (.seq (.treeP false [6, 7] 8 (.quiet 0 (.quiet 1 (.quiet 2 (.quiet 3 (.quiet 4 (.quiet 6 (.eff 5 (.eff 7 .fin .fin) .fin)))))))) .leaf) (.seq .leaf (.cond (.seq (.seq .leaf (.cond (.seq .leaf .leaf) .leaf)) (.seq (.treeP false [6, 7] 8 (.quiet 0 (.quiet 1 (.quiet 2 (.quiet 3 (.quiet 4 (.quiet 6 (.eff 5 (.eff 7 .fin .fin) .fin)))))))) .leaf)) (.seq .leaf (.cond (.seq .leaf .leaf) (.seq .leaf (.cond (.seq (.treeP false [6, 7] 8 (.quiet 0 (.quiet 1 (.quiet 2 (.quiet 3 (.quiet 4 (.quiet 6 (.eff 5 (.eff 7 .fin .fin) .fin)))))))) .leaf) (.seq .leaf (.cond (.seq (.treeP false [6, 7] 6 (.quiet 0 (.quiet 1 (.quiet 4 (.eff 2 (.eff 3 (.eff 5 .fin .fin) .fin) .fin))))) .leaf) .leaf)))))))))))))))))))))))))) (.seq (.seq .leaf (.cond (.seq .leaf .leaf) .leaf)) (.join ⟨[], [(5, 5, 0)], [(5, [(.int .i64), (.int .i64), (.sl), (.int .i64), (.int .i64)])]⟩ (.treeP false [5] 7 (.quiet 1 (.quiet 4 (.quiet 5 (.eff 0 (.eff 2 (.eff 3 (.eff 6 .fin .fin) (.eff 6 (.eff 3 .fin .fin) .fin)) (.eff 6 (.eff 2 (.eff 3 .fin .fin) .fin) .fin)) (.eff 2 (.eff 0 (.eff 3 (.eff 6 .fin .fin) (.eff 6 (.eff 3 .fin .fin) .fin)) (.eff 6 (.eff 0 (.eff 3 .fin .fin) .fin) .fin)) (.eff 6 (.eff 0 (.eff 2 (.eff 3 .fin .fin) .fin) (.eff 2 (.eff 0 (.eff 3 .fin .fin) .fin) .fin)) .fin))))))) (.seq (.treeP false [6, 7] 3 (.quiet 1 (.eff 0 (.eff 2 .fin .fin) .fin))) .leaf)))))))))
def F55 (n : Int) (la : Option Addr) (ll : Nat) (lc : Nat) (s0 : Int) (s1 : Int) (s2a : Option Addr) (s2l : Nat) (s2c : Nat) (s3 : Int) (s4 : Int) (g : G) (R : Value → G → Prop) : Prop :=
  ∀ J : Int → G → Prop,
  (∀ kind : Int, ∀ g1 : G, (∃ Inv : Nat → Int → Int → Int → ByteArray → Option Addr → Nat → Nat → Int → Int → ByteArray → Option Addr → Nat → Nat → Option Addr → Nat → Nat → Bool → Int → Int → Option Addr → Nat → Nat → Int → Int → G → Prop, ((∃ m0 : Nat, Inv m0 (0 : Int) (0 : Int) (0 : Int) (bs []) none 0 0 (0 : Int) (0 : Int) (bs []) none 0 0 none 0 0 false (0 : Int) (0 : Int) none 0 0 (0 : Int) (0 : Int) g1)) ∧
  ∀ m : Nat, ∀ i : Int, ∀ x0 : Int, ∀ x1 : Int, ∀ x2 : ByteArray, ∀ x3a : Option Addr, ∀ x3l : Nat, ∀ x3c : Nat, ∀ x4 : Int, ∀ x5 : Int, ∀ x6 : ByteArray, ∀ x7a : Option Addr, ∀ x7l : Nat, ∀ x7c : Nat, ∀ x8a : Option Addr, ∀ x8l : Nat, ∀ x8c : Nat, ∀ x9 : Bool, ∀ x0_1 : Int, ∀ x1_1 : Int, ∀ x2a : Option Addr, ∀ x2l : Nat, ∀ x2c : Nat, ∀ x3 : Int, ∀ x4_1 : Int, ∀ g2 : G, Le g1 g2 → Inv m i x0 x1 x2 x3a x3l x3c x4 x5 x6 x7a x7l x7c x8a x8l x8c x9 x0_1 x1_1 x2a x2l x2c x3 x4_1 g2 →
  ifB (ltI i ((ll : Nat) : Int))
  ((0 ≤ i ∧ i < ((ll : Nat) : Int)) ∧ derefP la fun ad => ∃ x : Int, g2.w.cell? (Addr.add ad (Int.toNat i * 10)) = some (.int .i64 x) ∧ ifB (!eqI x kind)
  ((CallsP Tryd.prog 52 #[(.agg ⟨[(.int .i64 s0), (.int .i64 s1), (.slice s2a s2l s2c), (.int .i64 s3), (.int .i64 s4)]⟩), (.int .i64 (4 : Int)), (.int .i64 (0 : Int))] g2 fun v g3 =>
  ∃ x00 : Int, ∃ x01 : Int, ∃ x02 : ByteArray, ∃ x03a : Option Addr, ∃ x03l : Nat, ∃ x03c : Nat, ∃ x04 : Int, ∃ x05 : Int, ∃ x06 : ByteArray, ∃ x07a : Option Addr, ∃ x07l : Nat, ∃ x07c : Nat, ∃ x08a : Option Addr, ∃ x08l : Nat, ∃ x08c : Nat, ∃ x09 : Bool, ∃ x10 : Int, ∃ x11 : Int, ∃ x12a : Option Addr, ∃ x12l : Nat, ∃ x12c : Nat, ∃ x13 : Int, ∃ x14 : Int, v = (.tuple ⟨[(.agg ⟨[(.int .i64 x00), (.int .i64 x01), (.string x02), (.slice x03a x03l x03c), (.int .i64 x04), (.int .i64 x05), (.string x06), (.slice x07a x07l x07c), (.slice x08a x08l x08c), (.bool x09)]⟩), (.agg ⟨[(.int .i64 x10), (.int .i64 x11), (.slice x12a x12l x12c), (.int .i64 x13), (.int .i64 x14)]⟩)]⟩) ∧ ∀ g4 : G, Ex g3 g4 →
  R (.tuple ⟨[(.agg ⟨[(.int .i64 x00), (.int .i64 x01), (.string x02), (.slice x03a x03l x03c), (.int .i64 x04), (.int .i64 x05), (.string x06), (.slice x07a x07l x07c), (.slice x08a x08l x08c), (.bool x09)]⟩), (.agg ⟨[(.int .i64 x10), (.int .i64 x11), (.slice x12a x12l x12c), (.int .i64 x13), (.int .i64 x14)]⟩)]⟩) g4))
  (InI64 (i + (1 : Int)) ∧ (∃ m_1 : Nat, m_1 < m ∧ Inv m_1 (i + (1 : Int)) x0 x1 x2 x3a x3l x3c x4 x5 x6 x7a x7l x7c x8a x8l x8c x9 x0_1 x1_1 x2a x2l x2c x3 x4_1 g2)))
  (∀ J_1 : Int → Int → ByteArray → Option Addr → Nat → Nat → Int → Int → ByteArray → Option Addr → Nat → Nat → Option Addr → Nat → Nat → Bool → Int → Int → ByteArray → Option Addr → Nat → Nat → Int → Int → ByteArray → Option Addr → Nat → Nat → Option Addr → Nat → Nat → Bool → G → Prop,
  (∀ a0 : Int, ∀ a1 : Int, ∀ a2 : ByteArray, ∀ a3a : Option Addr, ∀ a3l : Nat, ∀ a3c : Nat, ∀ a4 : Int, ∀ a5 : Int, ∀ a6 : ByteArray, ∀ a7a : Option Addr, ∀ a7l : Nat, ∀ a7c : Nat, ∀ a8a : Option Addr, ∀ a8l : Nat, ∀ a8c : Nat, ∀ a9 : Bool, ∀ b0 : Int, ∀ b1 : Int, ∀ b2 : ByteArray, ∀ b3a : Option Addr, ∀ b3l : Nat, ∀ b3c : Nat, ∀ b4 : Int, ∀ b5 : Int, ∀ b6 : ByteArray, ∀ b7a : Option Addr, ∀ b7l : Nat, ∀ b7c : Nat, ∀ b8a : Option Addr, ∀ b8l : Nat, ∀ b8c : Nat, ∀ b9 : Bool, ∀ g5 : G, (ifB (eqI n (1 : Int))
  (InI64 (a1 + b1) ∧ (CallsP Tryd.prog 69 #[(.int .i64 (a1 + b1)), (.agg ⟨[(.int .i64 s0), (.int .i64 s1), (.slice s2a s2l s2c), (.int .i64 s3), (.int .i64 s4)]⟩)] g5 fun v g6 =>
  ∃ x00_1 : Int, ∃ x01_1 : Int, ∃ x02_1 : ByteArray, ∃ x03a_1 : Option Addr, ∃ x03l_1 : Nat, ∃ x03c_1 : Nat, ∃ x04_1 : Int, ∃ x05_1 : Int, ∃ x06_1 : ByteArray, ∃ x07a_1 : Option Addr, ∃ x07l_1 : Nat, ∃ x07c_1 : Nat, ∃ x08a_1 : Option Addr, ∃ x08l_1 : Nat, ∃ x08c_1 : Nat, ∃ x09_1 : Bool, ∃ x10_1 : Int, ∃ x11_1 : Int, ∃ x12a_1 : Option Addr, ∃ x12l_1 : Nat, ∃ x12c_1 : Nat, ∃ x13_1 : Int, ∃ x14_1 : Int, v = (.tuple ⟨[(.agg ⟨[(.int .i64 x00_1), (.int .i64 x01_1), (.string x02_1), (.slice x03a_1 x03l_1 x03c_1), (.int .i64 x04_1), (.int .i64 x05_1), (.string x06_1), (.slice x07a_1 x07l_1 x07c_1), (.slice x08a_1 x08l_1 x08c_1), (.bool x09_1)]⟩), (.agg ⟨[(.int .i64 x10_1), (.int .i64 x11_1), (.slice x12a_1 x12l_1 x12c_1), (.int .i64 x13_1), (.int .i64 x14_1)]⟩)]⟩) ∧ ∀ g7 : G, Ex g6 g7 →
  R (.tuple ⟨[(.agg ⟨[(.int .i64 x00_1), (.int .i64 x01_1), (.string x02_1), (.slice x03a_1 x03l_1 x03c_1), (.int .i64 x04_1), (.int .i64 x05_1), (.string x06_1), (.slice x07a_1 x07l_1 x07c_1), (.slice x08a_1 x08l_1 x08c_1), (.bool x09_1)]⟩), (.agg ⟨[(.int .i64 x10_1), (.int .i64 x11_1), (.slice x12a_1 x12l_1 x12c_1), (.int .i64 x13_1), (.int .i64 x14_1)]⟩)]⟩) g7))
  (ifB (eqI n (2 : Int))
  (InI64 (a1 - b1) ∧ (CallsP Tryd.prog 69 #[(.int .i64 (a1 - b1)), (.agg ⟨[(.int .i64 s0), (.int .i64 s1), (.slice s2a s2l s2c), (.int .i64 s3), (.int .i64 s4)]⟩)] g5 fun v g8 =>
  ∃ x00_2 : Int, ∃ x01_2 : Int, ∃ x02_2 : ByteArray, ∃ x03a_2 : Option Addr, ∃ x03l_2 : Nat, ∃ x03c_2 : Nat, ∃ x04_2 : Int, ∃ x05_2 : Int, ∃ x06_2 : ByteArray, ∃ x07a_2 : Option Addr, ∃ x07l_2 : Nat, ∃ x07c_2 : Nat, ∃ x08a_2 : Option Addr, ∃ x08l_2 : Nat, ∃ x08c_2 : Nat, ∃ x09_2 : Bool, ∃ x10_2 : Int, ∃ x11_2 : Int, ∃ x12a_2 : Option Addr, ∃ x12l_2 : Nat, ∃ x12c_2 : Nat, ∃ x13_2 : Int, ∃ x14_2 : Int, v = (.tuple ⟨[(.agg ⟨[(.int .i64 x00_2), (.int .i64 x01_2), (.string x02_2), (.slice x03a_2 x03l_2 x03c_2), (.int .i64 x04_2), (.int .i64 x05_2), (.string x06_2), (.slice x07a_2 x07l_2 x07c_2), (.slice x08a_2 x08l_2 x08c_2), (.bool x09_2)]⟩), (.agg ⟨[(.int .i64 x10_2), (.int .i64 x11_2), (.slice x12a_2 x12l_2 x12c_2), (.int .i64 x13_2), (.int .i64 x14_2)]⟩)]⟩) ∧ ∀ g9 : G, Ex g8 g9 →
  R (.tuple ⟨[(.agg ⟨[(.int .i64 x00_2), (.int .i64 x01_2), (.string x02_2), (.slice x03a_2 x03l_2 x03c_2), (.int .i64 x04_2), (.int .i64 x05_2), (.string x06_2), (.slice x07a_2 x07l_2 x07c_2), (.slice x08a_2 x08l_2 x08c_2), (.bool x09_2)]⟩), (.agg ⟨[(.int .i64 x10_2), (.int .i64 x11_2), (.slice x12a_2 x12l_2 x12c_2), (.int .i64 x13_2), (.int .i64 x14_2)]⟩)]⟩) g9))
  (ifB (eqI n (3 : Int))
  (∀ J_2 : Int → Int → ByteArray → Option Addr → Nat → Nat → Int → Int → ByteArray → Option Addr → Nat → Nat → Option Addr → Nat → Nat → Bool → Int → Int → Option Addr → Nat → Nat → Int → Int → G → Prop,
  (∀ x0_2 : Int, ∀ x1_2 : Int, ∀ x2_1 : ByteArray, ∀ x3a_1 : Option Addr, ∀ x3l_1 : Nat, ∀ x3c_1 : Nat, ∀ x4_2 : Int, ∀ x5_1 : Int, ∀ x6_1 : ByteArray, ∀ x7a_1 : Option Addr, ∀ x7l_1 : Nat, ∀ x7c_1 : Nat, ∀ x8a_1 : Option Addr, ∀ x8l_1 : Nat, ∀ x8c_1 : Nat, ∀ x9_1 : Bool, ∀ x0_3 : Int, ∀ x1_3 : Int, ∀ x2a_1 : Option Addr, ∀ x2l_1 : Nat, ∀ x2c_1 : Nat, ∀ x3_1 : Int, ∀ x4_3 : Int, ∀ g10 : G, (InI64 (a1 * b1) ∧ (CallsP Tryd.prog 69 #[(.int .i64 (a1 * b1)), (.agg ⟨[(.int .i64 s0), (.int .i64 s1), (.slice s2a s2l s2c), (.int .i64 s3), (.int .i64 s4)]⟩)] g10 fun v g11 =>
  ∃ x00_3 : Int, ∃ x01_3 : Int, ∃ x02_3 : ByteArray, ∃ x03a_3 : Option Addr, ∃ x03l_3 : Nat, ∃ x03c_3 : Nat, ∃ x04_3 : Int, ∃ x05_3 : Int, ∃ x06_3 : ByteArray, ∃ x07a_3 : Option Addr, ∃ x07l_3 : Nat, ∃ x07c_3 : Nat, ∃ x08a_3 : Option Addr, ∃ x08l_3 : Nat, ∃ x08c_3 : Nat, ∃ x09_3 : Bool, ∃ x10_3 : Int, ∃ x11_3 : Int, ∃ x12a_3 : Option Addr, ∃ x12l_3 : Nat, ∃ x12c_3 : Nat, ∃ x13_3 : Int, ∃ x14_3 : Int, v = (.tuple ⟨[(.agg ⟨[(.int .i64 x00_3), (.int .i64 x01_3), (.string x02_3), (.slice x03a_3 x03l_3 x03c_3), (.int .i64 x04_3), (.int .i64 x05_3), (.string x06_3), (.slice x07a_3 x07l_3 x07c_3), (.slice x08a_3 x08l_3 x08c_3), (.bool x09_3)]⟩), (.agg ⟨[(.int .i64 x10_3), (.int .i64 x11_3), (.slice x12a_3 x12l_3 x12c_3), (.int .i64 x13_3), (.int .i64 x14_3)]⟩)]⟩) ∧ ∀ g12 : G, Ex g11 g12 →
  R (.tuple ⟨[(.agg ⟨[(.int .i64 x00_3), (.int .i64 x01_3), (.string x02_3), (.slice x03a_3 x03l_3 x03c_3), (.int .i64 x04_3), (.int .i64 x05_3), (.string x06_3), (.slice x07a_3 x07l_3 x07c_3), (.slice x08a_3 x08l_3 x08c_3), (.bool x09_3)]⟩), (.agg ⟨[(.int .i64 x10_3), (.int .i64 x11_3), (.slice x12a_3 x12l_3 x12c_3), (.int .i64 x13_3), (.int .i64 x14_3)]⟩)]⟩) g12)) → J_2 x0_2 x1_2 x2_1 x3a_1 x3l_1 x3c_1 x4_2 x5_1 x6_1 x7a_1 x7l_1 x7c_1 x8a_1 x8l_1 x8c_1 x9_1 x0_3 x1_3 x2a_1 x2l_1 x2c_1 x3_1 x4_3 g10) →
  ∀ g13 : G, Ex g5 g13 →
  ifB (!eqI a1 (0 : Int))
  ((CallsP Tryd.prog 70 #[(.int .i64 b1)] g13 fun v g14 =>
  ∃ x_1 : Int, v = (.int .i64 x_1) ∧ (CallsP Tryd.prog 70 #[(.int .i64 a1)] g14 fun v g15 =>
  ∃ x_2 : Int, v = (.int .i64 x_2) ∧ x_2 ≠ 0 ∧ InI64 (Int.tdiv (4503599627370496 : Int) x_2) ∧ ifB (ltI (Int.tdiv (4503599627370496 : Int) x_2) x_1)
  ((CallsP Tryd.prog 52 #[(.agg ⟨[(.int .i64 s0), (.int .i64 s1), (.slice s2a s2l s2c), (.int .i64 s3), (.int .i64 s4)]⟩), (.int .i64 (2 : Int)), (.int .i64 (2 : Int))] g15 fun v g16 =>
  ∃ x00_4 : Int, ∃ x01_4 : Int, ∃ x02_4 : ByteArray, ∃ x03a_4 : Option Addr, ∃ x03l_4 : Nat, ∃ x03c_4 : Nat, ∃ x04_4 : Int, ∃ x05_4 : Int, ∃ x06_4 : ByteArray, ∃ x07a_4 : Option Addr, ∃ x07l_4 : Nat, ∃ x07c_4 : Nat, ∃ x08a_4 : Option Addr, ∃ x08l_4 : Nat, ∃ x08c_4 : Nat, ∃ x09_4 : Bool, ∃ x10_4 : Int, ∃ x11_4 : Int, ∃ x12a_4 : Option Addr, ∃ x12l_4 : Nat, ∃ x12c_4 : Nat, ∃ x13_4 : Int, ∃ x14_4 : Int, v = (.tuple ⟨[(.agg ⟨[(.int .i64 x00_4), (.int .i64 x01_4), (.string x02_4), (.slice x03a_4 x03l_4 x03c_4), (.int .i64 x04_4), (.int .i64 x05_4), (.string x06_4), (.slice x07a_4 x07l_4 x07c_4), (.slice x08a_4 x08l_4 x08c_4), (.bool x09_4)]⟩), (.agg ⟨[(.int .i64 x10_4), (.int .i64 x11_4), (.slice x12a_4 x12l_4 x12c_4), (.int .i64 x13_4), (.int .i64 x14_4)]⟩)]⟩) ∧ ∀ g17 : G, Ex g16 g17 →
  R (.tuple ⟨[(.agg ⟨[(.int .i64 x00_4), (.int .i64 x01_4), (.string x02_4), (.slice x03a_4 x03l_4 x03c_4), (.int .i64 x04_4), (.int .i64 x05_4), (.string x06_4), (.slice x07a_4 x07l_4 x07c_4), (.slice x08a_4 x08l_4 x08c_4), (.bool x09_4)]⟩), (.agg ⟨[(.int .i64 x10_4), (.int .i64 x11_4), (.slice x12a_4 x12l_4 x12c_4), (.int .i64 x13_4), (.int .i64 x14_4)]⟩)]⟩) g17))
  (J_2 x0 x1 x2 x3a x3l x3c x4 x5 x6 x7a x7l x7c x8a x8l x8c x9 x0_1 x1_1 x2a x2l x2c x3 x4_1 g15))))
  (J_2 x0 x1 x2 x3a x3l x3c x4 x5 x6 x7a x7l x7c x8a x8l x8c x9 x0_1 x1_1 x2a x2l x2c x3 x4_1 g13))
  (∀ J_3 : Bool → G → Prop,
  (∀ v_1 : Bool, ∀ g18 : G, (ifB v_1
  (ifB (eqI b1 (0 : Int))
  ((CallsP Tryd.prog 52 #[(.agg ⟨[(.int .i64 s0), (.int .i64 s1), (.slice s2a s2l s2c), (.int .i64 s3), (.int .i64 s4)]⟩), (.int .i64 (2 : Int)), (.int .i64 (3 : Int))] g18 fun v g19 =>
  ∃ x00_5 : Int, ∃ x01_5 : Int, ∃ x02_5 : ByteArray, ∃ x03a_5 : Option Addr, ∃ x03l_5 : Nat, ∃ x03c_5 : Nat, ∃ x04_5 : Int, ∃ x05_5 : Int, ∃ x06_5 : ByteArray, ∃ x07a_5 : Option Addr, ∃ x07l_5 : Nat, ∃ x07c_5 : Nat, ∃ x08a_5 : Option Addr, ∃ x08l_5 : Nat, ∃ x08c_5 : Nat, ∃ x09_5 : Bool, ∃ x10_5 : Int, ∃ x11_5 : Int, ∃ x12a_5 : Option Addr, ∃ x12l_5 : Nat, ∃ x12c_5 : Nat, ∃ x13_5 : Int, ∃ x14_5 : Int, v = (.tuple ⟨[(.agg ⟨[(.int .i64 x00_5), (.int .i64 x01_5), (.string x02_5), (.slice x03a_5 x03l_5 x03c_5), (.int .i64 x04_5), (.int .i64 x05_5), (.string x06_5), (.slice x07a_5 x07l_5 x07c_5), (.slice x08a_5 x08l_5 x08c_5), (.bool x09_5)]⟩), (.agg ⟨[(.int .i64 x10_5), (.int .i64 x11_5), (.slice x12a_5 x12l_5 x12c_5), (.int .i64 x13_5), (.int .i64 x14_5)]⟩)]⟩) ∧ ∀ g20 : G, Ex g19 g20 →
  R (.tuple ⟨[(.agg ⟨[(.int .i64 x00_5), (.int .i64 x01_5), (.string x02_5), (.slice x03a_5 x03l_5 x03c_5), (.int .i64 x04_5), (.int .i64 x05_5), (.string x06_5), (.slice x07a_5 x07l_5 x07c_5), (.slice x08a_5 x08l_5 x08c_5), (.bool x09_5)]⟩), (.agg ⟨[(.int .i64 x10_5), (.int .i64 x11_5), (.slice x12a_5 x12l_5 x12c_5), (.int .i64 x13_5), (.int .i64 x14_5)]⟩)]⟩) g20))
  (ifB (eqI n (4 : Int))
  (∀ g21 : G, Ex g18 g21 →
  b1 ≠ 0 ∧ InI64 (Int.tdiv a1 b1) ∧ ∀ g22 : G, Ex g21 g22 →
  (CallsP Tryd.prog 69 #[(.int .i64 (Int.tdiv a1 b1)), (.agg ⟨[(.int .i64 s0), (.int .i64 s1), (.slice s2a s2l s2c), (.int .i64 s3), (.int .i64 s4)]⟩)] g22 fun v g23 =>
  ∃ x00_6 : Int, ∃ x01_6 : Int, ∃ x02_6 : ByteArray, ∃ x03a_6 : Option Addr, ∃ x03l_6 : Nat, ∃ x03c_6 : Nat, ∃ x04_6 : Int, ∃ x05_6 : Int, ∃ x06_6 : ByteArray, ∃ x07a_6 : Option Addr, ∃ x07l_6 : Nat, ∃ x07c_6 : Nat, ∃ x08a_6 : Option Addr, ∃ x08l_6 : Nat, ∃ x08c_6 : Nat, ∃ x09_6 : Bool, ∃ x10_6 : Int, ∃ x11_6 : Int, ∃ x12a_6 : Option Addr, ∃ x12l_6 : Nat, ∃ x12c_6 : Nat, ∃ x13_6 : Int, ∃ x14_6 : Int, v = (.tuple ⟨[(.agg ⟨[(.int .i64 x00_6), (.int .i64 x01_6), (.string x02_6), (.slice x03a_6 x03l_6 x03c_6), (.int .i64 x04_6), (.int .i64 x05_6), (.string x06_6), (.slice x07a_6 x07l_6 x07c_6), (.slice x08a_6 x08l_6 x08c_6), (.bool x09_6)]⟩), (.agg ⟨[(.int .i64 x10_6), (.int .i64 x11_6), (.slice x12a_6 x12l_6 x12c_6), (.int .i64 x13_6), (.int .i64 x14_6)]⟩)]⟩) ∧ ∀ g24 : G, Ex g23 g24 →
  R (.tuple ⟨[(.agg ⟨[(.int .i64 x00_6), (.int .i64 x01_6), (.string x02_6), (.slice x03a_6 x03l_6 x03c_6), (.int .i64 x04_6), (.int .i64 x05_6), (.string x06_6), (.slice x07a_6 x07l_6 x07c_6), (.slice x08a_6 x08l_6 x08c_6), (.bool x09_6)]⟩), (.agg ⟨[(.int .i64 x10_6), (.int .i64 x11_6), (.slice x12a_6 x12l_6 x12c_6), (.int .i64 x13_6), (.int .i64 x14_6)]⟩)]⟩) g24))
  (∀ g25 : G, Ex g18 g25 →
  b1 ≠ 0 ∧ ∀ g26 : G, Ex g25 g26 →
  (CallsP Tryd.prog 69 #[(.int .i64 (Int.tmod a1 b1)), (.agg ⟨[(.int .i64 s0), (.int .i64 s1), (.slice s2a s2l s2c), (.int .i64 s3), (.int .i64 s4)]⟩)] g26 fun v g27 =>
  ∃ x00_7 : Int, ∃ x01_7 : Int, ∃ x02_7 : ByteArray, ∃ x03a_7 : Option Addr, ∃ x03l_7 : Nat, ∃ x03c_7 : Nat, ∃ x04_7 : Int, ∃ x05_7 : Int, ∃ x06_7 : ByteArray, ∃ x07a_7 : Option Addr, ∃ x07l_7 : Nat, ∃ x07c_7 : Nat, ∃ x08a_7 : Option Addr, ∃ x08l_7 : Nat, ∃ x08c_7 : Nat, ∃ x09_7 : Bool, ∃ x10_7 : Int, ∃ x11_7 : Int, ∃ x12a_7 : Option Addr, ∃ x12l_7 : Nat, ∃ x12c_7 : Nat, ∃ x13_7 : Int, ∃ x14_7 : Int, v = (.tuple ⟨[(.agg ⟨[(.int .i64 x00_7), (.int .i64 x01_7), (.string x02_7), (.slice x03a_7 x03l_7 x03c_7), (.int .i64 x04_7), (.int .i64 x05_7), (.string x06_7), (.slice x07a_7 x07l_7 x07c_7), (.slice x08a_7 x08l_7 x08c_7), (.bool x09_7)]⟩), (.agg ⟨[(.int .i64 x10_7), (.int .i64 x11_7), (.slice x12a_7 x12l_7 x12c_7), (.int .i64 x13_7), (.int .i64 x14_7)]⟩)]⟩) ∧ ∀ g28 : G, Ex g27 g28 →
  R (.tuple ⟨[(.agg ⟨[(.int .i64 x00_7), (.int .i64 x01_7), (.string x02_7), (.slice x03a_7 x03l_7 x03c_7), (.int .i64 x04_7), (.int .i64 x05_7), (.string x06_7), (.slice x07a_7 x07l_7 x07c_7), (.slice x08a_7 x08l_7 x08c_7), (.bool x09_7)]⟩), (.agg ⟨[(.int .i64 x10_7), (.int .i64 x11_7), (.slice x12a_7 x12l_7 x12c_7), (.int .i64 x13_7), (.int .i64 x14_7)]⟩)]⟩) g28))))
  (ifB (eqI n (6 : Int))
  (InI64 ((0 : Int) - a1) ∧ (CallsP Tryd.prog 69 #[(.int .i64 ((0 : Int) - a1)), (.agg ⟨[(.int .i64 s0), (.int .i64 s1), (.slice s2a s2l s2c), (.int .i64 s3), (.int .i64 s4)]⟩)] g18 fun v g29 =>
  ∃ x00_8 : Int, ∃ x01_8 : Int, ∃ x02_8 : ByteArray, ∃ x03a_8 : Option Addr, ∃ x03l_8 : Nat, ∃ x03c_8 : Nat, ∃ x04_8 : Int, ∃ x05_8 : Int, ∃ x06_8 : ByteArray, ∃ x07a_8 : Option Addr, ∃ x07l_8 : Nat, ∃ x07c_8 : Nat, ∃ x08a_8 : Option Addr, ∃ x08l_8 : Nat, ∃ x08c_8 : Nat, ∃ x09_8 : Bool, ∃ x10_8 : Int, ∃ x11_8 : Int, ∃ x12a_8 : Option Addr, ∃ x12l_8 : Nat, ∃ x12c_8 : Nat, ∃ x13_8 : Int, ∃ x14_8 : Int, v = (.tuple ⟨[(.agg ⟨[(.int .i64 x00_8), (.int .i64 x01_8), (.string x02_8), (.slice x03a_8 x03l_8 x03c_8), (.int .i64 x04_8), (.int .i64 x05_8), (.string x06_8), (.slice x07a_8 x07l_8 x07c_8), (.slice x08a_8 x08l_8 x08c_8), (.bool x09_8)]⟩), (.agg ⟨[(.int .i64 x10_8), (.int .i64 x11_8), (.slice x12a_8 x12l_8 x12c_8), (.int .i64 x13_8), (.int .i64 x14_8)]⟩)]⟩) ∧ ∀ g30 : G, Ex g29 g30 →
  R (.tuple ⟨[(.agg ⟨[(.int .i64 x00_8), (.int .i64 x01_8), (.string x02_8), (.slice x03a_8 x03l_8 x03c_8), (.int .i64 x04_8), (.int .i64 x05_8), (.string x06_8), (.slice x07a_8 x07l_8 x07c_8), (.slice x08a_8 x08l_8 x08c_8), (.bool x09_8)]⟩), (.agg ⟨[(.int .i64 x10_8), (.int .i64 x11_8), (.slice x12a_8 x12l_8 x12c_8), (.int .i64 x13_8), (.int .i64 x14_8)]⟩)]⟩) g30))
  (ifB (eqI n (7 : Int))
  (∀ g31 : G, Ex g18 g31 →
  ∀ g32 : G, Ex g31 g32 →
  (CallsP Tryd.prog 71 #[(.bool (ltI a1 b1))] g32 fun v g33 =>
  ∃ x0_4 : Int, ∃ x1_4 : Int, ∃ x2_2 : ByteArray, ∃ x3a_2 : Option Addr, ∃ x3l_2 : Nat, ∃ x3c_2 : Nat, ∃ x4_4 : Int, ∃ x5_2 : Int, ∃ x6_2 : ByteArray, ∃ x7a_2 : Option Addr, ∃ x7l_2 : Nat, ∃ x7c_2 : Nat, ∃ x8a_2 : Option Addr, ∃ x8l_2 : Nat, ∃ x8c_2 : Nat, ∃ x9_2 : Bool, v = (.agg ⟨[(.int .i64 x0_4), (.int .i64 x1_4), (.string x2_2), (.slice x3a_2 x3l_2 x3c_2), (.int .i64 x4_4), (.int .i64 x5_2), (.string x6_2), (.slice x7a_2 x7l_2 x7c_2), (.slice x8a_2 x8l_2 x8c_2), (.bool x9_2)]⟩) ∧ ∀ g34 : G, Ex g33 g34 →
  R (.tuple ⟨[(.agg ⟨[(.int .i64 x0_4), (.int .i64 x1_4), (.string x2_2), (.slice x3a_2 x3l_2 x3c_2), (.int .i64 x4_4), (.int .i64 x5_2), (.string x6_2), (.slice x7a_2 x7l_2 x7c_2), (.slice x8a_2 x8l_2 x8c_2), (.bool x9_2)]⟩), (.agg ⟨[(.int .i64 s0), (.int .i64 s1), (.slice s2a s2l s2c), (.int .i64 s3), (.int .i64 s4)]⟩)]⟩) g34))
  (ifB (eqI n (8 : Int))
  (∀ g35 : G, Ex g18 g35 →
  ∀ g36 : G, Ex g35 g36 →
  (CallsP Tryd.prog 71 #[(.bool (leI a1 b1))] g36 fun v g37 =>
  ∃ x0_5 : Int, ∃ x1_5 : Int, ∃ x2_3 : ByteArray, ∃ x3a_3 : Option Addr, ∃ x3l_3 : Nat, ∃ x3c_3 : Nat, ∃ x4_5 : Int, ∃ x5_3 : Int, ∃ x6_3 : ByteArray, ∃ x7a_3 : Option Addr, ∃ x7l_3 : Nat, ∃ x7c_3 : Nat, ∃ x8a_3 : Option Addr, ∃ x8l_3 : Nat, ∃ x8c_3 : Nat, ∃ x9_3 : Bool, v = (.agg ⟨[(.int .i64 x0_5), (.int .i64 x1_5), (.string x2_3), (.slice x3a_3 x3l_3 x3c_3), (.int .i64 x4_5), (.int .i64 x5_3), (.string x6_3), (.slice x7a_3 x7l_3 x7c_3), (.slice x8a_3 x8l_3 x8c_3), (.bool x9_3)]⟩) ∧ ∀ g38 : G, Ex g37 g38 →
  R (.tuple ⟨[(.agg ⟨[(.int .i64 x0_5), (.int .i64 x1_5), (.string x2_3), (.slice x3a_3 x3l_3 x3c_3), (.int .i64 x4_5), (.int .i64 x5_3), (.string x6_3), (.slice x7a_3 x7l_3 x7c_3), (.slice x8a_3 x8l_3 x8c_3), (.bool x9_3)]⟩), (.agg ⟨[(.int .i64 s0), (.int .i64 s1), (.slice s2a s2l s2c), (.int .i64 s3), (.int .i64 s4)]⟩)]⟩) g38))
  (ifB (eqI n (9 : Int))
  (∀ g39 : G, Ex g18 g39 →
  ∀ g40 : G, Ex g39 g40 →
  (CallsP Tryd.prog 71 #[(.bool (eqI a1 b1))] g40 fun v g41 =>
  ∃ x0_6 : Int, ∃ x1_6 : Int, ∃ x2_4 : ByteArray, ∃ x3a_4 : Option Addr, ∃ x3l_4 : Nat, ∃ x3c_4 : Nat, ∃ x4_6 : Int, ∃ x5_4 : Int, ∃ x6_4 : ByteArray, ∃ x7a_4 : Option Addr, ∃ x7l_4 : Nat, ∃ x7c_4 : Nat, ∃ x8a_4 : Option Addr, ∃ x8l_4 : Nat, ∃ x8c_4 : Nat, ∃ x9_4 : Bool, v = (.agg ⟨[(.int .i64 x0_6), (.int .i64 x1_6), (.string x2_4), (.slice x3a_4 x3l_4 x3c_4), (.int .i64 x4_6), (.int .i64 x5_4), (.string x6_4), (.slice x7a_4 x7l_4 x7c_4), (.slice x8a_4 x8l_4 x8c_4), (.bool x9_4)]⟩) ∧ ∀ g42 : G, Ex g41 g42 →
  R (.tuple ⟨[(.agg ⟨[(.int .i64 x0_6), (.int .i64 x1_6), (.string x2_4), (.slice x3a_4 x3l_4 x3c_4), (.int .i64 x4_6), (.int .i64 x5_4), (.string x6_4), (.slice x7a_4 x7l_4 x7c_4), (.slice x8a_4 x8l_4 x8c_4), (.bool x9_4)]⟩), (.agg ⟨[(.int .i64 s0), (.int .i64 s1), (.slice s2a s2l s2c), (.int .i64 s3), (.int .i64 s4)]⟩)]⟩) g42))
  (ifB (eqI n (10 : Int))
  (InI64 (((a2.size : Nat) : Int) + ((b2.size : Nat) : Int)) ∧ ifB (ltI (16384 : Int) (((a2.size : Nat) : Int) + ((b2.size : Nat) : Int)))
  ((CallsP Tryd.prog 52 #[(.agg ⟨[(.int .i64 s0), (.int .i64 s1), (.slice s2a s2l s2c), (.int .i64 s3), (.int .i64 s4)]⟩), (.int .i64 (2 : Int)), (.int .i64 (2 : Int))] g18 fun v g43 =>
  ∃ x00_9 : Int, ∃ x01_9 : Int, ∃ x02_9 : ByteArray, ∃ x03a_9 : Option Addr, ∃ x03l_9 : Nat, ∃ x03c_9 : Nat, ∃ x04_9 : Int, ∃ x05_9 : Int, ∃ x06_9 : ByteArray, ∃ x07a_9 : Option Addr, ∃ x07l_9 : Nat, ∃ x07c_9 : Nat, ∃ x08a_9 : Option Addr, ∃ x08l_9 : Nat, ∃ x08c_9 : Nat, ∃ x09_9 : Bool, ∃ x10_9 : Int, ∃ x11_9 : Int, ∃ x12a_9 : Option Addr, ∃ x12l_9 : Nat, ∃ x12c_9 : Nat, ∃ x13_9 : Int, ∃ x14_9 : Int, v = (.tuple ⟨[(.agg ⟨[(.int .i64 x00_9), (.int .i64 x01_9), (.string x02_9), (.slice x03a_9 x03l_9 x03c_9), (.int .i64 x04_9), (.int .i64 x05_9), (.string x06_9), (.slice x07a_9 x07l_9 x07c_9), (.slice x08a_9 x08l_9 x08c_9), (.bool x09_9)]⟩), (.agg ⟨[(.int .i64 x10_9), (.int .i64 x11_9), (.slice x12a_9 x12l_9 x12c_9), (.int .i64 x13_9), (.int .i64 x14_9)]⟩)]⟩) ∧ ∀ g44 : G, Ex g43 g44 →
  R (.tuple ⟨[(.agg ⟨[(.int .i64 x00_9), (.int .i64 x01_9), (.string x02_9), (.slice x03a_9 x03l_9 x03c_9), (.int .i64 x04_9), (.int .i64 x05_9), (.string x06_9), (.slice x07a_9 x07l_9 x07c_9), (.slice x08a_9 x08l_9 x08c_9), (.bool x09_9)]⟩), (.agg ⟨[(.int .i64 x10_9), (.int .i64 x11_9), (.slice x12a_9 x12l_9 x12c_9), (.int .i64 x13_9), (.int .i64 x14_9)]⟩)]⟩) g44))
  (∀ g45 : G, Ex g18 g45 →
  a2.size + b2.size ≤ 9223372036854775807 ∧ ∀ g46 : G, Ex g45 g46 →
  ∀ g47 : G, Ex g46 g47 →
  R (.tuple ⟨[(.agg ⟨[(.int .i64 (2 : Int)), (.int .i64 (0 : Int)), (.string (a2 ++ b2)), (.slice none 0 0), (.int .i64 (0 : Int)), (.int .i64 (0 : Int)), (.string (bs [])), (.slice none 0 0), (.slice none 0 0), (.bool false)]⟩), (.agg ⟨[(.int .i64 s0), (.int .i64 s1), (.slice s2a s2l s2c), (.int .i64 s3), (.int .i64 s4)]⟩)]⟩) g47))
  (ifB (eqI n (11 : Int))
  ((CallsP Tryd.prog 69 #[(.int .i64 ((a2.size : Nat) : Int)), (.agg ⟨[(.int .i64 s0), (.int .i64 s1), (.slice s2a s2l s2c), (.int .i64 s3), (.int .i64 s4)]⟩)] g18 fun v g48 =>
  ∃ x00_10 : Int, ∃ x01_10 : Int, ∃ x02_10 : ByteArray, ∃ x03a_10 : Option Addr, ∃ x03l_10 : Nat, ∃ x03c_10 : Nat, ∃ x04_10 : Int, ∃ x05_10 : Int, ∃ x06_10 : ByteArray, ∃ x07a_10 : Option Addr, ∃ x07l_10 : Nat, ∃ x07c_10 : Nat, ∃ x08a_10 : Option Addr, ∃ x08l_10 : Nat, ∃ x08c_10 : Nat, ∃ x09_10 : Bool, ∃ x10_10 : Int, ∃ x11_10 : Int, ∃ x12a_10 : Option Addr, ∃ x12l_10 : Nat, ∃ x12c_10 : Nat, ∃ x13_10 : Int, ∃ x14_10 : Int, v = (.tuple ⟨[(.agg ⟨[(.int .i64 x00_10), (.int .i64 x01_10), (.string x02_10), (.slice x03a_10 x03l_10 x03c_10), (.int .i64 x04_10), (.int .i64 x05_10), (.string x06_10), (.slice x07a_10 x07l_10 x07c_10), (.slice x08a_10 x08l_10 x08c_10), (.bool x09_10)]⟩), (.agg ⟨[(.int .i64 x10_10), (.int .i64 x11_10), (.slice x12a_10 x12l_10 x12c_10), (.int .i64 x13_10), (.int .i64 x14_10)]⟩)]⟩) ∧ ∀ g49 : G, Ex g48 g49 →
  R (.tuple ⟨[(.agg ⟨[(.int .i64 x00_10), (.int .i64 x01_10), (.string x02_10), (.slice x03a_10 x03l_10 x03c_10), (.int .i64 x04_10), (.int .i64 x05_10), (.string x06_10), (.slice x07a_10 x07l_10 x07c_10), (.slice x08a_10 x08l_10 x08c_10), (.bool x09_10)]⟩), (.agg ⟨[(.int .i64 x10_10), (.int .i64 x11_10), (.slice x12a_10 x12l_10 x12c_10), (.int .i64 x13_10), (.int .i64 x14_10)]⟩)]⟩) g49))
  (ifB (eqI n (12 : Int))
  (∀ g50 : G, Ex g18 g50 →
  ∀ g51 : G, Ex g50 g51 →
  (CallsP Tryd.prog 71 #[(.bool (strEq a2 b2))] g51 fun v g52 =>
  ∃ x0_7 : Int, ∃ x1_7 : Int, ∃ x2_5 : ByteArray, ∃ x3a_5 : Option Addr, ∃ x3l_5 : Nat, ∃ x3c_5 : Nat, ∃ x4_7 : Int, ∃ x5_5 : Int, ∃ x6_5 : ByteArray, ∃ x7a_5 : Option Addr, ∃ x7l_5 : Nat, ∃ x7c_5 : Nat, ∃ x8a_5 : Option Addr, ∃ x8l_5 : Nat, ∃ x8c_5 : Nat, ∃ x9_5 : Bool, v = (.agg ⟨[(.int .i64 x0_7), (.int .i64 x1_7), (.string x2_5), (.slice x3a_5 x3l_5 x3c_5), (.int .i64 x4_7), (.int .i64 x5_5), (.string x6_5), (.slice x7a_5 x7l_5 x7c_5), (.slice x8a_5 x8l_5 x8c_5), (.bool x9_5)]⟩) ∧ ∀ g53 : G, Ex g52 g53 →
  R (.tuple ⟨[(.agg ⟨[(.int .i64 x0_7), (.int .i64 x1_7), (.string x2_5), (.slice x3a_5 x3l_5 x3c_5), (.int .i64 x4_7), (.int .i64 x5_5), (.string x6_5), (.slice x7a_5 x7l_5 x7c_5), (.slice x8a_5 x8l_5 x8c_5), (.bool x9_5)]⟩), (.agg ⟨[(.int .i64 s0), (.int .i64 s1), (.slice s2a s2l s2c), (.int .i64 s3), (.int .i64 s4)]⟩)]⟩) g53))
  (ifB (eqI n (13 : Int))
  (∀ g54 : G, Ex g18 g54 →
  ∀ g55 : G, Ex g54 g55 →
  (CallsP Tryd.prog 72 #[(.int .i64 a1)] g55 fun v g56 =>
  ∃ x_3 : ByteArray, v = (.string x_3) ∧ ∀ g57 : G, Ex g56 g57 →
  ∀ g58 : G, Ex g57 g58 →
  R (.tuple ⟨[(.agg ⟨[(.int .i64 (2 : Int)), (.int .i64 (0 : Int)), (.string x_3), (.slice none 0 0), (.int .i64 (0 : Int)), (.int .i64 (0 : Int)), (.string (bs [])), (.slice none 0 0), (.slice none 0 0), (.bool false)]⟩), (.agg ⟨[(.int .i64 s0), (.int .i64 s1), (.slice s2a s2l s2c), (.int .i64 s3), (.int .i64 s4)]⟩)]⟩) g58))
  (ifB (leI (1000 : Int) ((s2l : Nat) : Int))
  ((CallsP Tryd.prog 52 #[(.agg ⟨[(.int .i64 s0), (.int .i64 s1), (.slice s2a s2l s2c), (.int .i64 s3), (.int .i64 s4)]⟩), (.int .i64 (2 : Int)), (.int .i64 (2 : Int))] g18 fun v g59 =>
  ∃ x00_11 : Int, ∃ x01_11 : Int, ∃ x02_11 : ByteArray, ∃ x03a_11 : Option Addr, ∃ x03l_11 : Nat, ∃ x03c_11 : Nat, ∃ x04_11 : Int, ∃ x05_11 : Int, ∃ x06_11 : ByteArray, ∃ x07a_11 : Option Addr, ∃ x07l_11 : Nat, ∃ x07c_11 : Nat, ∃ x08a_11 : Option Addr, ∃ x08l_11 : Nat, ∃ x08c_11 : Nat, ∃ x09_11 : Bool, ∃ x10_11 : Int, ∃ x11_11 : Int, ∃ x12a_11 : Option Addr, ∃ x12l_11 : Nat, ∃ x12c_11 : Nat, ∃ x13_11 : Int, ∃ x14_11 : Int, v = (.tuple ⟨[(.agg ⟨[(.int .i64 x00_11), (.int .i64 x01_11), (.string x02_11), (.slice x03a_11 x03l_11 x03c_11), (.int .i64 x04_11), (.int .i64 x05_11), (.string x06_11), (.slice x07a_11 x07l_11 x07c_11), (.slice x08a_11 x08l_11 x08c_11), (.bool x09_11)]⟩), (.agg ⟨[(.int .i64 x10_11), (.int .i64 x11_11), (.slice x12a_11 x12l_11 x12c_11), (.int .i64 x13_11), (.int .i64 x14_11)]⟩)]⟩) ∧ ∀ g60 : G, Ex g59 g60 →
  R (.tuple ⟨[(.agg ⟨[(.int .i64 x00_11), (.int .i64 x01_11), (.string x02_11), (.slice x03a_11 x03l_11 x03c_11), (.int .i64 x04_11), (.int .i64 x05_11), (.string x06_11), (.slice x07a_11 x07l_11 x07c_11), (.slice x08a_11 x08l_11 x08c_11), (.bool x09_11)]⟩), (.agg ⟨[(.int .i64 x10_11), (.int .i64 x11_11), (.slice x12a_11 x12l_11 x12c_11), (.int .i64 x13_11), (.int .i64 x14_11)]⟩)]⟩) g60))
  (∀ J_4 : Int → Int → Option Addr → Nat → Nat → Int → Int → G → Prop,
  (∀ s0_1 : Int, ∀ s1_1 : Int, ∀ s2a_1 : Option Addr, ∀ s2l_1 : Nat, ∀ s2c_1 : Nat, ∀ s3_1 : Int, ∀ s4_1 : Int, ∀ g61 : G, (∀ g62 : G, Ex g61 g62 →
  ∀ g63 : G, Ex g62 g63 →
  ∀ g64 : G, Ex g63 g64 →
  R (.tuple ⟨[(.agg ⟨[(.int .i64 (3 : Int)), (.int .i64 (0 : Int)), (.string (bs [])), (.slice none 0 0), (.int .i64 (0 : Int)), (.int .i64 (0 : Int)), (.string (bs [])), (.slice none 0 0), (.slice none 0 0), (.bool false)]⟩), (.agg ⟨[(.int .i64 s0_1), (.int .i64 s1_1), (.slice s2a_1 s2l_1 s2c_1), (.int .i64 s3_1), (.int .i64 s4_1)]⟩)]⟩) g64) → J_4 s0_1 s1_1 s2a_1 s2l_1 s2c_1 s3_1 s4_1 g61) →
  ∀ g65 : G, Ex g18 g65 →
  (∀ g66 : G, Ex g65 g66 →
  ∀ g67 : G, NewL g66 g67 9 [] →
  ((∀ g68 : G, Ex g67 g68 →
  ∃ xa : Option Addr, ∃ xl : Nat, ∃ xc : Nat, ∃ wo1 : World, Sem.run Tryd.prog (Builtin.append_ #[27, 27] 27 #[(.slice (some ⟨g66.w.heap.size, 0, none⟩) 0 0), (.slice s2a s2l s2c)]) g68.w = .ok (.slice xa xl xc) wo1 ∧ ∃ g69 : G, g69.w = wo1 ∧ Stp g.w.heap.size nobody g68 g69 ∧ SameB g65 g69 ∧ ∀ g70 : G, Ex g69 g70 →
  ∀ g71 : G, NewL g70 g71 9 [(.string a2)] →
  ∃ xa_1 : Option Addr, ∃ xl_1 : Nat, ∃ xc_1 : Nat, ∃ wo2 : World, Sem.run Tryd.prog (Builtin.append_ #[27, 27] 27 #[(.slice xa xl xc), (.slice (some ⟨g70.w.heap.size, 0, none⟩) 1 1)]) g71.w = .ok (.slice xa_1 xl_1 xc_1) wo2 ∧ ∃ g72 : G, g72.w = wo2 ∧ Stp g.w.heap.size nobody g71 g72 ∧ ∀ g73 : G, Ex g72 g73 →
  J_4 s0 s1 xa_1 xl_1 xc_1 s3 s4 g73) ∧ (∀ g74 : G, Ex g67 g74 →
  ∀ g75 : G, NewL g74 g75 9 [(.string a2)] →
  ∀ g76 : G, Ex g75 g76 →
  ∃ xa_2 : Option Addr, ∃ xl_2 : Nat, ∃ xc_2 : Nat, ∃ wo3 : World, Sem.run Tryd.prog (Builtin.append_ #[27, 27] 27 #[(.slice (some ⟨g66.w.heap.size, 0, none⟩) 0 0), (.slice s2a s2l s2c)]) g76.w = .ok (.slice xa_2 xl_2 xc_2) wo3 ∧ ∃ g77 : G, g77.w = wo3 ∧ Stp g.w.heap.size nobody g76 g77 ∧ SameB g65 g77 ∧ ∃ xa_3 : Option Addr, ∃ xl_3 : Nat, ∃ xc_3 : Nat, ∃ wo4 : World, Sem.run Tryd.prog (Builtin.append_ #[27, 27] 27 #[(.slice xa_2 xl_2 xc_2), (.slice (some ⟨g74.w.heap.size, 0, none⟩) 1 1)]) g77.w = .ok (.slice xa_3 xl_3 xc_3) wo4 ∧ ∃ g78 : G, g78.w = wo4 ∧ Stp g.w.heap.size nobody g77 g78 ∧ ∀ g79 : G, Ex g78 g79 →
  J_4 s0 s1 xa_3 xl_3 xc_3 s3 s4 g79)) ∧ (∀ g80 : G, Ex g67 g80 →
  ∀ g81 : G, NewL g80 g81 9 [(.string a2)] →
  ∀ g82 : G, Ex g81 g82 →
  ∃ xa_4 : Option Addr, ∃ xl_4 : Nat, ∃ xc_4 : Nat, ∃ wo5 : World, Sem.run Tryd.prog (Builtin.append_ #[27, 27] 27 #[(.slice (some ⟨g66.w.heap.size, 0, none⟩) 0 0), (.slice s2a s2l s2c)]) g82.w = .ok (.slice xa_4 xl_4 xc_4) wo5 ∧ ∃ g83 : G, g83.w = wo5 ∧ Stp g.w.heap.size nobody g82 g83 ∧ SameB g65 g83 ∧ ∃ xa_5 : Option Addr, ∃ xl_5 : Nat, ∃ xc_5 : Nat, ∃ wo6 : World, Sem.run Tryd.prog (Builtin.append_ #[27, 27] 27 #[(.slice xa_4 xl_4 xc_4), (.slice (some ⟨g80.w.heap.size, 0, none⟩) 1 1)]) g83.w = .ok (.slice xa_5 xl_5 xc_5) wo6 ∧ ∃ g84 : G, g84.w = wo6 ∧ Stp g.w.heap.size nobody g83 g84 ∧ ∀ g85 : G, Ex g84 g85 →
  J_4 s0 s1 xa_5 xl_5 xc_5 s3 s4 g85)) ∧ (((∀ g86 : G, Ex g65 g86 →
  ∀ g87 : G, NewL g86 g87 9 [] →
  (∀ g88 : G, Ex g87 g88 →
  ∃ xa_6 : Option Addr, ∃ xl_6 : Nat, ∃ xc_6 : Nat, ∃ wo7 : World, Sem.run Tryd.prog (Builtin.append_ #[27, 27] 27 #[(.slice (some ⟨g86.w.heap.size, 0, none⟩) 0 0), (.slice s2a s2l s2c)]) g88.w = .ok (.slice xa_6 xl_6 xc_6) wo7 ∧ ∃ g89 : G, g89.w = wo7 ∧ Stp g.w.heap.size nobody g88 g89 ∧ SameB g65 g89 ∧ ∀ g90 : G, Ex g89 g90 →
  ∀ g91 : G, NewL g90 g91 9 [(.string a2)] →
  ∃ xa_7 : Option Addr, ∃ xl_7 : Nat, ∃ xc_7 : Nat, ∃ wo8 : World, Sem.run Tryd.prog (Builtin.append_ #[27, 27] 27 #[(.slice xa_6 xl_6 xc_6), (.slice (some ⟨g90.w.heap.size, 0, none⟩) 1 1)]) g91.w = .ok (.slice xa_7 xl_7 xc_7) wo8 ∧ ∃ g92 : G, g92.w = wo8 ∧ Stp g.w.heap.size nobody g91 g92 ∧ ∀ g93 : G, Ex g92 g93 →
  J_4 s0 s1 xa_7 xl_7 xc_7 s3 s4 g93) ∧ (∀ g94 : G, Ex g87 g94 →
  ∀ g95 : G, NewL g94 g95 9 [(.string a2)] →
  ∀ g96 : G, Ex g95 g96 →
  ∃ xa_8 : Option Addr, ∃ xl_8 : Nat, ∃ xc_8 : Nat, ∃ wo9 : World, Sem.run Tryd.prog (Builtin.append_ #[27, 27] 27 #[(.slice (some ⟨g86.w.heap.size, 0, none⟩) 0 0), (.slice s2a s2l s2c)]) g96.w = .ok (.slice xa_8 xl_8 xc_8) wo9 ∧ ∃ g97 : G, g97.w = wo9 ∧ Stp g.w.heap.size nobody g96 g97 ∧ SameB g65 g97 ∧ ∃ xa_9 : Option Addr, ∃ xl_9 : Nat, ∃ xc_9 : Nat, ∃ wo10 : World, Sem.run Tryd.prog (Builtin.append_ #[27, 27] 27 #[(.slice xa_8 xl_8 xc_8), (.slice (some ⟨g94.w.heap.size, 0, none⟩) 1 1)]) g97.w = .ok (.slice xa_9 xl_9 xc_9) wo10 ∧ ∃ g98 : G, g98.w = wo10 ∧ Stp g.w.heap.size nobody g97 g98 ∧ ∀ g99 : G, Ex g98 g99 →
  J_4 s0 s1 xa_9 xl_9 xc_9 s3 s4 g99)) ∧ (∀ g100 : G, Ex g65 g100 →
  ∀ g101 : G, NewL g100 g101 9 [(.string a2)] →
  ∀ g102 : G, Ex g101 g102 →
  ∀ g103 : G, NewL g102 g103 9 [] →
  ∀ g104 : G, Ex g103 g104 →
  ∃ xa_10 : Option Addr, ∃ xl_10 : Nat, ∃ xc_10 : Nat, ∃ wo11 : World, Sem.run Tryd.prog (Builtin.append_ #[27, 27] 27 #[(.slice (some ⟨g102.w.heap.size, 0, none⟩) 0 0), (.slice s2a s2l s2c)]) g104.w = .ok (.slice xa_10 xl_10 xc_10) wo11 ∧ ∃ g105 : G, g105.w = wo11 ∧ Stp g.w.heap.size nobody g104 g105 ∧ SameB g65 g105 ∧ ∃ xa_11 : Option Addr, ∃ xl_11 : Nat, ∃ xc_11 : Nat, ∃ wo12 : World, Sem.run Tryd.prog (Builtin.append_ #[27, 27] 27 #[(.slice xa_10 xl_10 xc_10), (.slice (some ⟨g100.w.heap.size, 0, none⟩) 1 1)]) g105.w = .ok (.slice xa_11 xl_11 xc_11) wo12 ∧ ∃ g106 : G, g106.w = wo12 ∧ Stp g.w.heap.size nobody g105 g106 ∧ ∀ g107 : G, Ex g106 g107 →
  J_4 s0 s1 xa_11 xl_11 xc_11 s3 s4 g107)) ∧ (∀ g108 : G, Ex g65 g108 →
  ∀ g109 : G, NewL g108 g109 9 [(.string a2)] →
  Rep 1 (∀ g110 : G, Ex g109 g110 →
  ∀ g111 : G, NewL g110 g111 9 [] →
  ∀ g112 : G, Ex g111 g112 →
  ∃ xa_12 : Option Addr, ∃ xl_12 : Nat, ∃ xc_12 : Nat, ∃ wo13 : World, Sem.run Tryd.prog (Builtin.append_ #[27, 27] 27 #[(.slice (some ⟨g110.w.heap.size, 0, none⟩) 0 0), (.slice s2a s2l s2c)]) g112.w = .ok (.slice xa_12 xl_12 xc_12) wo13 ∧ ∃ g113 : G, g113.w = wo13 ∧ Stp g.w.heap.size nobody g112 g113 ∧ SameB g65 g113 ∧ ∃ xa_13 : Option Addr, ∃ xl_13 : Nat, ∃ xc_13 : Nat, ∃ wo14 : World, Sem.run Tryd.prog (Builtin.append_ #[27, 27] 27 #[(.slice xa_12 xl_12 xc_12), (.slice (some ⟨g108.w.heap.size, 0, none⟩) 1 1)]) g113.w = .ok (.slice xa_13 xl_13 xc_13) wo14 ∧ ∃ g114 : G, g114.w = wo14 ∧ Stp g.w.heap.size nobody g113 g114 ∧ ∀ g115 : G, Ex g114 g115 →
  J_4 s0 s1 xa_13 xl_13 xc_13 s3 s4 g115)))))))))))))) → J_3 v_1 g18) →
  ifB (eqI n (4 : Int))
  (J_3 true g5)
  (J_3 (eqI n (5 : Int)) g5))))) → J_1 a0 a1 a2 a3a a3l a3c a4 a5 a6 a7a a7l a7c a8a a8l a8c a9 b0 b1 b2 b3a b3l b3c b4 b5 b6 b7a b7l b7c b8a b8l b8c b9 g5) →
  ∀ g122 : G, Ex g2 g122 →
  (0 ≤ (0 : Int) ∧ (0 : Int) < ((ll : Nat) : Int)) ∧ derefP la fun ad_1 => ¬ g122.X (Addr.block (Addr.add ad_1 (Int.toNat (0 : Int) * 10))) ∧ ∃ x0_8 : Int, ∃ x1_8 : Int, ∃ x2_6 : ByteArray, ∃ x3a_6 : Option Addr, ∃ x3l_6 : Nat, ∃ x3c_6 : Nat, ∃ x4_8 : Int, ∃ x5_6 : Int, ∃ x6_6 : ByteArray, ∃ x7a_6 : Option Addr, ∃ x7l_6 : Nat, ∃ x7c_6 : Nat, ∃ x8a_6 : Option Addr, ∃ x8l_6 : Nat, ∃ x8c_6 : Nat, ∃ x9_6 : Bool, g122.w.cell? (Addr.add ad_1 (Int.toNat (0 : Int) * 10)) = some (.int .i64 x0_8) ∧ g122.w.cell? (Addr.add (Addr.add ad_1 (Int.toNat (0 : Int) * 10)) 1) = some (.int .i64 x1_8) ∧ g122.w.cell? (Addr.add (Addr.add ad_1 (Int.toNat (0 : Int) * 10)) 2) = some (.string x2_6) ∧ g122.w.cell? (Addr.add (Addr.add ad_1 (Int.toNat (0 : Int) * 10)) 3) = some (.slice x3a_6 x3l_6 x3c_6) ∧ g122.w.cell? (Addr.add (Addr.add ad_1 (Int.toNat (0 : Int) * 10)) 4) = some (.int .i64 x4_8) ∧ g122.w.cell? (Addr.add (Addr.add ad_1 (Int.toNat (0 : Int) * 10)) 5) = some (.int .i64 x5_6) ∧ g122.w.cell? (Addr.add (Addr.add ad_1 (Int.toNat (0 : Int) * 10)) 6) = some (.string x6_6) ∧ g122.w.cell? (Addr.add (Addr.add ad_1 (Int.toNat (0 : Int) * 10)) 7) = some (.slice x7a_6 x7l_6 x7c_6) ∧ g122.w.cell? (Addr.add (Addr.add ad_1 (Int.toNat (0 : Int) * 10)) 8) = some (.slice x8a_6 x8l_6 x8c_6) ∧ g122.w.cell? (Addr.add (Addr.add ad_1 (Int.toNat (0 : Int) * 10)) 9) = some (.bool x9_6) ∧ InI64 (((ll : Nat) : Int) - (1 : Int)) ∧ (0 ≤ (((ll : Nat) : Int) - (1 : Int)) ∧ (((ll : Nat) : Int) - (1 : Int)) < ((ll : Nat) : Int)) ∧ derefP la fun ad_2 => ¬ g122.X (Addr.block (Addr.add ad_2 (Int.toNat (((ll : Nat) : Int) - (1 : Int)) * 10))) ∧ ∃ x0_9 : Int, ∃ x1_9 : Int, ∃ x2_7 : ByteArray, ∃ x3a_7 : Option Addr, ∃ x3l_7 : Nat, ∃ x3c_7 : Nat, ∃ x4_9 : Int, ∃ x5_7 : Int, ∃ x6_7 : ByteArray, ∃ x7a_7 : Option Addr, ∃ x7l_7 : Nat, ∃ x7c_7 : Nat, ∃ x8a_7 : Option Addr, ∃ x8l_7 : Nat, ∃ x8c_7 : Nat, ∃ x9_7 : Bool, g122.w.cell? (Addr.add ad_2 (Int.toNat (((ll : Nat) : Int) - (1 : Int)) * 10)) = some (.int .i64 x0_9) ∧ g122.w.cell? (Addr.add (Addr.add ad_2 (Int.toNat (((ll : Nat) : Int) - (1 : Int)) * 10)) 1) = some (.int .i64 x1_9) ∧ g122.w.cell? (Addr.add (Addr.add ad_2 (Int.toNat (((ll : Nat) : Int) - (1 : Int)) * 10)) 2) = some (.string x2_7) ∧ g122.w.cell? (Addr.add (Addr.add ad_2 (Int.toNat (((ll : Nat) : Int) - (1 : Int)) * 10)) 3) = some (.slice x3a_7 x3l_7 x3c_7) ∧ g122.w.cell? (Addr.add (Addr.add ad_2 (Int.toNat (((ll : Nat) : Int) - (1 : Int)) * 10)) 4) = some (.int .i64 x4_9) ∧ g122.w.cell? (Addr.add (Addr.add ad_2 (Int.toNat (((ll : Nat) : Int) - (1 : Int)) * 10)) 5) = some (.int .i64 x5_7) ∧ g122.w.cell? (Addr.add (Addr.add ad_2 (Int.toNat (((ll : Nat) : Int) - (1 : Int)) * 10)) 6) = some (.string x6_7) ∧ g122.w.cell? (Addr.add (Addr.add ad_2 (Int.toNat (((ll : Nat) : Int) - (1 : Int)) * 10)) 7) = some (.slice x7a_7 x7l_7 x7c_7) ∧ g122.w.cell? (Addr.add (Addr.add ad_2 (Int.toNat (((ll : Nat) : Int) - (1 : Int)) * 10)) 8) = some (.slice x8a_7 x8l_7 x8c_7) ∧ g122.w.cell? (Addr.add (Addr.add ad_2 (Int.toNat (((ll : Nat) : Int) - (1 : Int)) * 10)) 9) = some (.bool x9_7) ∧ Rep 1 (∀ g123 : G, Ex g122 g123 →
  J_1 x0_8 x1_8 x2_6 x3a_6 x3l_6 x3c_6 x4_8 x5_6 x6_6 x7a_6 x7l_6 x7c_6 x8a_6 x8l_6 x8c_6 x9_6 x0_9 x1_9 x2_7 x3a_7 x3l_7 x3c_7 x4_9 x5_7 x6_7 x7a_7 x7l_7 x7c_7 x8a_7 x8l_7 x8c_7 x9_7 g123))) → J kind g1) →
  ifB (eqI n (10 : Int))
  (∀ g125 : G, Ex g g125 →
  J (2 : Int) g125)
  (ifB (eqI n (11 : Int))
  (∀ g126 : G, Ex g g126 →
  J (2 : Int) g126)
  (ifB (eqI n (12 : Int))
  (∀ g127 : G, Ex g g127 →
  J (2 : Int) g127)
  (ifB (eqI n (14 : Int))
  (∀ g128 : G, Ex g g128 →
  J (2 : Int) g128)
  (∀ g129 : G, Ex g g129 →
  J (1 : Int) g129))))
theorem F55_eq (n : Int) (la : Option Addr) (ll : Nat) (lc : Nat) (s0 : Int) (s1 : Int) (s2a : Option Addr) (s2l : Nat) (s2c : Nat) (s3 : Int) (s4 : Int) (g : G) (R : Value → G → Prop) : fnG cfg55 234 [.cell 6 63, .cell 7 65] c55 an55 [(.int .i64 n), (.slice la ll lc), (.agg ⟨[(.int .i64 s0), (.int .i64 s1), (.slice s2a s2l s2c), (.int .i64 s3), (.int .i64 s4)]⟩)] g nobody R = F55 n la ll lc s0 s1 s2a s2l s2c s3 s4 g R := by kernel_rfl
theorem call55 (n : Int) (la : Option Addr) (ll : Nat) (lc : Nat) (s0 : Int) (s1 : Int) (s2a : Option Addr) (s2l : Nat) (s2c : Nat) (s3 : Int) (s4 : Int) (g : G) (R : Value → G → Prop) (hF : F55 n la ll lc s0 s1 s2a s2l s2c s3 s4 g R) : CallsG Tryd.prog 55 #[(.int .i64 n), (.slice la ll lc), (.agg ⟨[(.int .i64 s0), (.int .i64 s1), (.slice s2a s2l s2c), (.int .i64 s3), (.int .i64 s4)]⟩)] g nobody R :=
  fn_soundG (c := cfg55) TTok FNSok mixed Tryd.func55 (show Tryd.f55.body = some c55 by kernel_rfl) (show Tryd.f55.ntmps = 234 by kernel_rfl) (show Tryd.f55.results.toList = [.cell 6 63, .cell 7 65] by kernel_rfl) rfl ((F55_eq n la ll lc s0 s1 s2a s2l s2c s3 s4 g R ).mpr hF)

/- 56 pilaster/lambda.node -/
noncomputable def c56 : Code := match Tryd.f56.body with
  | some c => c
  | none => .skip
noncomputable def cfg56 : Cfg := ⟨Tryd.prog, TT, FNS, [1], [(1, 1), (4, 1), (7, 1), (11, 1), (15, 1), (22, 1), (31, 1), (40, 1), (45, 1), (55, 1), (65, 1), (74, 1), (84, 1), (93, 1), (102, 1), (107, 1), (116, 1), (121, 1), (131, 1)], [], TCH, false, false, none, PNF, false⟩
def an56 : AnnG := (.seq .leaf (.seq .leaf (.join ⟨[], [], []⟩ (.seq .leaf (.cond (.seq .leaf .leaf) .leaf)) (.seq (.seq .leaf (.blk (.seq .leaf (.cond (.seq .leaf .leaf) (.seq .leaf (.cond (.seq .leaf .leaf) (.seq .leaf (.cond (.seq .leaf .leaf) (.seq .leaf (.cond (.seq .leaf .leaf) (.join ⟨[(59, .bool)], [], []⟩ (.seq .leaf (.cond .leaf .leaf)) (.cond (.seq .leaf .leaf) (.seq .leaf (.cond (.seq .leaf .leaf) (.join ⟨[(78, .bool)], [], []⟩ (.seq .leaf (.cond .leaf .leaf)) (.cond (.seq .leaf .leaf) (.seq .leaf (.cond (.seq .leaf .leaf) (.seq .leaf (.cond (.seq .leaf .leaf) (.seq .leaf (.cond (.seq .leaf .leaf) (.seq .leaf (.cond (.seq .leaf .leaf) .leaf)))))))))))))))))))))))) (.seq .leaf .leaf)))))
def F56 (x0 : Int) (x1 : Int) (x2 : ByteArray) (x3a : Option Addr) (x3l : Nat) (x3c : Nat) (g : G) (R : Value → G → Prop) : Prop :=
  ∀ J : G → Prop,
  (∀ g1 : G, (ifB (eqI x0 (1 : Int))
  (ifB (eqI ((x3l : Nat) : Int) (0 : Int))
  (∀ g2 : G, Ex g1 g2 →
  R (.bool (leI (0 : Int) x1)) g2)
  (∀ g3 : G, Ex g1 g3 →
  R (.bool false) g3))
  (ifB (eqI x0 (2 : Int))
  (ifB (eqI ((x3l : Nat) : Int) (0 : Int))
  ((CallsP Tryd.prog 73 #[(.int .i64 x1), (.int .i64 (-4503599627370496 : Int)), (.int .i64 (4503599627370496 : Int))] g1 fun v g4 =>
  ∃ x : Bool, v = (.bool x) ∧ ∀ g5 : G, Ex g4 g5 →
  R (.bool x) g5))
  (∀ g6 : G, Ex g1 g6 →
  R (.bool false) g6))
  (ifB (eqI x0 (3 : Int))
  (ifB (eqI ((x3l : Nat) : Int) (0 : Int))
  (ifB (eqI x1 (0 : Int))
  (∀ g7 : G, Ex g1 g7 →
  R (.bool (leI ((x2.size : Nat) : Int) (16384 : Int))) g7)
  (∀ g8 : G, Ex g1 g8 →
  R (.bool false) g8))
  (∀ g9 : G, Ex g1 g9 →
  R (.bool false) g9))
  (ifB (eqI x0 (4 : Int))
  (ifB (eqI ((x3l : Nat) : Int) (1 : Int))
  (∀ g10 : G, Ex g1 g10 →
  R (.bool (eqI x1 (0 : Int))) g10)
  (∀ g11 : G, Ex g1 g11 →
  R (.bool false) g11))
  (∀ J_1 : Bool → G → Prop,
  (∀ v_1 : Bool, ∀ g12 : G, (ifB v_1
  (ifB (eqI ((x3l : Nat) : Int) (2 : Int))
  (∀ g13 : G, Ex g12 g13 →
  R (.bool (eqI x1 (0 : Int))) g13)
  (∀ g14 : G, Ex g12 g14 →
  R (.bool false) g14))
  (ifB (eqI x0 (6 : Int))
  (ifB (leI ((x3l : Nat) : Int) (1000 : Int))
  (∀ g15 : G, Ex g12 g15 →
  R (.bool (eqI x1 (0 : Int))) g15)
  (∀ g16 : G, Ex g12 g16 →
  R (.bool false) g16))
  (∀ J_2 : Bool → G → Prop,
  (∀ v_2 : Bool, ∀ g17 : G, (ifB v_2
  (ifB (eqI ((x3l : Nat) : Int) (1 : Int))
  ((CallsP Tryd.prog 73 #[(.int .i64 x1), (.int .i64 (0 : Int)), (.int .i64 (999 : Int))] g17 fun v g18 =>
  ∃ x_1 : Bool, v = (.bool x_1) ∧ ∀ g19 : G, Ex g18 g19 →
  R (.bool x_1) g19))
  (∀ g20 : G, Ex g17 g20 →
  R (.bool false) g20))
  (ifB (eqI x0 (9 : Int))
  ((CallsP Tryd.prog 73 #[(.int .i64 ((x3l : Nat) : Int)), (.int .i64 (2 : Int)), (.int .i64 (1001 : Int))] g17 fun v g21 =>
  ∃ x_2 : Bool, v = (.bool x_2) ∧ ifB x_2
  (∀ g22 : G, Ex g21 g22 →
  R (.bool (eqI x1 (0 : Int))) g22)
  (∀ g23 : G, Ex g21 g23 →
  R (.bool false) g23)))
  (ifB (eqI x0 (10 : Int))
  (ifB (eqI ((x3l : Nat) : Int) (1 : Int))
  (ifB (eqI x1 (0 : Int))
  ((0 ≤ (0 : Int) ∧ (0 : Int) < ((x3l : Nat) : Int)) ∧ derefP x3a fun ad => ∃ x_3 : Int, g17.w.cell? (Addr.add ad (Int.toNat (0 : Int) * 4)) = some (.int .i64 x_3) ∧ ∀ g24 : G, Ex g17 g24 →
  R (.bool (eqI x_3 (4 : Int))) g24)
  (∀ g25 : G, Ex g17 g25 →
  R (.bool false) g25))
  (∀ g26 : G, Ex g17 g26 →
  R (.bool false) g26))
  (ifB (eqI x0 (12 : Int))
  ((CallsP Tryd.prog 73 #[(.int .i64 x1), (.int .i64 (1 : Int)), (.int .i64 (14 : Int))] g17 fun v g27 =>
  ∃ x_4 : Bool, v = (.bool x_4) ∧ ifB x_4
  ((CallsP Tryd.prog 74 #[(.int .i64 x1)] g27 fun v g28 =>
  ∃ x_5 : Int, v = (.int .i64 x_5) ∧ ∀ g29 : G, Ex g28 g29 →
  R (.bool (eqI ((x3l : Nat) : Int) x_5)) g29))
  (∀ g30 : G, Ex g27 g30 →
  R (.bool false) g30)))
  (ifB (eqI x0 (13 : Int))
  (ifB (eqI ((x3l : Nat) : Int) (0 : Int))
  ((CallsP Tryd.prog 73 #[(.int .i64 x1), (.int .i64 (1 : Int)), (.int .i64 (1000000 : Int))] g17 fun v g31 =>
  ∃ x_6 : Bool, v = (.bool x_6) ∧ ∀ g32 : G, Ex g31 g32 →
  R (.bool x_6) g32))
  (∀ g33 : G, Ex g17 g33 →
  R (.bool false) g33))
  (∀ g34 : G, Ex g17 g34 →
  R (.bool false) g34)))))) → J_2 v_2 g17) →
  ifB (eqI x0 (7 : Int))
  (J_2 true g12)
  (J_2 (eqI x0 (8 : Int)) g12)))) → J_1 v_1 g12) →
  ifB (eqI x0 (5 : Int))
  (J_1 true g1)
  (J_1 (eqI x0 (11 : Int)) g1)))))) → J g1) →
  ifB (!eqI x0 (3 : Int))
  (ifB (!strEq x2 (bs []))
  (∀ g35 : G, Ex g g35 →
  R (.bool false) g35)
  (∀ g36 : G, Ex g g36 →
  J g36))
  (∀ g37 : G, Ex g g37 →
  J g37)
theorem F56_eq (x0 : Int) (x1 : Int) (x2 : ByteArray) (x3a : Option Addr) (x3l : Nat) (x3c : Nat) (g : G) (R : Value → G → Prop) : fnG cfg56 135 [.tmp 2] c56 an56 [(.agg ⟨[(.int .i64 x0), (.int .i64 x1), (.string x2), (.slice x3a x3l x3c)]⟩)] g nobody R = F56 x0 x1 x2 x3a x3l x3c g R := by kernel_rfl
theorem call56 (x0 : Int) (x1 : Int) (x2 : ByteArray) (x3a : Option Addr) (x3l : Nat) (x3c : Nat) (g : G) (R : Value → G → Prop) (hF : F56 x0 x1 x2 x3a x3l x3c g R) : CallsG Tryd.prog 56 #[(.agg ⟨[(.int .i64 x0), (.int .i64 x1), (.string x2), (.slice x3a x3l x3c)]⟩)] g nobody R :=
  fn_soundG (c := cfg56) TTok FNSok mixed Tryd.func56 (show Tryd.f56.body = some c56 by kernel_rfl) (show Tryd.f56.ntmps = 135 by kernel_rfl) (show Tryd.f56.results.toList = [.tmp 2] by kernel_rfl) rfl ((F56_eq x0 x1 x2 x3a x3l x3c g R ).mpr hF)

/- 57 pilaster/lambda.binds -/
noncomputable def c57 : Code := match Tryd.f57.body with
  | some c => c
  | none => .skip
noncomputable def cfg57 : Cfg := ⟨Tryd.prog, TT, FNS, [2], [(2, 2), (5, 2)], [], TCH, false, false, none, PNF, false⟩
def an57 : AnnG := (.seq .leaf (.seq (.seq .leaf (.blk (.join ⟨[(7, .bool)], [], []⟩ (.seq .leaf (.cond .leaf .leaf)) (.cond (.seq .leaf .leaf) (.seq (.seq .leaf (.cond .leaf .leaf)) (.cond (.seq .leaf .leaf) .leaf)))))) (.seq .leaf .leaf)))
def F57 (x0 : Int) (x1 : Int) (x2 : ByteArray) (x3a : Option Addr) (x3l : Nat) (x3c : Nat) (part : Int) (g : G) (R : Value → G → Prop) : Prop :=
  ∀ J : Bool → G → Prop,
  (∀ v_1 : Bool, ∀ g1 : G, (ifB v_1
  (∀ g2 : G, Ex g1 g2 →
  R (.bool true) g2)
  (ifB (eqI x0 (11 : Int))
  (∀ g3 : G, Ex g1 g3 →
  R (.bool (ltI (0 : Int) part)) g3)
  (ifB (eqI x0 (9 : Int))
  (∀ g4 : G, Ex g1 g4 →
  R (.bool (ltI (0 : Int) part)) g4)
  (∀ g5 : G, Ex g1 g5 →
  R (.bool false) g5)))) → J v_1 g1) →
  ifB (eqI x0 (4 : Int))
  (∀ g6 : G, Ex g g6 →
  J true g6)
  (∀ g7 : G, Ex g g7 →
  J (eqI x0 (10 : Int)) g7)
theorem F57_eq (x0 : Int) (x1 : Int) (x2 : ByteArray) (x3a : Option Addr) (x3l : Nat) (x3c : Nat) (part : Int) (g : G) (R : Value → G → Prop) : fnG cfg57 15 [.tmp 4] c57 an57 [(.agg ⟨[(.int .i64 x0), (.int .i64 x1), (.string x2), (.slice x3a x3l x3c)]⟩), (.int .i64 part)] g nobody R = F57 x0 x1 x2 x3a x3l x3c part g R := by kernel_rfl
theorem call57 (x0 : Int) (x1 : Int) (x2 : ByteArray) (x3a : Option Addr) (x3l : Nat) (x3c : Nat) (part : Int) (g : G) (R : Value → G → Prop) (hF : F57 x0 x1 x2 x3a x3l x3c part g R) : CallsG Tryd.prog 57 #[(.agg ⟨[(.int .i64 x0), (.int .i64 x1), (.string x2), (.slice x3a x3l x3c)]⟩), (.int .i64 part)] g nobody R :=
  fn_soundG (c := cfg57) TTok FNSok mixed Tryd.func57 (show Tryd.f57.body = some c57 by kernel_rfl) (show Tryd.f57.ntmps = 15 by kernel_rfl) (show Tryd.f57.results.toList = [.tmp 4] by kernel_rfl) rfl ((F57_eq x0 x1 x2 x3a x3l x3c part g R ).mpr hF)

/- 61 slices.EqualFunc[[]pilaster/api.Exp,[]pilaster/api.Exp,pilaster/api.Exp,pilaster/api.Exp] -/
/- 62 slices.ContainsFunc[[]pilaster/api.Exp,pilaster/api.Exp] -/
/- 63 pilaster/lambda.form$1 -/
/- 64 (*pilaster/lambda.machine).end -/
noncomputable def c64 : Code := match Tryd.f64.body with
  | some c => c
  | none => .skip
noncomputable def cfg64 (RP : List PanicEntry → G → Prop) : Cfg := ⟨Tryd.prog, TT, FNS, [], [], [], TCH, false, false, some RP, PNF, false⟩
def an64 : AnnG := (.seq .leaf .leaf)
def F64 (m : Option Addr) (op : Int) (n : Int) (g : G) (M : Nat → Prop) (R : Value → G → Prop) (RP : List PanicEntry → G → Prop) : Prop :=
  derefP m fun ad => stOk g.w (Addr.add ad 3) 1 ∧ ¬ g.X (Addr.block (Addr.add ad 3)) ∧ mutAt g (Addr.add ad 3) 1 ∧ ((Addr.block (Addr.add ad 3)) < g.w.heap.size → M (Addr.block (Addr.add ad 3))) ∧ ∀ g1 : G, StG false g (Addr.add ad 3) [(.int .i64 op)] g1 →
  derefP m fun ad_1 => stOk g1.w (Addr.add ad_1 4) 1 ∧ ¬ g1.X (Addr.block (Addr.add ad_1 4)) ∧ mutAt g1 (Addr.add ad_1 4) 1 ∧ ((Addr.block (Addr.add ad_1 4)) < g.w.heap.size → M (Addr.block (Addr.add ad_1 4))) ∧ ∀ g2 : G, StG false g1 (Addr.add ad_1 4) [(.int .i64 n)] g2 →
  ∀ g3 : G, Ex g2 g3 →
  RP [{ v := (.iface 77 (.agg ⟨[]⟩)), recovered := false }] g3
theorem F64_eq (m : Option Addr) (op : Int) (n : Int) (g : G) (M : Nat → Prop) (R : Value → G → Prop) (RP : List PanicEntry → G → Prop) : fnG (cfg64 RP) 16 [] c64 an64 [(.pointer m), (.int .i64 op), (.int .i64 n)] g M R = F64 m op n g M R RP := by kernel_rfl
theorem call64 (m : Option Addr) (op : Int) (n : Int) (g : G) (M : Nat → Prop) (R : Value → G → Prop) (RP : List PanicEntry → G → Prop) (hF : F64 m op n g M R RP ) : CallsX Tryd.prog 64 #[(.pointer m), (.int .i64 op), (.int .i64 n)] g M R RP :=
  fn_soundX (c := (cfg64 RP)) TTok FNSok mixed (.inr rfl) Tryd.func64 (show Tryd.f64.body = some c64 by kernel_rfl) (show Tryd.f64.ntmps = 16 by kernel_rfl) (show Tryd.f64.results.toList = [] by kernel_rfl) rfl ((F64_eq m op n g M R RP ).mpr hF)

/- 65 (*pilaster/lambda.cell).find -/
noncomputable def c65 : Code := match Tryd.f65.body with
  | some c => c
  | none => .skip
noncomputable def cfg65 : Cfg := ⟨Tryd.prog, TT, FNS, [], [], [], TCH, false, false, none, PNF, false⟩
def an65 : AnnG := (.seq .leaf (.seq (.blk (.loop ⟨[(0, .ptr), (1, .int .i64)], [], []⟩ (.seq (.seq .leaf (.cond .leaf .leaf)) (.seq (.blk .leaf) .leaf)))) (.seq .leaf .leaf)))
def F65 (c : Option Addr) (n : Int) (g : G) (R : Value → G → Prop) : Prop :=
  ∃ Inv : Nat → Option Addr → Int → G → Prop, ((∃ m0 : Nat, Inv m0 c n g)) ∧
  ∀ m : Nat, ∀ c_1 : Option Addr, ∀ n_1 : Int, ∀ g1 : G, Le g g1 → Inv m c_1 n_1 g1 →
  ifB (ltI (0 : Int) n_1)
  (derefP c_1 fun ad => ∃ c_2 : Option Addr, g1.w.cell? (Addr.add ad 1) = some (.pointer c_2) ∧ InI64 (n_1 - (1 : Int)) ∧ (∃ m_1 : Nat, m_1 < m ∧ Inv m_1 c_2 (n_1 - (1 : Int)) g1))
  (derefP c_1 fun ad_1 => ∃ x : Option Addr, g1.w.cell? ad_1 = some (.pointer x) ∧ ∀ g2 : G, Ex g1 g2 →
  R (.pointer x) g2)
theorem F65_eq (c : Option Addr) (n : Int) (g : G) (R : Value → G → Prop) : fnG cfg65 17 [.tmp 4] c65 an65 [(.pointer c), (.int .i64 n)] g nobody R = F65 c n g R := by kernel_rfl
theorem call65 (c : Option Addr) (n : Int) (g : G) (R : Value → G → Prop) (hF : F65 c n g R) : CallsG Tryd.prog 65 #[(.pointer c), (.int .i64 n)] g nobody R :=
  fn_soundG (c := cfg65) TTok FNSok mixed Tryd.func65 (show Tryd.f65.body = some c65 by kernel_rfl) (show Tryd.f65.ntmps = 17 by kernel_rfl) (show Tryd.f65.results.toList = [.tmp 4] by kernel_rfl) rfl ((F65_eq c n g R ).mpr hF)

/- 66 (*pilaster/lambda.machine).stuck -/
noncomputable def c66 : Code := match Tryd.f66.body with
  | some c => c
  | none => .skip
noncomputable def cfg66 (RP : List PanicEntry → G → Prop) : Cfg := ⟨Tryd.prog, TT, FNS, [], [], [], TCH, false, false, some RP, PNF, false⟩
def an66 : AnnG := (.seq .leaf (.cond .leaf .leaf))
def F66 (m : Option Addr) (ok : Bool) (g : G) (M : Nat → Prop) (R : Value → G → Prop) (RP : List PanicEntry → G → Prop) : Prop :=
  ifB (!ok)
  (∃ M1 : Nat → Prop, (∀ b, b < g.w.heap.size → M1 b → M b) ∧ (CallsX Tryd.prog 64 #[(.pointer m), (.int .i64 (4 : Int)), (.int .i64 (0 : Int))] g M1 (fun v g1 =>
  v = (.tuple ⟨[]⟩) ∧ ∀ g2 : G, Ex g1 g2 →
  R (.tuple ⟨[]⟩) g2) (fun ch g3 => ∀ g4 : G, Ex g3 g4 → RP ch g4)))
  (∀ g5 : G, Ex g g5 →
  R (.tuple ⟨[]⟩) g5)
theorem F66_eq (m : Option Addr) (ok : Bool) (g : G) (M : Nat → Prop) (R : Value → G → Prop) (RP : List PanicEntry → G → Prop) : fnG (cfg66 RP) 8 [] c66 an66 [(.pointer m), (.bool ok)] g M R = F66 m ok g M R RP := by kernel_rfl
theorem call66 (m : Option Addr) (ok : Bool) (g : G) (M : Nat → Prop) (R : Value → G → Prop) (RP : List PanicEntry → G → Prop) (hF : F66 m ok g M R RP ) : CallsX Tryd.prog 66 #[(.pointer m), (.bool ok)] g M R RP :=
  fn_soundX (c := (cfg66 RP)) TTok FNSok mixed (.inr rfl) Tryd.func66 (show Tryd.f66.body = some c66 by kernel_rfl) (show Tryd.f66.ntmps = 8 by kernel_rfl) (show Tryd.f66.results.toList = [] by kernel_rfl) rfl ((F66_eq m ok g M R RP ).mpr hF)

/- 67 (*pilaster/lambda.machine).combine -/
noncomputable def c67 : Code := match Tryd.f67.body with
  | some c => c
  | none => .skip
noncomputable def cfg67 (RP : List PanicEntry → G → Prop) : Cfg := ⟨Tryd.prog, TT, FNS, [4], [(4, 4), (7, 4), (46, 4), (62, 4), (80, 4), (84, 4), (95, 4), (117, 4)], [43, 50], TCH, false, false, some RP, PNF, false⟩
def an67 : AnnG := (.seq .leaf (.seq (.seq .leaf (.blk (.seq .leaf (.cond (.seq .leaf (.seq (.tree 18 (.quiet 0 (.quiet 1 (.quiet 2 (.quiet 3 (.quiet 4 (.quiet 5 (.quiet 6 (.quiet 7 (.quiet 8 (.quiet 9 (.quiet 10 (.quiet 11 (.quiet 12 (.quiet 13 (.quiet 14 (.quiet 15 (.eff 16 (.eff 17 .fin .fin) .fin)))))))))))))))))) .leaf)) (.seq .leaf (.cond (.seq .leaf .leaf) (.seq .leaf (.cond (.seq .leaf .leaf) (.seq .leaf (.cond (.join ⟨[], [], []⟩ (.tree 20 (.quiet 0 (.quiet 1 (.quiet 2 (.quiet 3 (.quiet 4 (.quiet 5 (.quiet 6 (.quiet 7 (.quiet 8 (.quiet 9 (.quiet 10 (.quiet 11 (.quiet 12 (.quiet 13 (.quiet 14 (.quiet 15 (.quiet 16 (.quiet 17 (.quiet 18 (.quiet 19 .fin))))))))))))))))))))) (.seq (.tree 8 (.quiet 0 (.quiet 1 (.quiet 2 (.quiet 3 (.quiet 4 (.quiet 5 (.quiet 6 (.quiet 7 .fin))))))))) .leaf)) .leaf)))))))))) (.seq (.seq .leaf (.blk (.join ⟨[(86, .bool)], [], []⟩ (.seq .leaf (.cond .leaf (.seq .leaf (.cond .leaf (.seq .leaf (.cond .leaf .leaf)))))) (.cond (.seq .leaf (.seq (.tree 18 (.quiet 0 (.quiet 1 (.quiet 2 (.quiet 3 (.quiet 4 (.quiet 5 (.quiet 6 (.quiet 7 (.quiet 8 (.quiet 9 (.quiet 10 (.quiet 11 (.quiet 12 (.quiet 13 (.quiet 14 (.quiet 15 (.quiet 16 (.quiet 17 .fin))))))))))))))))))) .leaf)) .leaf)))) (.seq .leaf (.seq (.tree 18 (.quiet 0 (.quiet 1 (.quiet 2 (.quiet 3 (.quiet 4 (.quiet 5 (.quiet 6 (.quiet 7 (.quiet 8 (.quiet 9 (.quiet 10 (.quiet 11 (.quiet 12 (.quiet 13 (.quiet 14 (.quiet 15 (.quiet 16 (.quiet 17 .fin))))))))))))))))))) .leaf)))))
def F67 (m : Option Addr) (x0 : Int) (x1 : Int) (x2 : ByteArray) (x3a : Option Addr) (x3l : Nat) (x3c : Nat) (la : Option Addr) (ll : Nat) (lc : Nat) (g : G) (M : Nat → Prop) (R : Value → G → Prop) (RP : List PanicEntry → G → Prop) : Prop :=
  ifB (eqI x0 (5 : Int))
  ((0 ≤ (0 : Int) ∧ (0 : Int) < ((ll : Nat) : Int)) ∧ derefP la fun ad => ∀ g1 : G, Ex g g1 →
  ∃ x : Option Addr, g1.w.cell? (Addr.add ad (Int.toNat (0 : Int) * 1)) = some (.pointer x) ∧ derefP x fun ad_1 => ∃ x_1 : Int, g1.w.cell? ad_1 = some (.int .i64 x_1) ∧ ∃ M2 : Nat → Prop, (∀ b, b < g.w.heap.size → M2 b → M b) ∧ (CallsX Tryd.prog 66 #[(.pointer m), (.bool (eqI x_1 (7 : Int)))] g1 M2 (fun v g2 =>
  v = (.tuple ⟨[]⟩) ∧ ∀ g3 : G, Ex g2 g3 →
  (0 ≤ (0 : Int) ∧ (0 : Int) < ((ll : Nat) : Int)) ∧ derefP la fun ad_2 => ∃ x_2 : Option Addr, g3.w.cell? (Addr.add ad_2 (Int.toNat (0 : Int) * 1)) = some (.pointer x_2) ∧ derefP x_2 fun ad_3 => ∃ x0_1 : Int, ∃ x1_1 : Int, ∃ x2_1 : ByteArray, ∃ x3a_1 : Option Addr, ∃ x3l_1 : Nat, ∃ x3c_1 : Nat, g3.w.cell? (Addr.add ad_3 4) = some (.int .i64 x0_1) ∧ g3.w.cell? (Addr.add (Addr.add ad_3 4) 1) = some (.int .i64 x1_1) ∧ g3.w.cell? (Addr.add (Addr.add ad_3 4) 2) = some (.string x2_1) ∧ g3.w.cell? (Addr.add (Addr.add ad_3 4) 3) = some (.slice x3a_1 x3l_1 x3c_1) ∧ (0 ≤ (1 : Int) ∧ (1 : Int) < ((ll : Nat) : Int)) ∧ derefP la fun ad_4 => ∃ x_3 : Option Addr, g3.w.cell? (Addr.add ad_4 (Int.toNat (1 : Int) * 1)) = some (.pointer x_3) ∧ (0 ≤ (0 : Int) ∧ (0 : Int) < ((ll : Nat) : Int)) ∧ derefP la fun ad_5 => ∃ x_4 : Option Addr, g3.w.cell? (Addr.add ad_5 (Int.toNat (0 : Int) * 1)) = some (.pointer x_4) ∧ derefP x_4 fun ad_6 => ∃ x_5 : Option Addr, g3.w.cell? (Addr.add ad_6 8) = some (.pointer x_5) ∧ ∀ g4 : G, NewD g3 g4 103 ([(.pointer x_3), (.pointer x_5)] : List Value) →
  ∃ M1 : Nat → Prop, (∀ b, b < g.w.heap.size → M1 b → M b) ∧ (CallsX Tryd.prog 48 #[(.pointer m), (.agg ⟨[(.int .i64 x0_1), (.int .i64 x1_1), (.string x2_1), (.slice x3a_1 x3l_1 x3c_1)]⟩), (.pointer (some ⟨g3.w.heap.size, 0, none⟩))] g4 M1 (fun v g5 =>
  ∃ x_6 : Option Addr, v = (.pointer x_6) ∧ ∀ g6 : G, Ex g5 g6 →
  R (.pointer x_6) g6) (fun ch g7 => ∀ g8 : G, Ex g7 g8 → RP ch g8))) (fun ch g9 => ∀ g10 : G, Ex g9 g10 → RP ch g10)))
  (ifB (eqI x0 (6 : Int))
  (∀ g11 : G, Ex g g11 →
  ∀ g12 : G, NewL g11 g12 100 ([(.int .i64 (3 : Int)), (.int .i64 (0 : Int)), (.string (bs [])), (.slice la ll lc), (.int .i64 (0 : Int)), (.int .i64 (0 : Int)), (.string (bs [])), (.slice none 0 0), (.pointer none)] : List Value) →
  ∀ g13 : G, Ex g12 g13 →
  R (.pointer (some ⟨g11.w.heap.size, 0, none⟩)) g13)
  (ifB (eqI x0 (8 : Int))
  (∀ g14 : G, Ex g g14 →
  ∀ g15 : G, NewL g14 g15 100 ([(.int .i64 (4 : Int)), (.int .i64 x1), (.string (bs [])), (.slice la ll lc), (.int .i64 (0 : Int)), (.int .i64 (0 : Int)), (.string (bs [])), (.slice none 0 0), (.pointer none)] : List Value) →
  ∀ g16 : G, Ex g15 g16 →
  R (.pointer (some ⟨g14.w.heap.size, 0, none⟩)) g16)
  (ifB (eqI x0 (7 : Int))
  (∀ J : G → Prop,
  (∀ g17 : G, (∀ g18 : G, Ex g17 g18 →
  (0 ≤ (0 : Int) ∧ (0 : Int) < ((ll : Nat) : Int)) ∧ derefP la fun ad_7 => ∃ x_7 : Option Addr, g18.w.cell? (Addr.add ad_7 (Int.toNat (0 : Int) * 1)) = some (.pointer x_7) ∧ derefP x_7 fun ad_8 => ∃ xa : Option Addr, ∃ xl : Nat, ∃ xc : Nat, g18.w.cell? (Addr.add ad_8 3) = some (.slice xa xl xc) ∧ (0 ≤ x1 ∧ x1 < ((xl : Nat) : Int)) ∧ derefP xa fun ad_9 => ∃ x_8 : Option Addr, g18.w.cell? (Addr.add ad_9 (Int.toNat x1 * 1)) = some (.pointer x_8) ∧ ∀ g19 : G, Ex g18 g19 →
  R (.pointer x_8) g19) → J g17) →
  ∀ g20 : G, Ex g g20 →
  (0 ≤ (0 : Int) ∧ (0 : Int) < ((ll : Nat) : Int)) ∧ derefP la fun ad_10 => ∃ x_9 : Option Addr, g20.w.cell? (Addr.add ad_10 (Int.toNat (0 : Int) * 1)) = some (.pointer x_9) ∧ derefP x_9 fun ad_11 => ∃ x_10 : Int, g20.w.cell? ad_11 = some (.int .i64 x_10) ∧ ifB (eqI x_10 (3 : Int))
  ((0 ≤ (0 : Int) ∧ (0 : Int) < ((ll : Nat) : Int)) ∧ derefP la fun ad_12 => ∃ x_11 : Option Addr, g20.w.cell? (Addr.add ad_12 (Int.toNat (0 : Int) * 1)) = some (.pointer x_11) ∧ derefP x_11 fun ad_13 => ∃ xa_1 : Option Addr, ∃ xl_1 : Nat, ∃ xc_1 : Nat, g20.w.cell? (Addr.add ad_13 3) = some (.slice xa_1 xl_1 xc_1) ∧ ∃ M3 : Nat → Prop, (∀ b, b < g.w.heap.size → M3 b → M b) ∧ (CallsX Tryd.prog 66 #[(.pointer m), (.bool (ltI x1 ((xl_1 : Nat) : Int)))] g20 M3 (fun v g21 =>
  v = (.tuple ⟨[]⟩) ∧ J g21) (fun ch g22 => ∀ g23 : G, Ex g22 g23 → RP ch g23)))
  (∃ M4 : Nat → Prop, (∀ b, b < g.w.heap.size → M4 b → M b) ∧ (CallsX Tryd.prog 66 #[(.pointer m), (.bool false)] g20 M4 (fun v g24 =>
  v = (.tuple ⟨[]⟩) ∧ J g24) (fun ch g25 => ∀ g26 : G, Ex g25 g26 → RP ch g26))))
  (∀ J_1 : Bool → G → Prop,
  (∀ v_1 : Bool, ∀ g27 : G, (ifB v_1
  (∃ M6 : Nat → Prop, (∀ b, b < g.w.heap.size → M6 b → M b) ∧ (CallsX Tryd.prog 86 #[(.pointer m), (.slice la ll lc), (.int .i64 (2 : Int))] g27 M6 (fun v g28 =>
  v = (.tuple ⟨[]⟩) ∧ ∀ g29 : G, Ex g28 g29 →
  (0 ≤ (0 : Int) ∧ (0 : Int) < ((ll : Nat) : Int)) ∧ derefP la fun ad_14 => ∃ x_12 : Option Addr, g29.w.cell? (Addr.add ad_14 (Int.toNat (0 : Int) * 1)) = some (.pointer x_12) ∧ derefP x_12 fun ad_15 => ∃ x_13 : ByteArray, g29.w.cell? (Addr.add ad_15 2) = some (.string x_13) ∧ InI64 (((ll : Nat) : Int) - (1 : Int)) ∧ (0 ≤ (((ll : Nat) : Int) - (1 : Int)) ∧ (((ll : Nat) : Int) - (1 : Int)) < ((ll : Nat) : Int)) ∧ derefP la fun ad_16 => ∃ x_14 : Option Addr, g29.w.cell? (Addr.add ad_16 (Int.toNat (((ll : Nat) : Int) - (1 : Int)) * 1)) = some (.pointer x_14) ∧ derefP x_14 fun ad_17 => ∃ x_15 : ByteArray, g29.w.cell? (Addr.add ad_17 2) = some (.string x_15) ∧ ∃ M5 : Nat → Prop, (∀ b, b < g.w.heap.size → M5 b → M b) ∧ (CallsX Tryd.prog 87 #[(.pointer m), (.int .i64 x1), (.string x_13), (.string x_15)] g29 M5 (fun v g30 =>
  ∃ x_16 : Option Addr, v = (.pointer x_16) ∧ ∀ g31 : G, Ex g30 g31 →
  R (.pointer x_16) g31) (fun ch g32 => ∀ g33 : G, Ex g32 g33 → RP ch g33))) (fun ch g34 => ∀ g35 : G, Ex g34 g35 → RP ch g35)))
  (∃ M8 : Nat → Prop, (∀ b, b < g.w.heap.size → M8 b → M b) ∧ (CallsX Tryd.prog 86 #[(.pointer m), (.slice la ll lc), (.int .i64 (1 : Int))] g27 M8 (fun v g36 =>
  v = (.tuple ⟨[]⟩) ∧ ∀ g37 : G, Ex g36 g37 →
  (0 ≤ (0 : Int) ∧ (0 : Int) < ((ll : Nat) : Int)) ∧ derefP la fun ad_18 => ∃ x_17 : Option Addr, g37.w.cell? (Addr.add ad_18 (Int.toNat (0 : Int) * 1)) = some (.pointer x_17) ∧ derefP x_17 fun ad_19 => ∃ x_18 : Int, g37.w.cell? (Addr.add ad_19 1) = some (.int .i64 x_18) ∧ InI64 (((ll : Nat) : Int) - (1 : Int)) ∧ (0 ≤ (((ll : Nat) : Int) - (1 : Int)) ∧ (((ll : Nat) : Int) - (1 : Int)) < ((ll : Nat) : Int)) ∧ derefP la fun ad_20 => ∃ x_19 : Option Addr, g37.w.cell? (Addr.add ad_20 (Int.toNat (((ll : Nat) : Int) - (1 : Int)) * 1)) = some (.pointer x_19) ∧ derefP x_19 fun ad_21 => ∃ x_20 : Int, g37.w.cell? (Addr.add ad_21 1) = some (.int .i64 x_20) ∧ ∃ M7 : Nat → Prop, (∀ b, b < g.w.heap.size → M7 b → M b) ∧ (CallsX Tryd.prog 88 #[(.pointer m), (.int .i64 x1), (.int .i64 x_18), (.int .i64 x_20)] g37 M7 (fun v g38 =>
  ∃ x_21 : Option Addr, v = (.pointer x_21) ∧ ∀ g39 : G, Ex g38 g39 →
  R (.pointer x_21) g39) (fun ch g40 => ∀ g41 : G, Ex g40 g41 → RP ch g41))) (fun ch g42 => ∀ g43 : G, Ex g42 g43 → RP ch g43)))) → J_1 v_1 g27) →
  ifB (eqI x1 (10 : Int))
  (∀ g44 : G, Ex g g44 →
  J_1 true g44)
  (ifB (eqI x1 (11 : Int))
  (∀ g45 : G, Ex g g45 →
  J_1 true g45)
  (ifB (eqI x1 (12 : Int))
  (∀ g46 : G, Ex g g46 →
  J_1 true g46)
  (∀ g47 : G, Ex g g47 →
  J_1 (eqI x1 (14 : Int)) g47)))))))
theorem F67_eq (m : Option Addr) (x0 : Int) (x1 : Int) (x2 : ByteArray) (x3a : Option Addr) (x3l : Nat) (x3c : Nat) (la : Option Addr) (ll : Nat) (lc : Nat) (g : G) (M : Nat → Prop) (R : Value → G → Prop) (RP : List PanicEntry → G → Prop) : fnG (cfg67 RP) 135 [.tmp 6] c67 an67 [(.pointer m), (.agg ⟨[(.int .i64 x0), (.int .i64 x1), (.string x2), (.slice x3a x3l x3c)]⟩), (.slice la ll lc)] g M R = F67 m x0 x1 x2 x3a x3l x3c la ll lc g M R RP := by kernel_rfl
theorem call67 (m : Option Addr) (x0 : Int) (x1 : Int) (x2 : ByteArray) (x3a : Option Addr) (x3l : Nat) (x3c : Nat) (la : Option Addr) (ll : Nat) (lc : Nat) (g : G) (M : Nat → Prop) (R : Value → G → Prop) (RP : List PanicEntry → G → Prop) (hF : F67 m x0 x1 x2 x3a x3l x3c la ll lc g M R RP ) : CallsX Tryd.prog 67 #[(.pointer m), (.agg ⟨[(.int .i64 x0), (.int .i64 x1), (.string x2), (.slice x3a x3l x3c)]⟩), (.slice la ll lc)] g M R RP :=
  fn_soundX (c := (cfg67 RP)) TTok FNSok mixed (.inr rfl) Tryd.func67 (show Tryd.f67.body = some c67 by kernel_rfl) (show Tryd.f67.ntmps = 135 by kernel_rfl) (show Tryd.f67.results.toList = [.tmp 6] by kernel_rfl) rfl ((F67_eq m x0 x1 x2 x3a x3l x3c la ll lc g M R RP ).mpr hF)

/- 68 pilaster/pilasterref44.Arity -/
noncomputable def c68 : Code := match Tryd.f68.body with
  | some c => c
  | none => .skip
noncomputable def cfg68 : Cfg := ⟨Tryd.prog, TT, FNS, [], [], [], TCH, false, false, none, PNF, false⟩
def an68 : AnnG := (.seq .leaf (.seq (.seq .leaf (.blk (.join ⟨[(4, .bool)], [], []⟩ (.seq .leaf (.cond .leaf (.seq .leaf (.cond .leaf (.seq .leaf (.cond .leaf .leaf)))))) (.cond (.seq .leaf .leaf) (.join ⟨[(9, .bool)], [], []⟩ (.seq .leaf (.cond .leaf (.seq .leaf (.cond .leaf (.seq .leaf (.cond .leaf (.seq .leaf (.cond .leaf (.seq .leaf (.cond .leaf (.seq .leaf (.cond .leaf (.seq .leaf (.cond .leaf (.seq .leaf (.cond .leaf (.seq .leaf (.cond .leaf .leaf)))))))))))))))))) (.cond (.seq .leaf .leaf) .leaf)))))) (.seq .leaf .leaf)))
def F68 (n : Int) (g : G) (R : Value → G → Prop) : Prop :=
  ∀ J : Bool → G → Prop,
  (∀ v_1 : Bool, ∀ g1 : G, (ifB v_1
  (∀ g2 : G, Ex g1 g2 →
  R (.int .i64 (1 : Int)) g2)
  (∀ J_1 : Bool → G → Prop,
  (∀ v_2 : Bool, ∀ g3 : G, (ifB v_2
  (∀ g4 : G, Ex g3 g4 →
  R (.int .i64 (2 : Int)) g4)
  (∀ g5 : G, Ex g3 g5 →
  R (.int .i64 (0 : Int)) g5)) → J_1 v_2 g3) →
  ifB (eqI n (1 : Int))
  (J_1 true g1)
  (ifB (eqI n (2 : Int))
  (J_1 true g1)
  (ifB (eqI n (3 : Int))
  (J_1 true g1)
  (ifB (eqI n (4 : Int))
  (J_1 true g1)
  (ifB (eqI n (5 : Int))
  (J_1 true g1)
  (ifB (eqI n (7 : Int))
  (J_1 true g1)
  (ifB (eqI n (8 : Int))
  (J_1 true g1)
  (ifB (eqI n (9 : Int))
  (J_1 true g1)
  (ifB (eqI n (10 : Int))
  (J_1 true g1)
  (J_1 (eqI n (12 : Int)) g1))))))))))) → J v_1 g1) →
  ifB (eqI n (6 : Int))
  (J true g)
  (ifB (eqI n (11 : Int))
  (J true g)
  (ifB (eqI n (13 : Int))
  (J true g)
  (J (eqI n (14 : Int)) g)))
theorem F68_eq (n : Int) (g : G) (R : Value → G → Prop) : fnG cfg68 20 [.tmp 2] c68 an68 [(.int .i64 n)] g nobody R = F68 n g R := by kernel_rfl
theorem call68 (n : Int) (g : G) (R : Value → G → Prop) (hF : F68 n g R) : CallsG Tryd.prog 68 #[(.int .i64 n)] g nobody R :=
  fn_soundG (c := cfg68) TTok FNSok mixed Tryd.func68 (show Tryd.f68.body = some c68 by kernel_rfl) (show Tryd.f68.ntmps = 20 by kernel_rfl) (show Tryd.f68.results.toList = [.tmp 2] by kernel_rfl) rfl ((F68_eq n g R ).mpr hF)

/- 69 pilaster/pilasterref44.number -/
noncomputable def c69 : Code := match Tryd.f69.body with
  | some c => c
  | none => .skip
noncomputable def cfg69 : Cfg := ⟨Tryd.prog, TT, FNS, [3, 4, 5], [(3, 3), (4, 4), (5, 5)], [], TCH, false, false, none, PNF, false⟩
def an69 : AnnG := (.seq .leaf (.seq (.seq .leaf (.cond (.seq .leaf .leaf) .leaf)) (.seq (.treeP false [4, 5] 4 (.quiet 0 (.quiet 2 (.eff 1 (.eff 3 .fin .fin) .fin)))) .leaf)))
def F69 (n : Int) (s0 : Int) (s1 : Int) (s2a : Option Addr) (s2l : Nat) (s2c : Nat) (s3 : Int) (s4 : Int) (g : G) (R : Value → G → Prop) : Prop :=
  ifB (ltI (4503599627370496 : Int) n)
  (∀ g1 : G, Ex g g1 →
  (CallsP Tryd.prog 52 #[(.agg ⟨[(.int .i64 s0), (.int .i64 s1), (.slice s2a s2l s2c), (.int .i64 s3), (.int .i64 s4)]⟩), (.int .i64 (2 : Int)), (.int .i64 (2 : Int))] g1 fun v g2 =>
  ∃ x00 : Int, ∃ x01 : Int, ∃ x02 : ByteArray, ∃ x03a : Option Addr, ∃ x03l : Nat, ∃ x03c : Nat, ∃ x04 : Int, ∃ x05 : Int, ∃ x06 : ByteArray, ∃ x07a : Option Addr, ∃ x07l : Nat, ∃ x07c : Nat, ∃ x08a : Option Addr, ∃ x08l : Nat, ∃ x08c : Nat, ∃ x09 : Bool, ∃ x10 : Int, ∃ x11 : Int, ∃ x12a : Option Addr, ∃ x12l : Nat, ∃ x12c : Nat, ∃ x13 : Int, ∃ x14 : Int, v = (.tuple ⟨[(.agg ⟨[(.int .i64 x00), (.int .i64 x01), (.string x02), (.slice x03a x03l x03c), (.int .i64 x04), (.int .i64 x05), (.string x06), (.slice x07a x07l x07c), (.slice x08a x08l x08c), (.bool x09)]⟩), (.agg ⟨[(.int .i64 x10), (.int .i64 x11), (.slice x12a x12l x12c), (.int .i64 x13), (.int .i64 x14)]⟩)]⟩) ∧ ∀ g3 : G, Ex g2 g3 →
  R (.tuple ⟨[(.agg ⟨[(.int .i64 x00), (.int .i64 x01), (.string x02), (.slice x03a x03l x03c), (.int .i64 x04), (.int .i64 x05), (.string x06), (.slice x07a x07l x07c), (.slice x08a x08l x08c), (.bool x09)]⟩), (.agg ⟨[(.int .i64 x10), (.int .i64 x11), (.slice x12a x12l x12c), (.int .i64 x13), (.int .i64 x14)]⟩)]⟩) g3))
  (ifB (ltI n (-4503599627370496 : Int))
  (∀ g4 : G, Ex g g4 →
  (CallsP Tryd.prog 52 #[(.agg ⟨[(.int .i64 s0), (.int .i64 s1), (.slice s2a s2l s2c), (.int .i64 s3), (.int .i64 s4)]⟩), (.int .i64 (2 : Int)), (.int .i64 (2 : Int))] g4 fun v g5 =>
  ∃ x00_1 : Int, ∃ x01_1 : Int, ∃ x02_1 : ByteArray, ∃ x03a_1 : Option Addr, ∃ x03l_1 : Nat, ∃ x03c_1 : Nat, ∃ x04_1 : Int, ∃ x05_1 : Int, ∃ x06_1 : ByteArray, ∃ x07a_1 : Option Addr, ∃ x07l_1 : Nat, ∃ x07c_1 : Nat, ∃ x08a_1 : Option Addr, ∃ x08l_1 : Nat, ∃ x08c_1 : Nat, ∃ x09_1 : Bool, ∃ x10_1 : Int, ∃ x11_1 : Int, ∃ x12a_1 : Option Addr, ∃ x12l_1 : Nat, ∃ x12c_1 : Nat, ∃ x13_1 : Int, ∃ x14_1 : Int, v = (.tuple ⟨[(.agg ⟨[(.int .i64 x00_1), (.int .i64 x01_1), (.string x02_1), (.slice x03a_1 x03l_1 x03c_1), (.int .i64 x04_1), (.int .i64 x05_1), (.string x06_1), (.slice x07a_1 x07l_1 x07c_1), (.slice x08a_1 x08l_1 x08c_1), (.bool x09_1)]⟩), (.agg ⟨[(.int .i64 x10_1), (.int .i64 x11_1), (.slice x12a_1 x12l_1 x12c_1), (.int .i64 x13_1), (.int .i64 x14_1)]⟩)]⟩) ∧ ∀ g6 : G, Ex g5 g6 →
  R (.tuple ⟨[(.agg ⟨[(.int .i64 x00_1), (.int .i64 x01_1), (.string x02_1), (.slice x03a_1 x03l_1 x03c_1), (.int .i64 x04_1), (.int .i64 x05_1), (.string x06_1), (.slice x07a_1 x07l_1 x07c_1), (.slice x08a_1 x08l_1 x08c_1), (.bool x09_1)]⟩), (.agg ⟨[(.int .i64 x10_1), (.int .i64 x11_1), (.slice x12a_1 x12l_1 x12c_1), (.int .i64 x13_1), (.int .i64 x14_1)]⟩)]⟩) g6))
  (∀ g7 : G, Ex g g7 →
  ∀ g8 : G, Ex g7 g8 →
  ∀ g9 : G, Ex g8 g9 →
  R (.tuple ⟨[(.agg ⟨[(.int .i64 (1 : Int)), (.int .i64 n), (.string (bs [])), (.slice none 0 0), (.int .i64 (0 : Int)), (.int .i64 (0 : Int)), (.string (bs [])), (.slice none 0 0), (.slice none 0 0), (.bool false)]⟩), (.agg ⟨[(.int .i64 s0), (.int .i64 s1), (.slice s2a s2l s2c), (.int .i64 s3), (.int .i64 s4)]⟩)]⟩) g9))
theorem F69_eq (n : Int) (s0 : Int) (s1 : Int) (s2a : Option Addr) (s2l : Nat) (s2c : Nat) (s3 : Int) (s4 : Int) (g : G) (R : Value → G → Prop) : fnG cfg69 19 [.cell 4 63, .cell 5 65] c69 an69 [(.int .i64 n), (.agg ⟨[(.int .i64 s0), (.int .i64 s1), (.slice s2a s2l s2c), (.int .i64 s3), (.int .i64 s4)]⟩)] g nobody R = F69 n s0 s1 s2a s2l s2c s3 s4 g R := by kernel_rfl
theorem call69 (n : Int) (s0 : Int) (s1 : Int) (s2a : Option Addr) (s2l : Nat) (s2c : Nat) (s3 : Int) (s4 : Int) (g : G) (R : Value → G → Prop) (hF : F69 n s0 s1 s2a s2l s2c s3 s4 g R) : CallsG Tryd.prog 69 #[(.int .i64 n), (.agg ⟨[(.int .i64 s0), (.int .i64 s1), (.slice s2a s2l s2c), (.int .i64 s3), (.int .i64 s4)]⟩)] g nobody R :=
  fn_soundG (c := cfg69) TTok FNSok mixed Tryd.func69 (show Tryd.f69.body = some c69 by kernel_rfl) (show Tryd.f69.ntmps = 19 by kernel_rfl) (show Tryd.f69.results.toList = [.cell 4 63, .cell 5 65] by kernel_rfl) rfl ((F69_eq n s0 s1 s2a s2l s2c s3 s4 g R ).mpr hF)

/- 70 pilaster/pilasterref44.magnitude -/
noncomputable def c70 : Code := match Tryd.f70.body with
  | some c => c
  | none => .skip
noncomputable def cfg70 : Cfg := ⟨Tryd.prog, TT, FNS, [], [], [], TCH, false, false, none, PNF, false⟩
def an70 : AnnG := (.seq .leaf (.seq (.seq .leaf (.cond (.seq .leaf .leaf) .leaf)) (.seq .leaf .leaf)))
def F70 (n : Int) (g : G) (R : Value → G → Prop) : Prop :=
  ifB (ltI n (0 : Int))
  (InI64 ((0 : Int) - n) ∧ ∀ g1 : G, Ex g g1 →
  R (.int .i64 ((0 : Int) - n)) g1)
  (∀ g2 : G, Ex g g2 →
  R (.int .i64 n) g2)
theorem F70_eq (n : Int) (g : G) (R : Value → G → Prop) : fnG cfg70 8 [.tmp 2] c70 an70 [(.int .i64 n)] g nobody R = F70 n g R := by kernel_rfl
theorem call70 (n : Int) (g : G) (R : Value → G → Prop) (hF : F70 n g R) : CallsG Tryd.prog 70 #[(.int .i64 n)] g nobody R :=
  fn_soundG (c := cfg70) TTok FNSok mixed Tryd.func70 (show Tryd.f70.body = some c70 by kernel_rfl) (show Tryd.f70.ntmps = 8 by kernel_rfl) (show Tryd.f70.results.toList = [.tmp 2] by kernel_rfl) rfl ((F70_eq n g R ).mpr hF)

/- 71 pilaster/pilasterref44.truth -/
noncomputable def c71 : Code := match Tryd.f71.body with
  | some c => c
  | none => .skip
noncomputable def cfg71 : Cfg := ⟨Tryd.prog, TT, FNS, [2], [(2, 2)], [], TCH, false, false, none, PNF, false⟩
def an71 : AnnG := (.seq .leaf (.seq .leaf (.seq (.seq .leaf (.cond .leaf .leaf)) (.seq .leaf .leaf))))
def F71 (b : Bool) (g : G) (R : Value → G → Prop) : Prop :=
  ifB b
  (∀ g1 : G, Ex g g1 →
  ∀ g2 : G, NewL g1 g2 63 [(.int .i64 (3 : Int)), (.int .i64 (0 : Int)), (.string (bs [])), (.slice none 0 0), (.int .i64 (0 : Int)), (.int .i64 (0 : Int)), (.string (bs [])), (.slice none 0 0), (.slice none 0 0), (.bool false)] →
  ∀ g3 : G, Ex g2 g3 →
  R (.agg ⟨[(.int .i64 (4 : Int)), (.int .i64 (1 : Int)), (.string (bs [])), (.slice (some ⟨g1.w.heap.size, 0, none⟩) 1 1), (.int .i64 (0 : Int)), (.int .i64 (0 : Int)), (.string (bs [])), (.slice none 0 0), (.slice none 0 0), (.bool false)]⟩) g3)
  (∀ g4 : G, Ex g g4 →
  ∀ g5 : G, NewL g4 g5 63 [(.int .i64 (3 : Int)), (.int .i64 (0 : Int)), (.string (bs [])), (.slice none 0 0), (.int .i64 (0 : Int)), (.int .i64 (0 : Int)), (.string (bs [])), (.slice none 0 0), (.slice none 0 0), (.bool false)] →
  ∀ g6 : G, Ex g5 g6 →
  R (.agg ⟨[(.int .i64 (4 : Int)), (.int .i64 (0 : Int)), (.string (bs [])), (.slice (some ⟨g4.w.heap.size, 0, none⟩) 1 1), (.int .i64 (0 : Int)), (.int .i64 (0 : Int)), (.string (bs [])), (.slice none 0 0), (.slice none 0 0), (.bool false)]⟩) g6)
theorem F71_eq (b : Bool) (g : G) (R : Value → G → Prop) : fnG cfg71 9 [.cell 2 63] c71 an71 [(.bool b)] g nobody R = F71 b g R := by kernel_rfl
theorem call71 (b : Bool) (g : G) (R : Value → G → Prop) (hF : F71 b g R) : CallsG Tryd.prog 71 #[(.bool b)] g nobody R :=
  fn_soundG (c := cfg71) TTok FNSok mixed Tryd.func71 (show Tryd.f71.body = some c71 by kernel_rfl) (show Tryd.f71.ntmps = 9 by kernel_rfl) (show Tryd.f71.results.toList = [.cell 2 63] by kernel_rfl) rfl ((F71_eq b g R ).mpr hF)

/- 72 pilaster/pilasterref44.Show -/
noncomputable def c72 : Code := match Tryd.f72.body with
  | some c => c
  | none => .skip
noncomputable def cfg72 : Cfg := ⟨Tryd.prog, TT, FNS, [], [], [], TCH, false, false, none, PNF, false⟩
def an72 : AnnG := (.seq .leaf (.seq (.seq .leaf (.cond (.seq .leaf .leaf) .leaf)) (.seq (.seq .leaf (.cond (.seq .leaf .leaf) .leaf)) (.seq .leaf .leaf))))
def F72 (n : Int) (g : G) (R : Value → G → Prop) : Prop :=
  ifB (ltI n (0 : Int))
  (InI64 ((0 : Int) - n) ∧ (CallsP Tryd.prog 72 #[(.int .i64 ((0 : Int) - n))] g fun v g1 =>
  ∃ x : ByteArray, v = (.string x) ∧ (bs [45]).size + x.size ≤ 9223372036854775807 ∧ ∀ g2 : G, Ex g1 g2 →
  R (.string ((bs [45]) ++ x)) g2))
  (ifB (ltI n (10 : Int))
  (InI64 (n + (1 : Int)) ∧ (0 ≤ (n + (1 : Int)) ∧ (n + (1 : Int)) ≤ (((bs [48, 49, 50, 51, 52, 53, 54, 55, 56, 57]).size : Nat) : Int)) ∧ (0 ≤ n ∧ n ≤ (((Int.toNat (n + (1 : Int))) : Nat) : Int)) ∧ ∀ g3 : G, Ex g g3 →
  R (.string (ByteArray.extract (bs [48, 49, 50, 51, 52, 53, 54, 55, 56, 57]) (Int.toNat n) (Int.toNat (n + (1 : Int))))) g3)
  ((10 : Int) ≠ 0 ∧ InI64 (Int.tdiv n (10 : Int)) ∧ (CallsP Tryd.prog 72 #[(.int .i64 (Int.tdiv n (10 : Int)))] g fun v g4 =>
  ∃ x_1 : ByteArray, v = (.string x_1) ∧ (10 : Int) ≠ 0 ∧ (CallsP Tryd.prog 72 #[(.int .i64 (Int.tmod n (10 : Int)))] g4 fun v g5 =>
  ∃ x_2 : ByteArray, v = (.string x_2) ∧ x_1.size + x_2.size ≤ 9223372036854775807 ∧ ∀ g6 : G, Ex g5 g6 →
  R (.string (x_1 ++ x_2)) g6))))
theorem F72_eq (n : Int) (g : G) (R : Value → G → Prop) : fnG cfg72 22 [.tmp 2] c72 an72 [(.int .i64 n)] g nobody R = F72 n g R := by kernel_rfl
theorem call72 (n : Int) (g : G) (R : Value → G → Prop) (hF : F72 n g R) : CallsG Tryd.prog 72 #[(.int .i64 n)] g nobody R :=
  fn_soundG (c := cfg72) TTok FNSok mixed Tryd.func72 (show Tryd.f72.body = some c72 by kernel_rfl) (show Tryd.f72.ntmps = 22 by kernel_rfl) (show Tryd.f72.results.toList = [.tmp 2] by kernel_rfl) rfl ((F72_eq n g R ).mpr hF)

/- 73 pilaster/lambda.in -/
noncomputable def c73 : Code := match Tryd.f73.body with
  | some c => c
  | none => .skip
noncomputable def cfg73 : Cfg := ⟨Tryd.prog, TT, FNS, [], [], [], TCH, false, false, none, PNF, false⟩
def an73 : AnnG := (.seq .leaf (.seq .leaf .leaf))
def F73 (n : Int) (low : Int) (high : Int) (g : G) (R : Value → G → Prop) : Prop :=
  ifB (leI low n)
  (∀ g1 : G, Ex g g1 →
  R (.bool (leI n high)) g1)
  (∀ g2 : G, Ex g g2 →
  R (.bool false) g2)
theorem F73_eq (n : Int) (low : Int) (high : Int) (g : G) (R : Value → G → Prop) : fnG cfg73 15 [.tmp 6] c73 an73 [(.int .i64 n), (.int .i64 low), (.int .i64 high)] g nobody R = F73 n low high g R := by kernel_rfl
theorem call73 (n : Int) (low : Int) (high : Int) (g : G) (R : Value → G → Prop) (hF : F73 n low high g R) : CallsG Tryd.prog 73 #[(.int .i64 n), (.int .i64 low), (.int .i64 high)] g nobody R :=
  fn_soundG (c := cfg73) TTok FNSok mixed Tryd.func73 (show Tryd.f73.body = some c73 by kernel_rfl) (show Tryd.f73.ntmps = 15 by kernel_rfl) (show Tryd.f73.results.toList = [.tmp 6] by kernel_rfl) rfl ((F73_eq n low high g R ).mpr hF)

/- 74 pilaster/lambda.arity -/
noncomputable def c74 : Code := match Tryd.f74.body with
  | some c => c
  | none => .skip
noncomputable def cfg74 : Cfg := ⟨Tryd.prog, TT, FNS, [], [], [], TCH, false, false, none, PNF, false⟩
def an74 : AnnG := (.seq .leaf (.seq (.seq .leaf (.blk (.seq (.seq .leaf (.cond .leaf (.seq .leaf (.cond .leaf (.seq .leaf (.cond .leaf .leaf)))))) (.cond (.seq .leaf .leaf) .leaf)))) (.seq .leaf .leaf)))
def F74 (n : Int) (g : G) (R : Value → G → Prop) : Prop :=
  ifB (eqI n (6 : Int))
  (∀ g1 : G, Ex g g1 →
  R (.int .i64 (1 : Int)) g1)
  (ifB (eqI n (11 : Int))
  (∀ g2 : G, Ex g g2 →
  R (.int .i64 (1 : Int)) g2)
  (ifB (eqI n (13 : Int))
  (∀ g3 : G, Ex g g3 →
  R (.int .i64 (1 : Int)) g3)
  (ifB (eqI n (14 : Int))
  (∀ g4 : G, Ex g g4 →
  R (.int .i64 (1 : Int)) g4)
  (∀ g5 : G, Ex g g5 →
  R (.int .i64 (2 : Int)) g5))))
theorem F74_eq (n : Int) (g : G) (R : Value → G → Prop) : fnG cfg74 9 [.tmp 2] c74 an74 [(.int .i64 n)] g nobody R = F74 n g R := by kernel_rfl
theorem call74 (n : Int) (g : G) (R : Value → G → Prop) (hF : F74 n g R) : CallsG Tryd.prog 74 #[(.int .i64 n)] g nobody R :=
  fn_soundG (c := cfg74) TTok FNSok mixed Tryd.func74 (show Tryd.f74.body = some c74 by kernel_rfl) (show Tryd.f74.ntmps = 9 by kernel_rfl) (show Tryd.f74.results.toList = [.tmp 2] by kernel_rfl) rfl ((F74_eq n g R ).mpr hF)

/- 85 slices.IndexFunc[[]pilaster/api.Exp,pilaster/api.Exp] -/
/- 86 (*pilaster/lambda.machine).operands -/
noncomputable def c86 : Code := match Tryd.f86.body with
  | some c => c
  | none => .skip
noncomputable def cfg86 (RP : List PanicEntry → G → Prop) : Cfg := ⟨Tryd.prog, TT, FNS, [], [], [], TCH, false, false, some RP, PNF, false⟩
def an86 : AnnG := (.seq .leaf (.blk (.loop ⟨[(10, .int .i64)], [], []⟩ (.seq .leaf (.seq (.cond .leaf .leaf) (.seq (.blk (.seq .leaf .leaf)) .leaf))))))
def F86 (m : Option Addr) (la : Option Addr) (ll : Nat) (lc : Nat) (op : Int) (g : G) (M : Nat → Prop) (R : Value → G → Prop) (RP : List PanicEntry → G → Prop) : Prop :=
  ∃ Inv : Nat → Int → G → Prop, ((∃ m0 : Nat, Inv m0 (0 : Int) g)) ∧
  ∀ m_1 : Nat, ∀ v_1 : Int, ∀ g1 : G, Le g g1 → Inv m_1 v_1 g1 →
  ifB (ltI v_1 ((ll : Nat) : Int))
  ((0 ≤ v_1 ∧ v_1 < ((ll : Nat) : Int)) ∧ derefP la fun ad => ∃ v_2 : Option Addr, g1.w.cell? (Addr.add ad (Int.toNat v_1 * 1)) = some (.pointer v_2) ∧ derefP v_2 fun ad_1 => ∃ x : Int, g1.w.cell? ad_1 = some (.int .i64 x) ∧ ∃ M1 : Nat → Prop, (∀ b, b < g.w.heap.size → M1 b → M b) ∧ (CallsX Tryd.prog 66 #[(.pointer m), (.bool (eqI x op))] g1 M1 (fun v g2 =>
  v = (.tuple ⟨[]⟩) ∧ InI64 (v_1 + (1 : Int)) ∧ (∃ m_2 : Nat, m_2 < m_1 ∧ Inv m_2 (v_1 + (1 : Int)) g2)) (fun ch g3 => ∀ g4 : G, Ex g3 g4 → RP ch g4)))
  (∀ g5 : G, Ex g1 g5 →
  R (.tuple ⟨[]⟩) g5)
theorem F86_eq (m : Option Addr) (la : Option Addr) (ll : Nat) (lc : Nat) (op : Int) (g : G) (M : Nat → Prop) (R : Value → G → Prop) (RP : List PanicEntry → G → Prop) : fnG (cfg86 RP) 23 [] c86 an86 [(.pointer m), (.slice la ll lc), (.int .i64 op)] g M R = F86 m la ll lc op g M R RP := by kernel_rfl
theorem call86 (m : Option Addr) (la : Option Addr) (ll : Nat) (lc : Nat) (op : Int) (g : G) (M : Nat → Prop) (R : Value → G → Prop) (RP : List PanicEntry → G → Prop) (hF : F86 m la ll lc op g M R RP ) : CallsX Tryd.prog 86 #[(.pointer m), (.slice la ll lc), (.int .i64 op)] g M R RP :=
  fn_soundX (c := (cfg86 RP)) TTok FNSok mixed (.inr rfl) Tryd.func86 (show Tryd.f86.body = some c86 by kernel_rfl) (show Tryd.f86.ntmps = 23 by kernel_rfl) (show Tryd.f86.results.toList = [] by kernel_rfl) rfl ((F86_eq m la ll lc op g M R RP ).mpr hF)

/- 87 (*pilaster/lambda.machine).texts -/
noncomputable def c87 : Code := match Tryd.f87.body with
  | some c => c
  | none => .skip
noncomputable def cfg87 (RP : List PanicEntry → G → Prop) : Cfg := ⟨Tryd.prog, TT, FNS, [], [], [36], TCH, false, false, some RP, PNF, false⟩
def an87 : AnnG := (.seq .leaf (.seq (.seq .leaf (.blk (.seq .leaf (.cond (.seq .leaf .leaf) (.seq .leaf (.cond (.seq .leaf .leaf) (.seq .leaf (.cond (.seq (.seq .leaf (.cond .leaf .leaf)) (.seq .leaf .leaf)) .leaf)))))))) (.join ⟨[], [], []⟩ (.seq .leaf (.cond .leaf .leaf)) (.seq .leaf (.seq .leaf .leaf)))))
def F87 (m : Option Addr) (op : Int) (a : ByteArray) (b : ByteArray) (g : G) (M : Nat → Prop) (R : Value → G → Prop) (RP : List PanicEntry → G → Prop) : Prop :=
  ifB (eqI op (11 : Int))
  (∃ M1 : Nat → Prop, (∀ b, b < g.w.heap.size → M1 b → M b) ∧ (CallsX Tryd.prog 94 #[(.pointer m), (.int .i64 ((a.size : Nat) : Int))] g M1 (fun v g1 =>
  ∃ x : Option Addr, v = (.pointer x) ∧ ∀ g2 : G, Ex g1 g2 →
  R (.pointer x) g2) (fun ch g3 => ∀ g4 : G, Ex g3 g4 → RP ch g4)))
  (ifB (eqI op (12 : Int))
  ((CallsP Tryd.prog 95 #[(.bool (strEq a b))] g fun v g5 =>
  ∃ x_1 : Option Addr, v = (.pointer x_1) ∧ ∀ g6 : G, Ex g5 g6 →
  R (.pointer x_1) g6))
  (ifB (eqI op (10 : Int))
  (InI64 (((a.size : Nat) : Int) + ((b.size : Nat) : Int)) ∧ ifB (ltI (16384 : Int) (((a.size : Nat) : Int) + ((b.size : Nat) : Int)))
  (∃ M2 : Nat → Prop, (∀ b, b < g.w.heap.size → M2 b → M b) ∧ (CallsX Tryd.prog 64 #[(.pointer m), (.int .i64 (2 : Int)), (.int .i64 (2 : Int))] g M2 (fun v g7 =>
  v = (.tuple ⟨[]⟩) ∧ a.size + b.size ≤ 9223372036854775807 ∧ ∀ g8 : G, NewL g7 g8 100 ([(.int .i64 (2 : Int)), (.int .i64 (0 : Int)), (.string (a ++ b)), (.slice none 0 0), (.int .i64 (0 : Int)), (.int .i64 (0 : Int)), (.string (bs [])), (.slice none 0 0), (.pointer none)] : List Value) →
  ∀ g9 : G, Ex g8 g9 →
  R (.pointer (some ⟨g7.w.heap.size, 0, none⟩)) g9) (fun ch g10 => ∀ g11 : G, Ex g10 g11 → RP ch g11)))
  (a.size + b.size ≤ 9223372036854775807 ∧ ∀ g12 : G, NewL g g12 100 ([(.int .i64 (2 : Int)), (.int .i64 (0 : Int)), (.string (a ++ b)), (.slice none 0 0), (.int .i64 (0 : Int)), (.int .i64 (0 : Int)), (.string (bs [])), (.slice none 0 0), (.pointer none)] : List Value) →
  ∀ g13 : G, Ex g12 g13 →
  R (.pointer (some ⟨g.w.heap.size, 0, none⟩)) g13))
  (∀ J : G → Prop,
  (∀ g14 : G, (derefP m fun ad => ∃ xa : Option Addr, ∃ xl : Nat, ∃ xc : Nat, g14.w.cell? (Addr.add ad 2) = some (.slice xa xl xc) ∧ ∀ g15 : G, NewL g14 g15 9 [(.string a)] →
  ∃ xa_1 : Option Addr, ∃ xl_1 : Nat, ∃ xc_1 : Nat, ∃ wo1 : World, Sem.run Tryd.prog (Builtin.append_ #[27, 27] 27 #[(.slice xa xl xc), (.slice (some ⟨g14.w.heap.size, 0, none⟩) 1 1)]) g15.w = .ok (.slice xa_1 xl_1 xc_1) wo1 ∧ ∃ g16 : G, g16.w = wo1 ∧ Stp g.w.heap.size M g15 g16 ∧ derefP m fun ad_1 => stOk g16.w (Addr.add ad_1 2) 1 ∧ ¬ g16.X (Addr.block (Addr.add ad_1 2)) ∧ mutAt g16 (Addr.add ad_1 2) 1 ∧ ((Addr.block (Addr.add ad_1 2)) < g.w.heap.size → M (Addr.block (Addr.add ad_1 2))) ∧ ∀ g17 : G, StG false g16 (Addr.add ad_1 2) [(.slice xa_1 xl_1 xc_1)] g17 →
  (CallsP Tryd.prog 96 #[] g17 fun v g18 =>
  ∃ x_2 : Option Addr, v = (.pointer x_2) ∧ ∀ g19 : G, Ex g18 g19 →
  R (.pointer x_2) g19)) → J g14) →
  derefP m fun ad_2 => ∃ xa_2 : Option Addr, ∃ xl_2 : Nat, ∃ xc_2 : Nat, g.w.cell? (Addr.add ad_2 2) = some (.slice xa_2 xl_2 xc_2) ∧ ifB (leI (1000 : Int) ((xl_2 : Nat) : Int))
  (∃ M3 : Nat → Prop, (∀ b, b < g.w.heap.size → M3 b → M b) ∧ (CallsX Tryd.prog 64 #[(.pointer m), (.int .i64 (2 : Int)), (.int .i64 (2 : Int))] g M3 (fun v g20 =>
  v = (.tuple ⟨[]⟩) ∧ J g20) (fun ch g21 => ∀ g22 : G, Ex g21 g22 → RP ch g22)))
  (J g))))
theorem F87_eq (m : Option Addr) (op : Int) (a : ByteArray) (b : ByteArray) (g : G) (M : Nat → Prop) (R : Value → G → Prop) (RP : List PanicEntry → G → Prop) : fnG (cfg87 RP) 56 [.tmp 8] c87 an87 [(.pointer m), (.int .i64 op), (.string a), (.string b)] g M R = F87 m op a b g M R RP := by kernel_rfl
theorem call87 (m : Option Addr) (op : Int) (a : ByteArray) (b : ByteArray) (g : G) (M : Nat → Prop) (R : Value → G → Prop) (RP : List PanicEntry → G → Prop) (hF : F87 m op a b g M R RP ) : CallsX Tryd.prog 87 #[(.pointer m), (.int .i64 op), (.string a), (.string b)] g M R RP :=
  fn_soundX (c := (cfg87 RP)) TTok FNSok mixed (.inr rfl) Tryd.func87 (show Tryd.f87.body = some c87 by kernel_rfl) (show Tryd.f87.ntmps = 56 by kernel_rfl) (show Tryd.f87.results.toList = [.tmp 8] by kernel_rfl) rfl ((F87_eq m op a b g M R RP ).mpr hF)

/- 88 (*pilaster/lambda.machine).numbers -/
noncomputable def c88 : Code := match Tryd.f88.body with
  | some c => c
  | none => .skip
noncomputable def cfg88 (RP : List PanicEntry → G → Prop) : Cfg := ⟨Tryd.prog, TT, FNS, [], [], [59], TCH, false, false, some RP, PNF, false⟩
def an88 : AnnG := (.seq .leaf (.seq (.seq .leaf (.blk (.seq .leaf (.cond (.seq .leaf .leaf) (.seq .leaf (.cond (.seq .leaf .leaf) (.seq .leaf (.cond (.seq .leaf .leaf) (.seq .leaf (.cond (.seq .leaf .leaf) (.seq .leaf (.cond (.seq .leaf .leaf) (.seq .leaf (.cond (.seq .leaf .leaf) (.seq .leaf (.cond (.seq .leaf .leaf) (.seq .leaf (.cond (.seq .leaf .leaf) .leaf)))))))))))))))))) (.join ⟨[], [], []⟩ (.seq .leaf (.cond .leaf .leaf)) (.seq (.seq .leaf (.cond (.seq .leaf .leaf) .leaf)) (.seq .leaf .leaf)))))
def F88 (m : Option Addr) (op : Int) (a : Int) (b : Int) (g : G) (M : Nat → Prop) (R : Value → G → Prop) (RP : List PanicEntry → G → Prop) : Prop :=
  ifB (eqI op (1 : Int))
  (InI64 (a + b) ∧ ∃ M1 : Nat → Prop, (∀ b, b < g.w.heap.size → M1 b → M b) ∧ (CallsX Tryd.prog 94 #[(.pointer m), (.int .i64 (a + b))] g M1 (fun v g1 =>
  ∃ x : Option Addr, v = (.pointer x) ∧ ∀ g2 : G, Ex g1 g2 →
  R (.pointer x) g2) (fun ch g3 => ∀ g4 : G, Ex g3 g4 → RP ch g4)))
  (ifB (eqI op (2 : Int))
  (InI64 (a - b) ∧ ∃ M2 : Nat → Prop, (∀ b, b < g.w.heap.size → M2 b → M b) ∧ (CallsX Tryd.prog 94 #[(.pointer m), (.int .i64 (a - b))] g M2 (fun v g5 =>
  ∃ x_1 : Option Addr, v = (.pointer x_1) ∧ ∀ g6 : G, Ex g5 g6 →
  R (.pointer x_1) g6) (fun ch g7 => ∀ g8 : G, Ex g7 g8 → RP ch g8)))
  (ifB (eqI op (3 : Int))
  (∃ M3 : Nat → Prop, (∀ b, b < g.w.heap.size → M3 b → M b) ∧ (CallsX Tryd.prog 97 #[(.pointer m), (.int .i64 a), (.int .i64 b)] g M3 (fun v g9 =>
  ∃ x_2 : Option Addr, v = (.pointer x_2) ∧ ∀ g10 : G, Ex g9 g10 →
  R (.pointer x_2) g10) (fun ch g11 => ∀ g12 : G, Ex g11 g12 → RP ch g12)))
  (ifB (eqI op (6 : Int))
  (InI64 ((0 : Int) - a) ∧ ∃ M4 : Nat → Prop, (∀ b, b < g.w.heap.size → M4 b → M b) ∧ (CallsX Tryd.prog 94 #[(.pointer m), (.int .i64 ((0 : Int) - a))] g M4 (fun v g13 =>
  ∃ x_3 : Option Addr, v = (.pointer x_3) ∧ ∀ g14 : G, Ex g13 g14 →
  R (.pointer x_3) g14) (fun ch g15 => ∀ g16 : G, Ex g15 g16 → RP ch g16)))
  (ifB (eqI op (7 : Int))
  ((CallsP Tryd.prog 95 #[(.bool (ltI a b))] g fun v g17 =>
  ∃ x_4 : Option Addr, v = (.pointer x_4) ∧ ∀ g18 : G, Ex g17 g18 →
  R (.pointer x_4) g18))
  (ifB (eqI op (8 : Int))
  ((CallsP Tryd.prog 95 #[(.bool (leI a b))] g fun v g19 =>
  ∃ x_5 : Option Addr, v = (.pointer x_5) ∧ ∀ g20 : G, Ex g19 g20 →
  R (.pointer x_5) g20))
  (ifB (eqI op (9 : Int))
  ((CallsP Tryd.prog 95 #[(.bool (eqI a b))] g fun v g21 =>
  ∃ x_6 : Option Addr, v = (.pointer x_6) ∧ ∀ g22 : G, Ex g21 g22 →
  R (.pointer x_6) g22))
  (ifB (eqI op (13 : Int))
  ((CallsP Tryd.prog 98 #[(.int .i64 a)] g fun v g23 =>
  ∃ x_7 : ByteArray, v = (.string x_7) ∧ ∀ g24 : G, NewL g23 g24 100 ([(.int .i64 (2 : Int)), (.int .i64 (0 : Int)), (.string x_7), (.slice none 0 0), (.int .i64 (0 : Int)), (.int .i64 (0 : Int)), (.string (bs [])), (.slice none 0 0), (.pointer none)] : List Value) →
  ∀ g25 : G, Ex g24 g25 →
  R (.pointer (some ⟨g23.w.heap.size, 0, none⟩)) g25))
  (∀ J : G → Prop,
  (∀ g26 : G, (ifB (eqI op (4 : Int))
  (b ≠ 0 ∧ InI64 (Int.tdiv a b) ∧ ∃ M5 : Nat → Prop, (∀ b, b < g.w.heap.size → M5 b → M b) ∧ (CallsX Tryd.prog 94 #[(.pointer m), (.int .i64 (Int.tdiv a b))] g26 M5 (fun v g27 =>
  ∃ x_8 : Option Addr, v = (.pointer x_8) ∧ ∀ g28 : G, Ex g27 g28 →
  R (.pointer x_8) g28) (fun ch g29 => ∀ g30 : G, Ex g29 g30 → RP ch g30)))
  (b ≠ 0 ∧ ∃ M6 : Nat → Prop, (∀ b, b < g.w.heap.size → M6 b → M b) ∧ (CallsX Tryd.prog 94 #[(.pointer m), (.int .i64 (Int.tmod a b))] g26 M6 (fun v g31 =>
  ∃ x_9 : Option Addr, v = (.pointer x_9) ∧ ∀ g32 : G, Ex g31 g32 →
  R (.pointer x_9) g32) (fun ch g33 => ∀ g34 : G, Ex g33 g34 → RP ch g34)))) → J g26) →
  ifB (eqI b (0 : Int))
  (∃ M7 : Nat → Prop, (∀ b, b < g.w.heap.size → M7 b → M b) ∧ (CallsX Tryd.prog 64 #[(.pointer m), (.int .i64 (2 : Int)), (.int .i64 (3 : Int))] g M7 (fun v g35 =>
  v = (.tuple ⟨[]⟩) ∧ J g35) (fun ch g36 => ∀ g37 : G, Ex g36 g37 → RP ch g37)))
  (J g)))))))))
theorem F88_eq (m : Option Addr) (op : Int) (a : Int) (b : Int) (g : G) (M : Nat → Prop) (R : Value → G → Prop) (RP : List PanicEntry → G → Prop) : fnG (cfg88 RP) 76 [.tmp 8] c88 an88 [(.pointer m), (.int .i64 op), (.int .i64 a), (.int .i64 b)] g M R = F88 m op a b g M R RP := by kernel_rfl
theorem call88 (m : Option Addr) (op : Int) (a : Int) (b : Int) (g : G) (M : Nat → Prop) (R : Value → G → Prop) (RP : List PanicEntry → G → Prop) (hF : F88 m op a b g M R RP ) : CallsX Tryd.prog 88 #[(.pointer m), (.int .i64 op), (.int .i64 a), (.int .i64 b)] g M R RP :=
  fn_soundX (c := (cfg88 RP)) TTok FNSok mixed (.inr rfl) Tryd.func88 (show Tryd.f88.body = some c88 by kernel_rfl) (show Tryd.f88.ntmps = 76 by kernel_rfl) (show Tryd.f88.results.toList = [.tmp 8] by kernel_rfl) rfl ((F88_eq m op a b g M R RP ).mpr hF)

/- 94 (*pilaster/lambda.machine).number -/
noncomputable def c94 : Code := match Tryd.f94.body with
  | some c => c
  | none => .skip
noncomputable def cfg94 (RP : List PanicEntry → G → Prop) : Cfg := ⟨Tryd.prog, TT, FNS, [], [], [12], TCH, false, false, some RP, PNF, false⟩
def an94 : AnnG := (.seq .leaf (.seq (.seq .leaf (.cond .leaf .leaf)) (.seq .leaf .leaf)))
def F94 (m : Option Addr) (n : Int) (g : G) (M : Nat → Prop) (R : Value → G → Prop) (RP : List PanicEntry → G → Prop) : Prop :=
  (CallsP Tryd.prog 73 #[(.int .i64 n), (.int .i64 (-4503599627370496 : Int)), (.int .i64 (4503599627370496 : Int))] g fun v g1 =>
  ∃ x : Bool, v = (.bool x) ∧ ifB (!x)
  (∃ M1 : Nat → Prop, (∀ b, b < g.w.heap.size → M1 b → M b) ∧ (CallsX Tryd.prog 64 #[(.pointer m), (.int .i64 (2 : Int)), (.int .i64 (2 : Int))] g1 M1 (fun v g2 =>
  v = (.tuple ⟨[]⟩) ∧ ∀ g3 : G, NewL g2 g3 100 ([(.int .i64 (1 : Int)), (.int .i64 n), (.string (bs [])), (.slice none 0 0), (.int .i64 (0 : Int)), (.int .i64 (0 : Int)), (.string (bs [])), (.slice none 0 0), (.pointer none)] : List Value) →
  ∀ g4 : G, Ex g3 g4 →
  R (.pointer (some ⟨g2.w.heap.size, 0, none⟩)) g4) (fun ch g5 => ∀ g6 : G, Ex g5 g6 → RP ch g6)))
  (∀ g7 : G, NewL g1 g7 100 ([(.int .i64 (1 : Int)), (.int .i64 n), (.string (bs [])), (.slice none 0 0), (.int .i64 (0 : Int)), (.int .i64 (0 : Int)), (.string (bs [])), (.slice none 0 0), (.pointer none)] : List Value) →
  ∀ g8 : G, Ex g7 g8 →
  R (.pointer (some ⟨g1.w.heap.size, 0, none⟩)) g8))
theorem F94_eq (m : Option Addr) (n : Int) (g : G) (M : Nat → Prop) (R : Value → G → Prop) (RP : List PanicEntry → G → Prop) : fnG (cfg94 RP) 13 [.tmp 4] c94 an94 [(.pointer m), (.int .i64 n)] g M R = F94 m n g M R RP := by kernel_rfl
theorem call94 (m : Option Addr) (n : Int) (g : G) (M : Nat → Prop) (R : Value → G → Prop) (RP : List PanicEntry → G → Prop) (hF : F94 m n g M R RP ) : CallsX Tryd.prog 94 #[(.pointer m), (.int .i64 n)] g M R RP :=
  fn_soundX (c := (cfg94 RP)) TTok FNSok mixed (.inr rfl) Tryd.func94 (show Tryd.f94.body = some c94 by kernel_rfl) (show Tryd.f94.ntmps = 13 by kernel_rfl) (show Tryd.f94.results.toList = [.tmp 4] by kernel_rfl) rfl ((F94_eq m n g M R RP ).mpr hF)

/- 95 pilaster/lambda.truth -/
noncomputable def c95 : Code := match Tryd.f95.body with
  | some c => c
  | none => .skip
noncomputable def cfg95 : Cfg := ⟨Tryd.prog, TT, FNS, [], [], [], TCH, false, false, none, PNF, false⟩
def an95 : AnnG := (.seq .leaf (.seq .leaf (.seq (.seq .leaf (.cond .leaf .leaf)) (.seq .leaf .leaf))))
def F95 (b : Bool) (g : G) (R : Value → G → Prop) : Prop :=
  (CallsP Tryd.prog 96 #[] g fun v g1 =>
  ∃ x : Option Addr, v = (.pointer x) ∧ ∀ g2 : G, NewL g1 g2 80 [(.pointer x)] →
  ∀ g3 : G, NewD g2 g3 100 ([(.int .i64 (4 : Int)), (.int .i64 (0 : Int)), (.string (bs [])), (.slice (some ⟨g1.w.heap.size, 0, none⟩) 1 1), (.int .i64 (0 : Int)), (.int .i64 (0 : Int)), (.string (bs [])), (.slice none 0 0), (.pointer none)] : List Value) →
  ifB b
  (stOk g3.w (Addr.add ⟨g2.w.heap.size, 0, none⟩ 1) 1 ∧ ¬ g3.X (Addr.block (Addr.add ⟨g2.w.heap.size, 0, none⟩ 1)) ∧ mutAt g3 (Addr.add ⟨g2.w.heap.size, 0, none⟩ 1) 1 ∧ ((Addr.block (Addr.add ⟨g2.w.heap.size, 0, none⟩ 1)) < g.w.heap.size → nobody (Addr.block (Addr.add ⟨g2.w.heap.size, 0, none⟩ 1))) ∧ ∀ g4 : G, StG false g3 (Addr.add ⟨g2.w.heap.size, 0, none⟩ 1) [(.int .i64 (1 : Int))] g4 →
  ∀ g5 : G, Ex g4 g5 →
  R (.pointer (some ⟨g2.w.heap.size, 0, none⟩)) g5)
  (∀ g6 : G, Ex g3 g6 →
  R (.pointer (some ⟨g2.w.heap.size, 0, none⟩)) g6))
theorem F95_eq (b : Bool) (g : G) (R : Value → G → Prop) : fnG cfg95 13 [.tmp 2] c95 an95 [(.bool b)] g nobody R = F95 b g R := by kernel_rfl
theorem call95 (b : Bool) (g : G) (R : Value → G → Prop) (hF : F95 b g R) : CallsG Tryd.prog 95 #[(.bool b)] g nobody R :=
  fn_soundG (c := cfg95) TTok FNSok mixed Tryd.func95 (show Tryd.f95.body = some c95 by kernel_rfl) (show Tryd.f95.ntmps = 13 by kernel_rfl) (show Tryd.f95.results.toList = [.tmp 2] by kernel_rfl) rfl ((F95_eq b g R ).mpr hF)

/- 96 pilaster/lambda.unit -/
noncomputable def c96 : Code := match Tryd.f96.body with
  | some c => c
  | none => .skip
noncomputable def cfg96 : Cfg := ⟨Tryd.prog, TT, FNS, [], [], [2], TCH, false, false, none, PNF, false⟩
def an96 : AnnG := (.seq .leaf (.seq .leaf .leaf))
def F96 (g : G) (R : Value → G → Prop) : Prop :=
  ∀ g1 : G, NewL g g1 100 ([(.int .i64 (3 : Int)), (.int .i64 (0 : Int)), (.string (bs [])), (.slice none 0 0), (.int .i64 (0 : Int)), (.int .i64 (0 : Int)), (.string (bs [])), (.slice none 0 0), (.pointer none)] : List Value) →
  ∀ g2 : G, Ex g1 g2 →
  R (.pointer (some ⟨g.w.heap.size, 0, none⟩)) g2
theorem F96_eq (g : G) (R : Value → G → Prop) : fnG cfg96 3 [.tmp 0] c96 an96 [] g nobody R = F96 g R := by kernel_rfl
theorem call96 (g : G) (R : Value → G → Prop) (hF : F96 g R) : CallsG Tryd.prog 96 #[] g nobody R :=
  fn_soundG (c := cfg96) TTok FNSok mixed Tryd.func96 (show Tryd.f96.body = some c96 by kernel_rfl) (show Tryd.f96.ntmps = 3 by kernel_rfl) (show Tryd.f96.results.toList = [.tmp 0] by kernel_rfl) rfl ((F96_eq g R ).mpr hF)

/- 97 (*pilaster/lambda.machine).product -/
noncomputable def c97 : Code := match Tryd.f97.body with
  | some c => c
  | none => .skip
noncomputable def cfg97 (RP : List PanicEntry → G → Prop) : Cfg := ⟨Tryd.prog, TT, FNS, [], [], [], TCH, false, false, some RP, PNF, false⟩
def an97 : AnnG := (.seq .leaf (.join ⟨[], [], []⟩ (.seq .leaf (.cond .leaf .leaf)) (.seq .leaf .leaf)))
def F97 (m : Option Addr) (a : Int) (b : Int) (g : G) (M : Nat → Prop) (R : Value → G → Prop) (RP : List PanicEntry → G → Prop) : Prop :=
  ∀ J : G → Prop,
  (∀ g1 : G, (InI64 (a * b) ∧ ∃ M1 : Nat → Prop, (∀ b, b < g.w.heap.size → M1 b → M b) ∧ (CallsX Tryd.prog 94 #[(.pointer m), (.int .i64 (a * b))] g1 M1 (fun v g2 =>
  ∃ x : Option Addr, v = (.pointer x) ∧ ∀ g3 : G, Ex g2 g3 →
  R (.pointer x) g3) (fun ch g4 => ∀ g5 : G, Ex g4 g5 → RP ch g5))) → J g1) →
  ifB (!eqI a (0 : Int))
  ((CallsP Tryd.prog 100 #[(.int .i64 b)] g fun v g6 =>
  ∃ x_1 : Int, v = (.int .i64 x_1) ∧ (CallsP Tryd.prog 100 #[(.int .i64 a)] g6 fun v g7 =>
  ∃ x_2 : Int, v = (.int .i64 x_2) ∧ x_2 ≠ 0 ∧ InI64 (Int.tdiv (4503599627370496 : Int) x_2) ∧ ifB (ltI (Int.tdiv (4503599627370496 : Int) x_2) x_1)
  (∃ M2 : Nat → Prop, (∀ b, b < g.w.heap.size → M2 b → M b) ∧ (CallsX Tryd.prog 64 #[(.pointer m), (.int .i64 (2 : Int)), (.int .i64 (2 : Int))] g7 M2 (fun v g8 =>
  v = (.tuple ⟨[]⟩) ∧ J g8) (fun ch g9 => ∀ g10 : G, Ex g9 g10 → RP ch g10)))
  (J g7))))
  (J g)
theorem F97_eq (m : Option Addr) (a : Int) (b : Int) (g : G) (M : Nat → Prop) (R : Value → G → Prop) (RP : List PanicEntry → G → Prop) : fnG (cfg97 RP) 24 [.tmp 6] c97 an97 [(.pointer m), (.int .i64 a), (.int .i64 b)] g M R = F97 m a b g M R RP := by kernel_rfl
theorem call97 (m : Option Addr) (a : Int) (b : Int) (g : G) (M : Nat → Prop) (R : Value → G → Prop) (RP : List PanicEntry → G → Prop) (hF : F97 m a b g M R RP ) : CallsX Tryd.prog 97 #[(.pointer m), (.int .i64 a), (.int .i64 b)] g M R RP :=
  fn_soundX (c := (cfg97 RP)) TTok FNSok mixed (.inr rfl) Tryd.func97 (show Tryd.f97.body = some c97 by kernel_rfl) (show Tryd.f97.ntmps = 24 by kernel_rfl) (show Tryd.f97.results.toList = [.tmp 6] by kernel_rfl) rfl ((F97_eq m a b g M R RP ).mpr hF)

/- 100 pilaster/lambda.size -/
noncomputable def c100 : Code := match Tryd.f100.body with
  | some c => c
  | none => .skip
noncomputable def cfg100 : Cfg := ⟨Tryd.prog, TT, FNS, [], [], [], TCH, false, false, none, PNF, false⟩
def an100 : AnnG := (.seq .leaf (.seq .leaf .leaf))
def F100 (n : Int) (g : G) (R : Value → G → Prop) : Prop :=
  InI64 ((0 : Int) - n) ∧ ∀ g1 : G, Ex g g1 →
  R (.int .i64 (maxI n ((0 : Int) - n))) g1
theorem F100_eq (n : Int) (g : G) (R : Value → G → Prop) : fnG cfg100 7 [.tmp 2] c100 an100 [(.int .i64 n)] g nobody R = F100 n g R := by kernel_rfl
theorem call100 (n : Int) (g : G) (R : Value → G → Prop) (hF : F100 n g R) : CallsG Tryd.prog 100 #[(.int .i64 n)] g nobody R :=
  fn_soundG (c := cfg100) TTok FNSok mixed Tryd.func100 (show Tryd.f100.body = some c100 by kernel_rfl) (show Tryd.f100.ntmps = 7 by kernel_rfl) (show Tryd.f100.results.toList = [.tmp 2] by kernel_rfl) rfl ((F100_eq n g R ).mpr hF)
end Go.Proofs.YtfmjipgcbecamaaDoor
