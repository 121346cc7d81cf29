/- Printed by a program (wip/tools/gen2.py): more functions. -/
import Derived.Test.YthlcdgpemjdgnaaGreatDoorFnT45
namespace Go.Proofs.YthlcdgpemjdgnaaGreatDoor
open Go Go.Vc Go.RowKit
set_option maxRecDepth 100000
set_option linter.unusedVariables false
noncomputable def c65 : Code := match Tryz.f65.body with
  | some c => c
  | none => .skip
noncomputable def cfg65 : Cfg := ⟨Tryz.prog, TT, FNS, [4, 5, 6, 10, 11, 14, 15], [(4, 4), (5, 5), (6, 6), (10, 10), (11, 11), (14, 14), (15, 15), (49, 5), (63, 10), (65, 5), (74, 11), (81, 11), (84, 4), (87, 10), (92, 10), (93, 4), (98, 14)], [], TCH, false, false, none, PNF, false⟩
def an65 : AnnG := (.seq .leaf (.seq .leaf (.seq .leaf (.join ⟨[], [(6, 6, 0)], [(6, [(.int .i64), (.int .i64), (.str), (.sl)])]⟩ (.seq .leaf (.cond (.seq .leaf (.seq .leaf .leaf)) .leaf)) (.seq .leaf (.seq .leaf (.seq .leaf (.seq (.seq .leaf (.blk (.loop ⟨[(58, .int .i64)], [(11, 11, 0)], [(11, [(.int .i64), (.int .i64), (.str), (.sl)])]⟩ (.seq .leaf (.seq (.cond .leaf .leaf) (.seq (.blk (.seq .leaf (.seq (.treeB 10 (.quiet 0 (.quiet 1 (.quiet 2 (.quiet 3 (.quiet 4 (.quiet 5 (.quiet 6 (.quiet 7 (.quiet 8 (.eff 9 .fin .fin))))))))))) (.treeP true [11] 6 (.quiet 0 (.quiet 2 (.quiet 3 (.eff 1 (.eff 4 (.eff 5 .fin .fin) .fin) (.eff 4 (.eff 1 (.eff 5 .fin .fin) (.eff 5 (.eff 1 .fin .fin) .fin)) .fin))))))))) .leaf)))))) (.seq .leaf (.join ⟨[], [(10, 10, 0), (14, 14, 0)], [(10, [(.sl), (.int .i64)]), (14, [(.int .i64), (.int .i64), (.str), (.sl)])]⟩ (.seq .leaf (.cond (.join ⟨[], [(10, 10, 0)], [(10, [(.sl), (.int .i64)])]⟩ (.treeP true [10] 4 (.quiet 0 (.eff 1 (.eff 2 (.eff 3 .fin .fin) .fin) (.eff 2 (.eff 1 (.eff 3 .fin .fin) (.eff 3 (.eff 1 .fin .fin) .fin)) .fin)))) .leaf) .leaf)) (.join ⟨[], [(15, 15, 0)], [(15, [(.int .i64), (.int .i64), (.str), (.sl)])]⟩ (.treeP true [] 9 (.quiet 0 (.quiet 1 (.quiet 2 (.quiet 3 (.quiet 4 (.quiet 5 (.eff 6 (.eff 7 (.eff 8 .fin .fin) (.eff 8 (.eff 7 .fin .fin) .fin)) (.eff 8 (.eff 6 (.eff 7 .fin .fin) .fin) .fin))))))))) (.seq (.treeB 6 (.quiet 0 (.quiet 1 (.quiet 2 (.quiet 3 (.quiet 4 (.quiet 5 .fin))))))) (.seq .leaf .leaf)))))))))))))
def F65 (c : Option Addr) (x0 : Int) (x1 : Int) (x2 : ByteArray) (x3a : Option Addr) (x3l : Nat) (x3c : Nat) (s0a : Option Addr) (s0l : Nat) (s0c : Nat) (s1 : Int) (g : G) (M : Nat → Prop) (R : Value → G → Prop) : Prop :=
  ∀ g1 : G, Ex g g1 →
  (CallsP Tryz.prog 36 #[(.agg ⟨[(.int .i64 x0), (.int .i64 x1), (.string x2), (.slice x3a x3l x3c)]⟩)] g1 fun v g2 =>
  ∃ (x0a : Option Addr) (x0l x0c : Nat) (x1_1 : Int), v = (.tuple ⟨[(.slice x0a x0l x0c), (.int .i64 x1_1)]⟩) ∧ derefP c fun ad => ∃ (xa : Option Addr) (xl xc : Nat), g2.w.cell? ad = some (.slice xa xl xc) ∧ ∀ J : Int → Int → ByteArray → Option Addr → Nat → Nat → G → Prop,
  (∀ (x0_1 x1_2 : Int) (x2_1 : ByteArray) (x3a_1 : Option Addr) (x3l_1 x3c_1 : Nat) (g3 : G), (derefP c fun ad_1 => ∃ (xa_1 : Option Addr) (xl_1 xc_1 : Nat), g3.w.cell? ad_1 = some (.slice xa_1 xl_1 xc_1) ∧ ∀ g4 : G, NewL g3 g4 55 [(.int .i64 ((x0l : Nat) : Int)), (.int .i64 (0 : Int)), (.int .i64 (0 : Int)), (.string (bs [])), (.slice none 0 0)] →
  ∃ (xa_2 : Option Addr) (xl_2 xc_2 : Nat) (wo1 : World), Sem.run Tryz.prog (Builtin.append_ #[22, 22] 22 #[(.slice xa_1 xl_1 xc_1), (.slice (some ⟨g3.w.heap.size, 0, none⟩) 1 1)]) g4.w = .ok (.slice xa_2 xl_2 xc_2) wo1 ∧ ∃ g5 : G, g5.w = wo1 ∧ Stp g.w.heap.size M g4 g5 ∧ derefP c fun ad_2 => stOk g5.w ad_2 1 ∧ ¬ g5.X (Addr.block ad_2) ∧ mutAt g5 ad_2 1 ∧ ((Addr.block ad_2) < g.w.heap.size → M (Addr.block ad_2)) ∧ ∀ g6 : G, StG false g5 ad_2 [(.slice xa_2 xl_2 xc_2)] g6 →
  ∃ (xa_3 : Option Addr) (xl_3 xc_3 : Nat) (wo2 : World), Sem.run Tryz.prog (Instr.makeSlice 42 (.int .i64 ((s0l : Nat) : Int)) (.int .i64 ((s0l : Nat) : Int))) g6.w = .ok (.slice xa_3 xl_3 xc_3) wo2 ∧ ∃ g7 : G, g7.w = wo2 ∧ Stp g.w.heap.size M g6 g7 ∧ ∀ g8 : G, Ex g7 g8 →
  (CallsP Tryz.prog 90 #[(.int .i64 (24 : Int)), (.int .i64 ((xl : Nat) : Int)), (.slice none 0 0)] g8 fun v g9 =>
  ∃ (x0_2 x1_3 : Int) (x2_2 : ByteArray) (x3a_2 : Option Addr) (x3l_2 x3c_2 : Nat), v = (.agg ⟨[(.int .i64 x0_2), (.int .i64 x1_3), (.string x2_2), (.slice x3a_2 x3l_2 x3c_2)]⟩) ∧ ∃ Inv : Nat → Int → Int → Int → ByteArray → Option Addr → Nat → Nat → G → Prop, (∀ g10 : G, Ex g9 g10 →
  (∃ m0 : Nat, Inv m0 (0 : Int) x0_2 x1_3 x2_2 x3a_2 x3l_2 x3c_2 g10)) ∧
  ∀ (m : Nat) (v_1 out0 out1 : Int) (out2 : ByteArray) (out3a : Option Addr) (out3l out3c : Nat) (g11 : G), Le g9 g11 → Inv m v_1 out0 out1 out2 out3a out3l out3c g11 →
  ifB (ltI v_1 ((x0l : Nat) : Int))
  ((0 ≤ v_1 ∧ v_1 < ((x0l : Nat) : Int)) ∧ derefP x0a fun ad_3 => ∃ i : Int, g11.w.cell? (Addr.add ad_3 (Int.toNat v_1 * 1)) = some (.int .i64 i) ∧ ∀ g12 : G, Ex g11 g12 →
  ∃ MR1 : Nat → Prop, (∀ b, MR1 b → ¬ g12.X b) ∧ InI64 (((s0l : Nat) : Int) - (1 : Int)) ∧ InI64 ((((s0l : Nat) : Int) - (1 : Int)) - i) ∧ (CallsP Tryz.prog 90 #[(.int .i64 (23 : Int)), (.int .i64 v_1), (.slice none 0 0)] g12 fun v g13 =>
  ∃ (x0_3 x1_4 : Int) (x2_3 : ByteArray) (x3a_3 : Option Addr) (x3l_3 x3c_3 : Nat), v = (.agg ⟨[(.int .i64 x0_3), (.int .i64 x1_4), (.string x2_3), (.slice x3a_3 x3l_3 x3c_3)]⟩) ∧ (0 ≤ ((((s0l : Nat) : Int) - (1 : Int)) - i) ∧ ((((s0l : Nat) : Int) - (1 : Int)) - i) < ((xl_3 : Nat) : Int)) ∧ derefP xa_3 fun ad_4 => stOk g13.w (Addr.add ad_4 (Int.toNat ((((s0l : Nat) : Int) - (1 : Int)) - i) * 4)) 4 ∧ ¬ g13.X (Addr.block (Addr.add ad_4 (Int.toNat ((((s0l : Nat) : Int) - (1 : Int)) - i) * 4))) ∧ mutAt g13 (Addr.add ad_4 (Int.toNat ((((s0l : Nat) : Int) - (1 : Int)) - i) * 4)) 4 ∧ ((Addr.block (Addr.add ad_4 (Int.toNat ((((s0l : Nat) : Int) - (1 : Int)) - i) * 4))) < g.w.heap.size → M (Addr.block (Addr.add ad_4 (Int.toNat ((((s0l : Nat) : Int) - (1 : Int)) - i) * 4)))) ∧ ∀ g14 : G, StG false g13 (Addr.add ad_4 (Int.toNat ((((s0l : Nat) : Int) - (1 : Int)) - i) * 4)) [(.int .i64 x0_3), (.int .i64 x1_4), (.string x2_3), (.slice x3a_3 x3l_3 x3c_3)] g14 →
  ∀ g15 : G, Ex g14 g15 →
  ∃ MR2 : Nat → Prop, (∀ b, MR2 b → ¬ g15.X b) ∧ (∀ g16 : G, Ex g15 g16 →
  (CallsP Tryz.prog 64 #[(.agg ⟨[(.slice s0a s0l s0c), (.int .i64 s1)]⟩), (.int .i64 i)] g16 fun v g17 =>
  ∃ (x0_4 x1_5 : Int) (x2_4 : ByteArray) (x3a_4 : Option Addr) (x3l_4 x3c_4 : Nat), v = (.agg ⟨[(.int .i64 x0_4), (.int .i64 x1_5), (.string x2_4), (.slice x3a_4 x3l_4 x3c_4)]⟩) ∧ ∀ g18 : G, Ex g17 g18 →
  ∀ g19 : G, NewL g18 g19 44 [(.int .i64 x0_4), (.int .i64 x1_5), (.string x2_4), (.slice x3a_4 x3l_4 x3c_4)] →
  ∃ (xa_4 : Option Addr) (xl_4 xc_4 : Nat) (wo3 : World), Sem.run Tryz.prog (Builtin.append_ #[42, 42] 42 #[(.slice out3a out3l out3c), (.slice (some ⟨g18.w.heap.size, 0, none⟩) 1 1)]) g19.w = .ok (.slice xa_4 xl_4 xc_4) wo3 ∧ ∃ g20 : G, g20.w = wo3 ∧ Stp g.w.heap.size M g19 g20 ∧ InI64 (v_1 + (1 : Int)) ∧ ∀ g21 : G, Ex g20 g21 →
  (∃ m_1 : Nat, m_1 < m ∧ Inv m_1 (v_1 + (1 : Int)) out0 out1 out2 xa_4 xl_4 xc_4 g21))) ∧ (∀ g22 : G, Ex g15 g22 →
  (CallsP Tryz.prog 64 #[(.agg ⟨[(.slice s0a s0l s0c), (.int .i64 s1)]⟩), (.int .i64 i)] g22 fun v g23 =>
  ∃ (x0_5 x1_6 : Int) (x2_5 : ByteArray) (x3a_5 : Option Addr) (x3l_5 x3c_5 : Nat), v = (.agg ⟨[(.int .i64 x0_5), (.int .i64 x1_6), (.string x2_5), (.slice x3a_5 x3l_5 x3c_5)]⟩) ∧ Rep 1 (∀ g24 : G, Ex g23 g24 →
  ∀ g25 : G, NewL g24 g25 44 [(.int .i64 x0_5), (.int .i64 x1_6), (.string x2_5), (.slice x3a_5 x3l_5 x3c_5)] →
  ∃ (xa_5 : Option Addr) (xl_5 xc_5 : Nat) (wo4 : World), Sem.run Tryz.prog (Builtin.append_ #[42, 42] 42 #[(.slice out3a out3l out3c), (.slice (some ⟨g24.w.heap.size, 0, none⟩) 1 1)]) g25.w = .ok (.slice xa_5 xl_5 xc_5) wo4 ∧ ∃ g26 : G, g26.w = wo4 ∧ Stp g.w.heap.size M g25 g26 ∧ InI64 (v_1 + (1 : Int)) ∧ ∀ g27 : G, Ex g26 g27 →
  (∃ m_1 : Nat, m_1 < m ∧ Inv m_1 (v_1 + (1 : Int)) out0 out1 out2 xa_5 xl_5 xc_5 g27))))))
  (∀ J_1 : Option Addr → Nat → Nat → Int → Int → Int → ByteArray → Option Addr → Nat → Nat → G → Prop,
  (∀ (inner0a : Option Addr) (inner0l inner0c : Nat) (inner1 f0 f1 : Int) (f2 : ByteArray) (f3a : Option Addr) (f3l f3c : Nat) (g32 : G), (∀ J_2 : Int → Int → ByteArray → Option Addr → Nat → Nat → G → Prop,
  (∀ (body0 body1 : Int) (body2 : ByteArray) (body3a : Option Addr) (body3l body3c : Nat) (g33 : G), (∀ g34 : G, Ex g33 g34 →
  ∃ MR3 : Nat → Prop, (∀ b, MR3 b → ¬ g34.X b) ∧ derefP c fun ad_5 => ¬ MR3 (Addr.block ad_5) ∧ ∃ (xa_7 : Option Addr) (xl_7 xc_7 : Nat), g34.w.cell? ad_5 = some (.slice xa_7 xl_7 xc_7) ∧ (0 ≤ ((xl : Nat) : Int) ∧ ((xl : Nat) : Int) < ((xl_7 : Nat) : Int)) ∧ derefP xa_7 fun ad_6 => stOk g34.w (Addr.add (Addr.add ad_6 (Int.toNat ((xl : Nat) : Int) * 5)) 1) 4 ∧ ¬ g34.X (Addr.block (Addr.add (Addr.add ad_6 (Int.toNat ((xl : Nat) : Int) * 5)) 1)) ∧ mutAt g34 (Addr.add (Addr.add ad_6 (Int.toNat ((xl : Nat) : Int) * 5)) 1) 4 ∧ ((Addr.block (Addr.add (Addr.add ad_6 (Int.toNat ((xl : Nat) : Int) * 5)) 1)) < g.w.heap.size → M (Addr.block (Addr.add (Addr.add ad_6 (Int.toNat ((xl : Nat) : Int) * 5)) 1))) ∧ ∀ g35 : G, StG false g34 (Addr.add (Addr.add ad_6 (Int.toNat ((xl : Nat) : Int) * 5)) 1) [(.int .i64 body0), (.int .i64 body1), (.string body2), (.slice body3a body3l body3c)] g35 →
  ∀ g36 : G, Ex g35 g36 →
  R (.agg ⟨[(.int .i64 out0), (.int .i64 out1), (.string out2), (.slice out3a out3l out3c)]⟩) g36) → J_2 body0 body1 body2 body3a body3l body3c g33) →
  ∀ g37 : G, Ex g32 g37 →
  ∃ MR4 : Nat → Prop, (∀ b, MR4 b → ¬ g37.X b) ∧ (0 ≤ (0 : Int) ∧ (0 : Int) < ((f3l : Nat) : Int)) ∧ derefP f3a fun ad_7 => ¬ g37.X (Addr.block (Addr.add ad_7 (Int.toNat (0 : Int) * 4))) ∧ ¬ MR4 (Addr.block (Addr.add ad_7 (Int.toNat (0 : Int) * 4))) ∧ ∃ (x0_6 x1_7 : Int) (x2_6 : ByteArray) (x3a_6 : Option Addr) (x3l_6 x3c_6 : Nat), g37.w.cell? (Addr.add ad_7 (Int.toNat (0 : Int) * 4)) = some (.int .i64 x0_6) ∧ g37.w.cell? (Addr.add (Addr.add ad_7 (Int.toNat (0 : Int) * 4)) 1) = some (.int .i64 x1_7) ∧ g37.w.cell? (Addr.add (Addr.add ad_7 (Int.toNat (0 : Int) * 4)) 2) = some (.string x2_6) ∧ g37.w.cell? (Addr.add (Addr.add ad_7 (Int.toNat (0 : Int) * 4)) 3) = some (.slice x3a_6 x3l_6 x3c_6) ∧ (∀ g38 : G, Ex g37 g38 →
  (CallsP Tryz.prog 67 #[(.agg ⟨[(.slice inner0a inner0l inner0c), (.int .i64 inner1)]⟩)] g38 fun v g39 =>
  ∃ (x0a_1 : Option Addr) (x0l_1 x0c_1 : Nat) (x1_8 : Int), v = (.agg ⟨[(.slice x0a_1 x0l_1 x0c_1), (.int .i64 x1_8)]⟩) ∧ Rep 1 (∀ g40 : G, Ex g39 g40 →
  ∃ M5 : Nat → Prop, (∀ b, b < g.w.heap.size → M5 b → M b) ∧ (CallsG Tryz.prog 37 #[(.pointer c), (.agg ⟨[(.int .i64 x0_6), (.int .i64 x1_7), (.string x2_6), (.slice x3a_6 x3l_6 x3c_6)]⟩), (.agg ⟨[(.slice x0a_1 x0l_1 x0c_1), (.int .i64 x1_8)]⟩)] g40 M5 fun v g41 =>
  ∃ (x0_7 x1_9 : Int) (x2_7 : ByteArray) (x3a_7 : Option Addr) (x3l_7 x3c_7 : Nat), v = (.agg ⟨[(.int .i64 x0_7), (.int .i64 x1_9), (.string x2_7), (.slice x3a_7 x3l_7 x3c_7)]⟩) ∧ SameBut MR4 g37 g41 ∧ ∀ g42 : G, Ex g41 g42 →
  J_2 x0_7 x1_9 x2_7 x3a_7 x3l_7 x3c_7 g42)))) ∧ (∀ g46 : G, Ex g37 g46 →
  (CallsP Tryz.prog 67 #[(.agg ⟨[(.slice inner0a inner0l inner0c), (.int .i64 inner1)]⟩)] g46 fun v g47 =>
  ∃ (x0a_2 : Option Addr) (x0l_2 x0c_2 : Nat) (x1_11 : Int), v = (.agg ⟨[(.slice x0a_2 x0l_2 x0c_2), (.int .i64 x1_11)]⟩) ∧ ∀ g48 : G, Ex g47 g48 →
  ∃ M7 : Nat → Prop, (∀ b, b < g.w.heap.size → M7 b → M b) ∧ (CallsG Tryz.prog 37 #[(.pointer c), (.agg ⟨[(.int .i64 x0_6), (.int .i64 x1_7), (.string x2_6), (.slice x3a_6 x3l_6 x3c_6)]⟩), (.agg ⟨[(.slice x0a_2 x0l_2 x0c_2), (.int .i64 x1_11)]⟩)] g48 M7 fun v g49 =>
  ∃ (x0_9 x1_12 : Int) (x2_9 : ByteArray) (x3a_9 : Option Addr) (x3l_9 x3c_9 : Nat), v = (.agg ⟨[(.int .i64 x0_9), (.int .i64 x1_12), (.string x2_9), (.slice x3a_9 x3l_9 x3c_9)]⟩) ∧ SameBut MR4 g37 g49 ∧ ∀ g50 : G, Ex g49 g50 →
  J_2 x0_9 x1_12 x2_9 x3a_9 x3l_9 x3c_9 g50)))) → J_1 inner0a inner0l inner0c inner1 f0 f1 f2 f3a f3l f3c g32) →
  ifB (eqI x0 (10 : Int))
  (∀ J_3 : Option Addr → Nat → Nat → Int → G → Prop,
  (∀ (inner0a_1 : Option Addr) (inner0l_1 inner0c_1 : Nat) (inner1_1 : Int) (g51 : G), ((0 ≤ (0 : Int) ∧ (0 : Int) < ((x3l : Nat) : Int)) ∧ derefP x3a fun ad_8 => ∃ (x0_10 x1_13 : Int) (x2_10 : ByteArray) (x3a_10 : Option Addr) (x3l_10 x3c_10 : Nat), g51.w.cell? (Addr.add ad_8 (Int.toNat (0 : Int) * 4)) = some (.int .i64 x0_10) ∧ g51.w.cell? (Addr.add (Addr.add ad_8 (Int.toNat (0 : Int) * 4)) 1) = some (.int .i64 x1_13) ∧ g51.w.cell? (Addr.add (Addr.add ad_8 (Int.toNat (0 : Int) * 4)) 2) = some (.string x2_10) ∧ g51.w.cell? (Addr.add (Addr.add ad_8 (Int.toNat (0 : Int) * 4)) 3) = some (.slice x3a_10 x3l_10 x3c_10) ∧ ∀ g52 : G, Ex g51 g52 →
  J_1 inner0a_1 inner0l_1 inner0c_1 inner1_1 x0_10 x1_13 x2_10 x3a_10 x3l_10 x3c_10 g52) → J_3 inner0a_1 inner0l_1 inner0c_1 inner1_1 g51) →
  ∀ g53 : G, Ex g11 g53 →
  ∃ MR8 : Nat → Prop, (∀ b, MR8 b → ¬ g53.X b) ∧ (∀ g54 : G, Ex g53 g54 →
  (CallsP Tryz.prog 90 #[(.int .i64 (22 : Int)), (.int .i64 (0 : Int)), (.slice none 0 0)] g54 fun v g55 =>
  ∃ (x0_11 x1_14 : Int) (x2_11 : ByteArray) (x3a_11 : Option Addr) (x3l_11 x3c_11 : Nat), v = (.agg ⟨[(.int .i64 x0_11), (.int .i64 x1_14), (.string x2_11), (.slice x3a_11 x3l_11 x3c_11)]⟩) ∧ ∀ g56 : G, Ex g55 g56 →
  ∀ g57 : G, NewL g56 g57 44 [(.int .i64 x0_11), (.int .i64 x1_14), (.string x2_11), (.slice x3a_11 x3l_11 x3c_11)] →
  ∃ (xa_8 : Option Addr) (xl_8 xc_8 : Nat) (wo6 : World), Sem.run Tryz.prog (Builtin.append_ #[42, 42] 42 #[(.slice xa_3 xl_3 xc_3), (.slice (some ⟨g56.w.heap.size, 0, none⟩) 1 1)]) g57.w = .ok (.slice xa_8 xl_8 xc_8) wo6 ∧ ∃ g58 : G, g58.w = wo6 ∧ Stp g.w.heap.size M g57 g58 ∧ ∀ g59 : G, Ex g58 g59 →
  J_3 xa_8 xl_8 xc_8 (0 : Int) g59)) ∧ (∀ g60 : G, Ex g53 g60 →
  (CallsP Tryz.prog 90 #[(.int .i64 (22 : Int)), (.int .i64 (0 : Int)), (.slice none 0 0)] g60 fun v g61 =>
  ∃ (x0_12 x1_15 : Int) (x2_12 : ByteArray) (x3a_12 : Option Addr) (x3l_12 x3c_12 : Nat), v = (.agg ⟨[(.int .i64 x0_12), (.int .i64 x1_15), (.string x2_12), (.slice x3a_12 x3l_12 x3c_12)]⟩) ∧ Rep 1 (∀ g62 : G, Ex g61 g62 →
  ∀ g63 : G, NewL g62 g63 44 [(.int .i64 x0_12), (.int .i64 x1_15), (.string x2_12), (.slice x3a_12 x3l_12 x3c_12)] →
  ∃ (xa_9 : Option Addr) (xl_9 xc_9 : Nat) (wo7 : World), Sem.run Tryz.prog (Builtin.append_ #[42, 42] 42 #[(.slice xa_3 xl_3 xc_3), (.slice (some ⟨g62.w.heap.size, 0, none⟩) 1 1)]) g63.w = .ok (.slice xa_9 xl_9 xc_9) wo7 ∧ ∃ g64 : G, g64.w = wo7 ∧ Stp g.w.heap.size M g63 g64 ∧ ∀ g65 : G, Ex g64 g65 →
  J_3 xa_9 xl_9 xc_9 (0 : Int) g65))))
  (∀ g70 : G, Ex g11 g70 →
  J_1 xa_3 xl_3 xc_3 (0 : Int) x0 x1 x2 x3a x3l x3c g70)))) → J x0_1 x1_2 x2_1 x3a_1 x3l_1 x3c_1 g3) →
  ifB (ltI (1000 : Int) ((x0l : Nat) : Int))
  (derefP c fun ad_9 => stOk g2.w (Addr.add ad_9 1) 1 ∧ ¬ g2.X (Addr.block (Addr.add ad_9 1)) ∧ mutAt g2 (Addr.add ad_9 1) 1 ∧ ((Addr.block (Addr.add ad_9 1)) < g.w.heap.size → M (Addr.block (Addr.add ad_9 1))) ∧ ∀ g71 : G, StG false g2 (Addr.add ad_9 1) [(.bool true)] g71 →
  ∀ g72 : G, Ex g71 g72 →
  R (.agg ⟨[(.int .i64 (0 : Int)), (.int .i64 (0 : Int)), (.string (bs [])), (.slice none 0 0)]⟩) g72)
  (ifB (leI (4096 : Int) ((xl : Nat) : Int))
  (derefP c fun ad_10 => stOk g2.w (Addr.add ad_10 1) 1 ∧ ¬ g2.X (Addr.block (Addr.add ad_10 1)) ∧ mutAt g2 (Addr.add ad_10 1) 1 ∧ ((Addr.block (Addr.add ad_10 1)) < g.w.heap.size → M (Addr.block (Addr.add ad_10 1))) ∧ ∀ g73 : G, StG false g2 (Addr.add ad_10 1) [(.bool true)] g73 →
  ∀ g74 : G, Ex g73 g74 →
  R (.agg ⟨[(.int .i64 (0 : Int)), (.int .i64 (0 : Int)), (.string (bs [])), (.slice none 0 0)]⟩) g74)
  (J (0 : Int) (0 : Int) (bs []) none 0 0 g2)))
theorem F65_eq (c : Option Addr) (x0 : Int) (x1 : Int) (x2 : ByteArray) (x3a : Option Addr) (x3l : Nat) (x3c : Nat) (s0a : Option Addr) (s0l : Nat) (s0c : Nat) (s1 : Int) (g : G) (M : Nat → Prop) (R : Value → G → Prop) : fnG cfg65 114 [.cell 6 44] c65 an65 [(.pointer c), (.agg ⟨[(.int .i64 x0), (.int .i64 x1), (.string x2), (.slice x3a x3l x3c)]⟩), (.agg ⟨[(.slice s0a s0l s0c), (.int .i64 s1)]⟩)] g M R = F65 c x0 x1 x2 x3a x3l x3c s0a s0l s0c s1 g M R := by kernel_rfl
theorem call65 (c : Option Addr) (x0 : Int) (x1 : Int) (x2 : ByteArray) (x3a : Option Addr) (x3l : Nat) (x3c : Nat) (s0a : Option Addr) (s0l : Nat) (s0c : Nat) (s1 : Int) (g : G) (M : Nat → Prop) (R : Value → G → Prop) (hF : F65 c x0 x1 x2 x3a x3l x3c s0a s0l s0c s1 g M R) : CallsG Tryz.prog 65 #[(.pointer c), (.agg ⟨[(.int .i64 x0), (.int .i64 x1), (.string x2), (.slice x3a x3l x3c)]⟩), (.agg ⟨[(.slice s0a s0l s0c), (.int .i64 s1)]⟩)] g M R :=
  fn_soundG (c := cfg65) TTok FNSok mixed Tryz.func65 (show Tryz.f65.body = some c65 by kernel_rfl) (show Tryz.f65.ntmps = 114 by kernel_rfl) (show Tryz.f65.results.toList = [.cell 6 44] by kernel_rfl) rfl ((F65_eq c x0 x1 x2 x3a x3l x3c s0a s0l s0c s1 g M R ).mpr hF)
noncomputable def c66 : Code := match Tryz.f66.body with
  | some c => c
  | none => .skip
noncomputable def cfg66 : Cfg := ⟨Tryz.prog, TT, FNS, [], [], [], TCH, false, false, none, PNF, false⟩
def an66 : AnnG := (.seq .leaf (.seq .leaf .leaf))
def F66 (op : Int) (part : Int) (g : G) (R : Value → G → Prop) : Prop :=
  ifB (eqI op (11 : Int))
  (∀ g1 : G, Ex g g1 →
  R (.bool (ltI (0 : Int) part)) g1)
  (ifB (eqI op (9 : Int))
  (∀ g2 : G, Ex g g2 →
  R (.bool (ltI (0 : Int) part)) g2)
  (∀ g3 : G, Ex g g3 →
  R (.bool false) g3))
theorem F66_eq (op : Int) (part : Int) (g : G) (R : Value → G → Prop) : fnG cfg66 15 [.tmp 4] c66 an66 [(.int .i64 op), (.int .i64 part)] g nobody R = F66 op part g R := by kernel_rfl
theorem call66 (op : Int) (part : Int) (g : G) (R : Value → G → Prop) (hF : F66 op part g R) : CallsG Tryz.prog 66 #[(.int .i64 op), (.int .i64 part)] g nobody R :=
  fn_soundG (c := cfg66) TTok FNSok mixed Tryz.func66 (show Tryz.f66.body = some c66 by kernel_rfl) (show Tryz.f66.ntmps = 15 by kernel_rfl) (show Tryz.f66.results.toList = [.tmp 4] by kernel_rfl) rfl ((F66_eq op part g R ).mpr hF)
noncomputable def c67 : Code := match Tryz.f67.body with
  | some c => c
  | none => .skip
noncomputable def cfg67 : Cfg := ⟨Tryz.prog, TT, FNS, [1, 2], [(1, 1), (2, 2), (3, 1), (6, 1), (11, 1)], [], TCH, false, false, none, PNF, false⟩
def an67 : AnnG := (.seq .leaf (.seq (.treeP false [2] 11 (.quiet 0 (.quiet 1 (.quiet 3 (.quiet 4 (.quiet 8 (.quiet 9 (.quiet 10 (.eff 2 (.eff 5 (.eff 6 (.eff 7 .fin .fin) .fin) .fin) .fin))))))))) .leaf))
def F67 (s0a : Option Addr) (s0l : Nat) (s0c : Nat) (s1 : Int) (g : G) (R : Value → G → Prop) : Prop :=
  ∀ g1 : G, Ex g g1 →
  InI64 (s1 + (1 : Int)) ∧ ∀ g2 : G, Ex g1 g2 →
  (CallsP Tryz.prog 91 #[(.slice s0a s0l s0c)] g2 fun v g3 =>
  ∃ (xa : Option Addr) (xl xc : Nat), v = (.slice xa xl xc) ∧ ∀ g4 : G, Ex g3 g4 →
  (CallsP Tryz.prog 90 #[(.int .i64 (21 : Int)), (.int .i64 s1), (.slice none 0 0)] g4 fun v g5 =>
  ∃ (x0 x1 : Int) (x2 : ByteArray) (x3a : Option Addr) (x3l x3c : Nat), v = (.agg ⟨[(.int .i64 x0), (.int .i64 x1), (.string x2), (.slice x3a x3l x3c)]⟩) ∧ ∀ g6 : G, Ex g5 g6 →
  ∀ g7 : G, NewL g6 g7 44 [(.int .i64 x0), (.int .i64 x1), (.string x2), (.slice x3a x3l x3c)] →
  ∀ g8 : G, Ex g7 g8 →
  ∃ (xa_1 : Option Addr) (xl_1 xc_1 : Nat) (wo1 : World), Sem.run Tryz.prog (Builtin.append_ #[42, 42] 42 #[(.slice xa xl xc), (.slice (some ⟨g6.w.heap.size, 0, none⟩) 1 1)]) g8.w = .ok (.slice xa_1 xl_1 xc_1) wo1 ∧ ∃ g9 : G, g9.w = wo1 ∧ Stp g.w.heap.size nobody g8 g9 ∧ SameB g1 g9 ∧ ∀ g10 : G, Ex g9 g10 →
  R (.agg ⟨[(.slice xa_1 xl_1 xc_1), (.int .i64 (s1 + (1 : Int)))]⟩) g10))
theorem F67_eq (s0a : Option Addr) (s0l : Nat) (s0c : Nat) (s1 : Int) (g : G) (R : Value → G → Prop) : fnG cfg67 15 [.cell 2 92] c67 an67 [(.agg ⟨[(.slice s0a s0l s0c), (.int .i64 s1)]⟩)] g nobody R = F67 s0a s0l s0c s1 g R := by kernel_rfl
theorem call67 (s0a : Option Addr) (s0l : Nat) (s0c : Nat) (s1 : Int) (g : G) (R : Value → G → Prop) (hF : F67 s0a s0l s0c s1 g R) : CallsG Tryz.prog 67 #[(.agg ⟨[(.slice s0a s0l s0c), (.int .i64 s1)]⟩)] g nobody R :=
  fn_soundG (c := cfg67) TTok FNSok mixed Tryz.func67 (show Tryz.f67.body = some c67 by kernel_rfl) (show Tryz.f67.ntmps = 15 by kernel_rfl) (show Tryz.f67.results.toList = [.cell 2 92] by kernel_rfl) rfl ((F67_eq s0a s0l s0c s1 g R ).mpr hF)
noncomputable def c68 : Code := match Tryz.f68.body with
  | some c => c
  | none => .skip
noncomputable def cfg68 : Cfg := ⟨Tryz.prog, TT, FNS, [], [], [], TCH, false, false, none, PNF, false⟩
def an68 : AnnG := (.seq .leaf (.seq (.seq .leaf (.blk (.loop ⟨[(8, .int .i64)], [], []⟩ (.seq .leaf (.seq (.cond .leaf .leaf) (.seq (.blk (.seq .leaf (.seq .leaf (.cond (.seq .leaf .leaf) .leaf)))) .leaf)))))) (.seq .leaf .leaf)))
def F68 (sa : Option Addr) (sl : Nat) (sc : Nat) (ff : FuncId) (fc : Array Value) (g : G) (R : Value → G → Prop) : Prop :=
  ∃ Inv : Nat → Int → G → Prop, ((∃ m0 : Nat, Inv m0 (0 : Int) g)) ∧
  ∀ (m : Nat) (v_1 : Int) (g1 : G), Le g g1 → Inv m v_1 g1 →
  ifB (ltI v_1 ((sl : Nat) : Int))
  ((0 ≤ v_1 ∧ v_1 < ((sl : Nat) : Int)) ∧ derefP sa fun ad => ∃ (x0 x1 x2 : Int) (x3 : ByteArray) (x4a : Option Addr) (x4l x4c : Nat), g1.w.cell? (Addr.add ad (Int.toNat v_1 * 5)) = some (.int .i64 x0) ∧ g1.w.cell? (Addr.add (Addr.add ad (Int.toNat v_1 * 5)) 1) = some (.int .i64 x1) ∧ g1.w.cell? (Addr.add (Addr.add ad (Int.toNat v_1 * 5)) 2) = some (.int .i64 x2) ∧ g1.w.cell? (Addr.add (Addr.add ad (Int.toNat v_1 * 5)) 3) = some (.string x3) ∧ g1.w.cell? (Addr.add (Addr.add ad (Int.toNat v_1 * 5)) 4) = some (.slice x4a x4l x4c) ∧ Enters Tryz.prog ff ∧ (CallsP Tryz.prog ff ((⟨[(.agg ⟨[(.int .i64 x0), (.int .i64 x1), (.int .i64 x2), (.string x3), (.slice x4a x4l x4c)]⟩)]⟩ : Array Value) ++ fc) g1 fun v g2 =>
  ∃ x : Bool, v = (.bool x) ∧ ifB x
  (∀ g3 : G, Ex g2 g3 →
  R (.int .i64 v_1) g3)
  (InI64 (v_1 + (1 : Int)) ∧ (∃ m_1 : Nat, m_1 < m ∧ Inv m_1 (v_1 + (1 : Int)) g2))))
  (∀ g4 : G, Ex g1 g4 →
  R (.int .i64 (-1 : Int)) g4)
theorem F68_eq (sa : Option Addr) (sl : Nat) (sc : Nat) (ff : FuncId) (fc : Array Value) (g : G) (R : Value → G → Prop) : fnG cfg68 19 [.tmp 4] c68 an68 [(.slice sa sl sc), (.func (.func ff) #[] fc)] g nobody R = F68 sa sl sc ff fc g R := by kernel_rfl
theorem call68 (sa : Option Addr) (sl : Nat) (sc : Nat) (ff : FuncId) (fc : Array Value) (g : G) (R : Value → G → Prop) (hF : F68 sa sl sc ff fc g R) : CallsG Tryz.prog 68 #[(.slice sa sl sc), (.func (.func ff) #[] fc)] g nobody R :=
  fn_soundG (c := cfg68) TTok FNSok mixed Tryz.func68 (show Tryz.f68.body = some c68 by kernel_rfl) (show Tryz.f68.ntmps = 19 by kernel_rfl) (show Tryz.f68.results.toList = [.tmp 4] by kernel_rfl) rfl ((F68_eq sa sl sc ff fc g R ).mpr hF)
noncomputable def c69 : Code := match Tryz.f69.body with
  | some c => c
  | none => .skip
noncomputable def cfg69 : Cfg := ⟨Tryz.prog, TT, FNS, [1, 5], [(1, 1), (5, 5), (8, 1)], [], TCH, false, false, none, PNF, false⟩
def an69 : AnnG := (.seq .leaf (.seq (.seq .leaf (.blk (.loop ⟨[(2, .int .i64), (3, .int .i64), (11, .int .i64)], [], []⟩ (.seq .leaf (.seq (.cond .leaf .leaf) (.seq (.blk (.seq .leaf (.seq .leaf (.seq .leaf .leaf)))) .leaf)))))) (.seq .leaf .leaf)))
def F69 (x0 : Int) (x1 : Int) (x2 : ByteArray) (x3a : Option Addr) (x3l : Nat) (x3c : Nat) (g : G) (R : Value → G → Prop) : Prop :=
  ∃ Inv : Nat → Int → Int → Int → G → Prop, (∀ g1 : G, Ex g g1 →
  (∃ m0 : Nat, Inv m0 (0 : Int) (0 : Int) (0 : Int) g1)) ∧
  ∀ (m : Nat) (nodes depth v_1 : Int) (g2 : G), Le g g2 → Inv m nodes depth v_1 g2 →
  ifB (ltI v_1 ((x3l : Nat) : Int))
  ((0 ≤ v_1 ∧ v_1 < ((x3l : Nat) : Int)) ∧ derefP x3a fun ad => ∃ (x0_1 x1_1 : Int) (x2_1 : ByteArray) (x3a_1 : Option Addr) (x3l_1 x3c_1 : Nat), g2.w.cell? (Addr.add ad (Int.toNat v_1 * 4)) = some (.int .i64 x0_1) ∧ g2.w.cell? (Addr.add (Addr.add ad (Int.toNat v_1 * 4)) 1) = some (.int .i64 x1_1) ∧ g2.w.cell? (Addr.add (Addr.add ad (Int.toNat v_1 * 4)) 2) = some (.string x2_1) ∧ g2.w.cell? (Addr.add (Addr.add ad (Int.toNat v_1 * 4)) 3) = some (.slice x3a_1 x3l_1 x3c_1) ∧ ∀ g3 : G, Ex g2 g3 →
  (CallsP Tryz.prog 69 #[(.agg ⟨[(.int .i64 x0_1), (.int .i64 x1_1), (.string x2_1), (.slice x3a_1 x3l_1 x3c_1)]⟩)] g3 fun v g4 =>
  ∃ x0_2 x1_2 : Int, v = (.tuple ⟨[(.int .i64 x0_2), (.int .i64 x1_2)]⟩) ∧ InI64 (nodes + x0_2) ∧ InI64 (v_1 + (1 : Int)) ∧ (∃ m_1 : Nat, m_1 < m ∧ Inv m_1 (nodes + x0_2) (maxI depth x1_2) (v_1 + (1 : Int)) g4)))
  (InI64 (nodes + (1 : Int)) ∧ InI64 (depth + (1 : Int)) ∧ ∀ g5 : G, Ex g2 g5 →
  R (.tuple ⟨[(.int .i64 (nodes + (1 : Int))), (.int .i64 (depth + (1 : Int)))]⟩) g5)
theorem F69_eq (x0 : Int) (x1 : Int) (x2 : ByteArray) (x3a : Option Addr) (x3l : Nat) (x3c : Nat) (g : G) (R : Value → G → Prop) : fnG cfg69 31 [.tmp 2, .tmp 3] c69 an69 [(.agg ⟨[(.int .i64 x0), (.int .i64 x1), (.string x2), (.slice x3a x3l x3c)]⟩)] g nobody R = F69 x0 x1 x2 x3a x3l x3c g R := by kernel_rfl
theorem call69 (x0 : Int) (x1 : Int) (x2 : ByteArray) (x3a : Option Addr) (x3l : Nat) (x3c : Nat) (g : G) (R : Value → G → Prop) (hF : F69 x0 x1 x2 x3a x3l x3c g R) : CallsG Tryz.prog 69 #[(.agg ⟨[(.int .i64 x0), (.int .i64 x1), (.string x2), (.slice x3a x3l x3c)]⟩)] g nobody R :=
  fn_soundG (c := cfg69) TTok FNSok mixed Tryz.func69 (show Tryz.f69.body = some c69 by kernel_rfl) (show Tryz.f69.ntmps = 31 by kernel_rfl) (show Tryz.f69.results.toList = [.tmp 2, .tmp 3] by kernel_rfl) rfl ((F69_eq x0 x1 x2 x3a x3l x3c g R ).mpr hF)
noncomputable def c70 : Code := match Tryz.f70.body with
  | some c => c
  | none => .skip
noncomputable def cfg70 : Cfg := ⟨Tryz.prog, TT, FNS, [4, 8], [(4, 4), (8, 8), (15, 4), (24, 4)], [], TCH, false, false, none, PNF, false⟩
def an70 : AnnG := (.seq .leaf (.seq (.seq .leaf (.cond (.seq .leaf .leaf) .leaf)) (.seq (.seq .leaf (.blk (.loop ⟨[(18, .int .i64)], [], []⟩ (.seq .leaf (.seq (.cond .leaf .leaf) (.seq (.blk (.seq .leaf (.seq .leaf (.seq (.seq .leaf (.cond .leaf .leaf)) (.seq .leaf (.cond (.seq .leaf .leaf) .leaf)))))) .leaf)))))) (.seq .leaf .leaf))))
def F70 (c : Option Addr) (x0 : Int) (x1 : Int) (x2 : ByteArray) (x3a : Option Addr) (x3l : Nat) (x3c : Nat) (locals : Int) (g : G) (R : Value → G → Prop) : Prop :=
  ∀ g1 : G, Ex g g1 →
  (CallsP Tryz.prog 92 #[(.pointer c), (.agg ⟨[(.int .i64 x0), (.int .i64 x1), (.string x2), (.slice x3a x3l x3c)]⟩), (.int .i64 locals)] g1 fun v g2 =>
  ∃ x : Bool, v = (.bool x) ∧ ifB (!x)
  (∀ g3 : G, Ex g2 g3 →
  R (.bool false) g3)
  (∃ Inv : Nat → Int → G → Prop, ((∃ m0 : Nat, Inv m0 (0 : Int) g2)) ∧
  ∀ (m : Nat) (v_1 : Int) (g4 : G), Le g2 g4 → Inv m v_1 g4 →
  ifB (ltI v_1 ((x3l : Nat) : Int))
  ((0 ≤ v_1 ∧ v_1 < ((x3l : Nat) : Int)) ∧ derefP x3a fun ad => ∃ (x0_1 x1_1 : Int) (x2_1 : ByteArray) (x3a_1 : Option Addr) (x3l_1 x3c_1 : Nat), g4.w.cell? (Addr.add ad (Int.toNat v_1 * 4)) = some (.int .i64 x0_1) ∧ g4.w.cell? (Addr.add (Addr.add ad (Int.toNat v_1 * 4)) 1) = some (.int .i64 x1_1) ∧ g4.w.cell? (Addr.add (Addr.add ad (Int.toNat v_1 * 4)) 2) = some (.string x2_1) ∧ g4.w.cell? (Addr.add (Addr.add ad (Int.toNat v_1 * 4)) 3) = some (.slice x3a_1 x3l_1 x3c_1) ∧ ∀ g5 : G, Ex g4 g5 →
  (CallsP Tryz.prog 66 #[(.int .i64 x0), (.int .i64 v_1)] g5 fun v g6 =>
  ∃ x_1 : Bool, v = (.bool x_1) ∧ ifB x_1
  (InI64 (locals + (1 : Int)) ∧ (CallsP Tryz.prog 70 #[(.pointer c), (.agg ⟨[(.int .i64 x0_1), (.int .i64 x1_1), (.string x2_1), (.slice x3a_1 x3l_1 x3c_1)]⟩), (.int .i64 (locals + (1 : Int)))] g6 fun v g7 =>
  ∃ x_2 : Bool, v = (.bool x_2) ∧ ifB (!x_2)
  (∀ g8 : G, Ex g7 g8 →
  R (.bool false) g8)
  (InI64 (v_1 + (1 : Int)) ∧ (∃ m_1 : Nat, m_1 < m ∧ Inv m_1 (v_1 + (1 : Int)) g7))))
  ((CallsP Tryz.prog 70 #[(.pointer c), (.agg ⟨[(.int .i64 x0_1), (.int .i64 x1_1), (.string x2_1), (.slice x3a_1 x3l_1 x3c_1)]⟩), (.int .i64 locals)] g6 fun v g9 =>
  ∃ x_3 : Bool, v = (.bool x_3) ∧ ifB (!x_3)
  (∀ g10 : G, Ex g9 g10 →
  R (.bool false) g10)
  (InI64 (v_1 + (1 : Int)) ∧ (∃ m_1 : Nat, m_1 < m ∧ Inv m_1 (v_1 + (1 : Int)) g9))))))
  (∀ g11 : G, Ex g4 g11 →
  R (.bool true) g11)))
theorem F70_eq (c : Option Addr) (x0 : Int) (x1 : Int) (x2 : ByteArray) (x3a : Option Addr) (x3l : Nat) (x3c : Nat) (locals : Int) (g : G) (R : Value → G → Prop) : fnG cfg70 36 [.tmp 6] c70 an70 [(.pointer c), (.agg ⟨[(.int .i64 x0), (.int .i64 x1), (.string x2), (.slice x3a x3l x3c)]⟩), (.int .i64 locals)] g nobody R = F70 c x0 x1 x2 x3a x3l x3c locals g R := by kernel_rfl
theorem call70 (c : Option Addr) (x0 : Int) (x1 : Int) (x2 : ByteArray) (x3a : Option Addr) (x3l : Nat) (x3c : Nat) (locals : Int) (g : G) (R : Value → G → Prop) (hF : F70 c x0 x1 x2 x3a x3l x3c locals g R) : CallsG Tryz.prog 70 #[(.pointer c), (.agg ⟨[(.int .i64 x0), (.int .i64 x1), (.string x2), (.slice x3a x3l x3c)]⟩), (.int .i64 locals)] g nobody R :=
  fn_soundG (c := cfg70) TTok FNSok mixed Tryz.func70 (show Tryz.f70.body = some c70 by kernel_rfl) (show Tryz.f70.ntmps = 36 by kernel_rfl) (show Tryz.f70.results.toList = [.tmp 6] by kernel_rfl) rfl ((F70_eq c x0 x1 x2 x3a x3l x3c locals g R ).mpr hF)
noncomputable def c85 : Code := match Tryz.f85.body with
  | some c => c
  | none => .skip
noncomputable def cfg85 : Cfg := ⟨Tryz.prog, TT, FNS, [], [], [], TCH, false, false, none, PNF, false⟩
def an85 : AnnG := (.seq .leaf (.seq (.seq .leaf (.blk (.join ⟨[(4, .bool)], [], []⟩ (.seq .leaf (.cond .leaf (.seq .leaf (.cond .leaf (.seq .leaf (.cond .leaf .leaf)))))) (.cond (.seq .leaf .leaf) (.join ⟨[(9, .bool)], [], []⟩ (.seq .leaf (.cond .leaf (.seq .leaf (.cond .leaf (.seq .leaf (.cond .leaf (.seq .leaf (.cond .leaf (.seq .leaf (.cond .leaf (.seq .leaf (.cond .leaf (.seq .leaf (.cond .leaf (.seq .leaf (.cond .leaf (.seq .leaf (.cond .leaf .leaf)))))))))))))))))) (.cond (.seq .leaf .leaf) .leaf)))))) (.seq .leaf .leaf)))
def F85 (n : Int) (g : G) (R : Value → G → Prop) : Prop :=
  ∀ J : Bool → G → Prop,
  (∀ (v_1 : Bool) (g1 : G), (ifB v_1
  (∀ g2 : G, Ex g1 g2 →
  R (.int .i64 (1 : Int)) g2)
  (∀ J_1 : Bool → G → Prop,
  (∀ (v_2 : Bool) (g3 : G), (ifB v_2
  (∀ g4 : G, Ex g3 g4 →
  R (.int .i64 (2 : Int)) g4)
  (∀ g5 : G, Ex g3 g5 →
  R (.int .i64 (0 : Int)) g5)) → J_1 v_2 g3) →
  ifB (eqI n (1 : Int))
  (J_1 true g1)
  (ifB (eqI n (2 : Int))
  (J_1 true g1)
  (ifB (eqI n (3 : Int))
  (J_1 true g1)
  (ifB (eqI n (4 : Int))
  (J_1 true g1)
  (ifB (eqI n (5 : Int))
  (J_1 true g1)
  (ifB (eqI n (7 : Int))
  (J_1 true g1)
  (ifB (eqI n (8 : Int))
  (J_1 true g1)
  (ifB (eqI n (9 : Int))
  (J_1 true g1)
  (ifB (eqI n (10 : Int))
  (J_1 true g1)
  (J_1 (eqI n (12 : Int)) g1))))))))))) → J v_1 g1) →
  ifB (eqI n (6 : Int))
  (J true g)
  (ifB (eqI n (11 : Int))
  (J true g)
  (ifB (eqI n (13 : Int))
  (J true g)
  (J (eqI n (14 : Int)) g)))
theorem F85_eq (n : Int) (g : G) (R : Value → G → Prop) : fnG cfg85 20 [.tmp 2] c85 an85 [(.int .i64 n)] g nobody R = F85 n g R := by kernel_rfl
theorem call85 (n : Int) (g : G) (R : Value → G → Prop) (hF : F85 n g R) : CallsG Tryz.prog 85 #[(.int .i64 n)] g nobody R :=
  fn_soundG (c := cfg85) TTok FNSok mixed Tryz.func85 (show Tryz.f85.body = some c85 by kernel_rfl) (show Tryz.f85.ntmps = 20 by kernel_rfl) (show Tryz.f85.results.toList = [.tmp 2] by kernel_rfl) rfl ((F85_eq n g R ).mpr hF)
noncomputable def c86 : Code := match Tryz.f86.body with
  | some c => c
  | none => .skip
noncomputable def cfg86 : Cfg := ⟨Tryz.prog, TT, FNS, [3, 10], [(3, 3), (10, 10), (24, 3)], [], TCH, false, false, none, PNF, false⟩
def an86 : AnnG := (.seq .leaf (.join ⟨[], [], []⟩ (.seq .leaf (.cond (.seq .leaf .leaf) .leaf)) (.seq .leaf (.seq (.seq .leaf (.blk (.loop ⟨[(8, .int .i64), (27, .int .i64)], [], []⟩ (.seq .leaf (.seq (.cond .leaf .leaf) (.seq (.blk (.seq .leaf (.seq .leaf (.seq (.seq .leaf (.cond (.seq .leaf .leaf) .leaf)) .leaf)))) .leaf)))))) (.seq .leaf .leaf)))))
def F86 (x0 : Int) (x1 : Int) (x2 : ByteArray) (x3a : Option Addr) (x3l : Nat) (x3c : Nat) (left : Int) (depth : Int) (g : G) (R : Value → G → Prop) : Prop :=
  ∀ J : G → Prop,
  (∀ g1 : G, (∃ Inv : Nat → Int → Int → G → Prop, ((∃ m0 : Nat, Inv m0 (1 : Int) (0 : Int) g1)) ∧
  ∀ (m : Nat) (n v_1 : Int) (g2 : G), Le g1 g2 → Inv m n v_1 g2 →
  ifB (ltI v_1 ((x3l : Nat) : Int))
  ((0 ≤ v_1 ∧ v_1 < ((x3l : Nat) : Int)) ∧ derefP x3a fun ad => ∃ (x0_1 x1_1 : Int) (x2_1 : ByteArray) (x3a_1 : Option Addr) (x3l_1 x3c_1 : Nat), g2.w.cell? (Addr.add ad (Int.toNat v_1 * 4)) = some (.int .i64 x0_1) ∧ g2.w.cell? (Addr.add (Addr.add ad (Int.toNat v_1 * 4)) 1) = some (.int .i64 x1_1) ∧ g2.w.cell? (Addr.add (Addr.add ad (Int.toNat v_1 * 4)) 2) = some (.string x2_1) ∧ g2.w.cell? (Addr.add (Addr.add ad (Int.toNat v_1 * 4)) 3) = some (.slice x3a_1 x3l_1 x3c_1) ∧ InI64 (left - n) ∧ InI64 (depth + (1 : Int)) ∧ ∀ g3 : G, Ex g2 g3 →
  (CallsP Tryz.prog 86 #[(.agg ⟨[(.int .i64 x0_1), (.int .i64 x1_1), (.string x2_1), (.slice x3a_1 x3l_1 x3c_1)]⟩), (.int .i64 (left - n)), (.int .i64 (depth + (1 : Int)))] g3 fun v g4 =>
  ∃ (x0_2 : Int) (x1_2 : Bool), v = (.tuple ⟨[(.int .i64 x0_2), (.bool x1_2)]⟩) ∧ ifB (!x1_2)
  (∀ g5 : G, Ex g4 g5 →
  R (.tuple ⟨[(.int .i64 (0 : Int)), (.bool false)]⟩) g5)
  (InI64 (n + x0_2) ∧ InI64 (v_1 + (1 : Int)) ∧ (∃ m_1 : Nat, m_1 < m ∧ Inv m_1 (n + x0_2) (v_1 + (1 : Int)) g4))))
  (∀ g6 : G, Ex g2 g6 →
  R (.tuple ⟨[(.int .i64 n), (.bool true)]⟩) g6)) → J g1) →
  ifB (leI left (0 : Int))
  (∀ g7 : G, Ex g g7 →
  R (.tuple ⟨[(.int .i64 (0 : Int)), (.bool false)]⟩) g7)
  (ifB (ltI (400 : Int) depth)
  (∀ g8 : G, Ex g g8 →
  R (.tuple ⟨[(.int .i64 (0 : Int)), (.bool false)]⟩) g8)
  (∀ g9 : G, Ex g g9 →
  (CallsP Tryz.prog 103 #[(.agg ⟨[(.int .i64 x0), (.int .i64 x1), (.string x2), (.slice x3a x3l x3c)]⟩)] g9 fun v g10 =>
  ∃ x : Bool, v = (.bool x) ∧ ifB (!x)
  (∀ g11 : G, Ex g10 g11 →
  R (.tuple ⟨[(.int .i64 (0 : Int)), (.bool false)]⟩) g11)
  (J g10))))
theorem F86_eq (x0 : Int) (x1 : Int) (x2 : ByteArray) (x3a : Option Addr) (x3l : Nat) (x3c : Nat) (left : Int) (depth : Int) (g : G) (R : Value → G → Prop) : fnG cfg86 48 [.tmp 6, .tmp 7] c86 an86 [(.agg ⟨[(.int .i64 x0), (.int .i64 x1), (.string x2), (.slice x3a x3l x3c)]⟩), (.int .i64 left), (.int .i64 depth)] g nobody R = F86 x0 x1 x2 x3a x3l x3c left depth g R := by kernel_rfl
theorem call86 (x0 : Int) (x1 : Int) (x2 : ByteArray) (x3a : Option Addr) (x3l : Nat) (x3c : Nat) (left : Int) (depth : Int) (g : G) (R : Value → G → Prop) (hF : F86 x0 x1 x2 x3a x3l x3c left depth g R) : CallsG Tryz.prog 86 #[(.agg ⟨[(.int .i64 x0), (.int .i64 x1), (.string x2), (.slice x3a x3l x3c)]⟩), (.int .i64 left), (.int .i64 depth)] g nobody R :=
  fn_soundG (c := cfg86) TTok FNSok mixed Tryz.func86 (show Tryz.f86.body = some c86 by kernel_rfl) (show Tryz.f86.ntmps = 48 by kernel_rfl) (show Tryz.f86.results.toList = [.tmp 6, .tmp 7] by kernel_rfl) rfl ((F86_eq x0 x1 x2 x3a x3l x3c left depth g R ).mpr hF)
noncomputable def c87 : Code := match Tryz.f87.body with
  | some c => c
  | none => .skip
noncomputable def cfg87 : Cfg := ⟨Tryz.prog, TT, FNS, [2], [(2, 2), (5, 2)], [], TCH, false, false, none, PNF, false⟩
def an87 : AnnG := (.seq .leaf (.seq (.seq .leaf (.blk (.join ⟨[(7, .bool)], [], []⟩ (.seq .leaf (.cond .leaf .leaf)) (.cond (.seq .leaf .leaf) (.seq (.seq .leaf (.cond .leaf .leaf)) (.cond (.seq .leaf .leaf) .leaf)))))) (.seq .leaf .leaf)))
def F87 (x0 : Int) (x1 : Int) (x2 : ByteArray) (x3a : Option Addr) (x3l : Nat) (x3c : Nat) (part : Int) (g : G) (R : Value → G → Prop) : Prop :=
  ∀ J : Bool → G → Prop,
  (∀ (v_1 : Bool) (g1 : G), (ifB v_1
  (∀ g2 : G, Ex g1 g2 →
  R (.bool true) g2)
  (ifB (eqI x0 (11 : Int))
  (∀ g3 : G, Ex g1 g3 →
  R (.bool (ltI (0 : Int) part)) g3)
  (ifB (eqI x0 (9 : Int))
  (∀ g4 : G, Ex g1 g4 →
  R (.bool (ltI (0 : Int) part)) g4)
  (∀ g5 : G, Ex g1 g5 →
  R (.bool false) g5)))) → J v_1 g1) →
  ifB (eqI x0 (4 : Int))
  (∀ g6 : G, Ex g g6 →
  J true g6)
  (∀ g7 : G, Ex g g7 →
  J (eqI x0 (10 : Int)) g7)
theorem F87_eq (x0 : Int) (x1 : Int) (x2 : ByteArray) (x3a : Option Addr) (x3l : Nat) (x3c : Nat) (part : Int) (g : G) (R : Value → G → Prop) : fnG cfg87 15 [.tmp 4] c87 an87 [(.agg ⟨[(.int .i64 x0), (.int .i64 x1), (.string x2), (.slice x3a x3l x3c)]⟩), (.int .i64 part)] g nobody R = F87 x0 x1 x2 x3a x3l x3c part g R := by kernel_rfl
theorem call87 (x0 : Int) (x1 : Int) (x2 : ByteArray) (x3a : Option Addr) (x3l : Nat) (x3c : Nat) (part : Int) (g : G) (R : Value → G → Prop) (hF : F87 x0 x1 x2 x3a x3l x3c part g R) : CallsG Tryz.prog 87 #[(.agg ⟨[(.int .i64 x0), (.int .i64 x1), (.string x2), (.slice x3a x3l x3c)]⟩), (.int .i64 part)] g nobody R :=
  fn_soundG (c := cfg87) TTok FNSok mixed Tryz.func87 (show Tryz.f87.body = some c87 by kernel_rfl) (show Tryz.f87.ntmps = 15 by kernel_rfl) (show Tryz.f87.results.toList = [.tmp 4] by kernel_rfl) rfl ((F87_eq x0 x1 x2 x3a x3l x3c part g R ).mpr hF)
noncomputable def c90 : Code := match Tryz.f90.body with
  | some c => c
  | none => .skip
noncomputable def cfg90 : Cfg := ⟨Tryz.prog, TT, FNS, [6], [(6, 6)], [], TCH, false, false, none, PNF, false⟩
def an90 : AnnG := (.seq .leaf (.seq .leaf .leaf))
def F90 (op : Int) (n : Int) (la : Option Addr) (ll : Nat) (lc : Nat) (g : G) (R : Value → G → Prop) : Prop :=
  ∀ g1 : G, Ex g g1 →
  ∀ g2 : G, Ex g1 g2 →
  R (.agg ⟨[(.int .i64 op), (.int .i64 n), (.string (bs [])), (.slice la ll lc)]⟩) g2
theorem F90_eq (op : Int) (n : Int) (la : Option Addr) (ll : Nat) (lc : Nat) (g : G) (R : Value → G → Prop) : fnG cfg90 11 [.cell 6 44] c90 an90 [(.int .i64 op), (.int .i64 n), (.slice la ll lc)] g nobody R = F90 op n la ll lc g R := by kernel_rfl
theorem call90 (op : Int) (n : Int) (la : Option Addr) (ll : Nat) (lc : Nat) (g : G) (R : Value → G → Prop) (hF : F90 op n la ll lc g R) : CallsG Tryz.prog 90 #[(.int .i64 op), (.int .i64 n), (.slice la ll lc)] g nobody R :=
  fn_soundG (c := cfg90) TTok FNSok mixed Tryz.func90 (show Tryz.f90.body = some c90 by kernel_rfl) (show Tryz.f90.ntmps = 11 by kernel_rfl) (show Tryz.f90.results.toList = [.cell 6 44] by kernel_rfl) rfl ((F90_eq op n la ll lc g R ).mpr hF)
noncomputable def c91 : Code := match Tryz.f91.body with
  | some c => c
  | none => .skip
noncomputable def cfg91 : Cfg := ⟨Tryz.prog, TT, FNS, [], [], [], TCH, false, false, none, PNF, false⟩
def an91 : AnnG := (.seq .leaf (.seq .leaf .leaf))
def F91 (sa : Option Addr) (sl : Nat) (sc : Nat) (g : G) (R : Value → G → Prop) : Prop :=
  (0 ≤ ((sl : Nat) : Int) ∧ ((sl : Nat) : Int) ≤ ((sc : Nat) : Int)) ∧ (0 ≤ ((sl : Nat) : Int) ∧ ((sl : Nat) : Int) ≤ (((Int.toNat ((sl : Nat) : Int)) : Nat) : Int)) ∧ ∀ g1 : G, Ex g g1 →
  R (.slice (slAddr sa (Int.toNat ((sl : Nat) : Int)) 0 4) ((Int.toNat ((sl : Nat) : Int)) - 0) ((Int.toNat ((sl : Nat) : Int)) - 0)) g1
theorem F91_eq (sa : Option Addr) (sl : Nat) (sc : Nat) (g : G) (R : Value → G → Prop) : fnG cfg91 9 [.tmp 2] c91 an91 [(.slice sa sl sc)] g nobody R = F91 sa sl sc g R := by kernel_rfl
theorem call91 (sa : Option Addr) (sl : Nat) (sc : Nat) (g : G) (R : Value → G → Prop) (hF : F91 sa sl sc g R) : CallsG Tryz.prog 91 #[(.slice sa sl sc)] g nobody R :=
  fn_soundG (c := cfg91) TTok FNSok mixed Tryz.func91 (show Tryz.f91.body = some c91 by kernel_rfl) (show Tryz.f91.ntmps = 9 by kernel_rfl) (show Tryz.f91.results.toList = [.tmp 2] by kernel_rfl) rfl ((F91_eq sa sl sc g R ).mpr hF)
noncomputable def c92 : Code := match Tryz.f92.body with
  | some c => c
  | none => .skip
noncomputable def cfg92 : Cfg := ⟨Tryz.prog, TT, FNS, [4], [(4, 4), (8, 4), (12, 4), (16, 4), (19, 4), (26, 4), (35, 4), (40, 4), (47, 4), (60, 4), (66, 4), (76, 4), (85, 4), (91, 4), (101, 4), (110, 4), (121, 4), (130, 4), (148, 4)], [], TCH, false, false, none, PNF, false⟩
def an92 : AnnG := (.seq .leaf (.join ⟨[], [], []⟩ (.seq .leaf (.cond (.seq .leaf .leaf) .leaf)) (.seq .leaf (.seq (.seq .leaf (.blk (.seq .leaf (.cond (.seq .leaf .leaf) (.seq .leaf (.cond (.seq .leaf .leaf) (.seq .leaf (.cond (.seq .leaf .leaf) (.join ⟨[(54, .bool)], [], []⟩ (.seq .leaf (.cond .leaf .leaf)) (.cond (.seq .leaf .leaf) (.seq .leaf (.cond (.seq .leaf .leaf) (.join ⟨[(73, .bool)], [], []⟩ (.seq .leaf (.cond .leaf .leaf)) (.cond (.seq .leaf .leaf) (.seq .leaf (.cond (.seq .leaf .leaf) (.seq .leaf (.cond (.seq .leaf .leaf) (.seq .leaf (.cond (.seq .leaf .leaf) (.seq .leaf (.cond (.seq .leaf .leaf) (.seq .leaf (.cond (.seq (.tree 10 (.quiet 0 (.quiet 1 (.quiet 2 (.quiet 3 (.quiet 4 (.quiet 5 (.quiet 6 (.quiet 7 (.quiet 8 (.quiet 9 .fin))))))))))) .leaf) (.seq .leaf (.cond (.seq (.tree 10 (.quiet 0 (.quiet 1 (.quiet 2 (.quiet 3 (.quiet 4 (.quiet 5 (.quiet 6 (.quiet 7 (.quiet 8 (.quiet 9 .fin))))))))))) .leaf) .leaf)))))))))))))))))))))))))) (.seq .leaf .leaf)))))
def F92 (c : Option Addr) (x0 : Int) (x1 : Int) (x2 : ByteArray) (x3a : Option Addr) (x3l : Nat) (x3c : Nat) (locals : Int) (g : G) (R : Value → G → Prop) : Prop :=
  ∀ J : G → Prop,
  (∀ g1 : G, (ifB (eqI x0 (2 : Int))
  (ifB (eqI ((x3l : Nat) : Int) (0 : Int))
  ((CallsP Tryz.prog 41 #[(.int .i64 x1), (.int .i64 (-4503599627370496 : Int)), (.int .i64 (4503599627370496 : Int))] g1 fun v g2 =>
  ∃ x : Bool, v = (.bool x) ∧ ∀ g3 : G, Ex g2 g3 →
  R (.bool x) g3))
  (∀ g4 : G, Ex g1 g4 →
  R (.bool false) g4))
  (ifB (eqI x0 (3 : Int))
  (ifB (eqI ((x3l : Nat) : Int) (0 : Int))
  (ifB (eqI x1 (0 : Int))
  (∀ g5 : G, Ex g1 g5 →
  R (.bool (leI ((x2.size : Nat) : Int) (16384 : Int))) g5)
  (∀ g6 : G, Ex g1 g6 →
  R (.bool false) g6))
  (∀ g7 : G, Ex g1 g7 →
  R (.bool false) g7))
  (ifB (eqI x0 (6 : Int))
  (ifB (eqI x1 (0 : Int))
  (∀ g8 : G, Ex g1 g8 →
  R (.bool (leI ((x3l : Nat) : Int) (1000 : Int))) g8)
  (∀ g9 : G, Ex g1 g9 →
  R (.bool false) g9))
  (∀ J_1 : Bool → G → Prop,
  (∀ (v_1 : Bool) (g10 : G), (ifB v_1
  (ifB (eqI ((x3l : Nat) : Int) (1 : Int))
  ((CallsP Tryz.prog 41 #[(.int .i64 x1), (.int .i64 (0 : Int)), (.int .i64 (999 : Int))] g10 fun v g11 =>
  ∃ x_1 : Bool, v = (.bool x_1) ∧ ∀ g12 : G, Ex g11 g12 →
  R (.bool x_1) g12))
  (∀ g13 : G, Ex g10 g13 →
  R (.bool false) g13))
  (ifB (eqI x0 (9 : Int))
  (ifB (eqI x1 (0 : Int))
  ((CallsP Tryz.prog 41 #[(.int .i64 ((x3l : Nat) : Int)), (.int .i64 (2 : Int)), (.int .i64 (1001 : Int))] g10 fun v g14 =>
  ∃ x_2 : Bool, v = (.bool x_2) ∧ ∀ g15 : G, Ex g14 g15 →
  R (.bool x_2) g15))
  (∀ g16 : G, Ex g10 g16 →
  R (.bool false) g16))
  (∀ J_2 : Bool → G → Prop,
  (∀ (v_2 : Bool) (g17 : G), (ifB v_2
  (ifB (eqI x1 (0 : Int))
  (∀ g18 : G, Ex g17 g18 →
  R (.bool (eqI ((x3l : Nat) : Int) (2 : Int))) g18)
  (∀ g19 : G, Ex g17 g19 →
  R (.bool false) g19))
  (ifB (eqI x0 (12 : Int))
  ((CallsP Tryz.prog 115 #[(.int .i64 x1)] g17 fun v g20 =>
  ∃ x_3 : Int, v = (.int .i64 x_3) ∧ ifB (ltI (0 : Int) x_3)
  ((CallsP Tryz.prog 115 #[(.int .i64 x1)] g20 fun v g21 =>
  ∃ x_4 : Int, v = (.int .i64 x_4) ∧ ∀ g22 : G, Ex g21 g22 →
  R (.bool (eqI ((x3l : Nat) : Int) x_4)) g22))
  (∀ g23 : G, Ex g20 g23 →
  R (.bool false) g23)))
  (ifB (eqI x0 (13 : Int))
  (ifB (eqI ((x3l : Nat) : Int) (0 : Int))
  ((CallsP Tryz.prog 41 #[(.int .i64 x1), (.int .i64 (1 : Int)), (.int .i64 (1000000 : Int))] g17 fun v g24 =>
  ∃ x_5 : Bool, v = (.bool x_5) ∧ ∀ g25 : G, Ex g24 g25 →
  R (.bool x_5) g25))
  (∀ g26 : G, Ex g17 g26 →
  R (.bool false) g26))
  (ifB (eqI x0 (21 : Int))
  (ifB (eqI ((x3l : Nat) : Int) (0 : Int))
  (InI64 (locals - (1 : Int)) ∧ (CallsP Tryz.prog 41 #[(.int .i64 x1), (.int .i64 (0 : Int)), (.int .i64 (locals - (1 : Int)))] g17 fun v g27 =>
  ∃ x_6 : Bool, v = (.bool x_6) ∧ ∀ g28 : G, Ex g27 g28 →
  R (.bool x_6) g28))
  (∀ g29 : G, Ex g17 g29 →
  R (.bool false) g29))
  (ifB (eqI x0 (22 : Int))
  (ifB (eqI ((x3l : Nat) : Int) (0 : Int))
  (∀ g30 : G, Ex g17 g30 →
  R (.bool (eqI x1 (0 : Int))) g30)
  (∀ g31 : G, Ex g17 g31 →
  R (.bool false) g31))
  (ifB (eqI x0 (23 : Int))
  (∀ g32 : G, Ex g17 g32 →
  ifB (eqI ((x3l : Nat) : Int) (0 : Int))
  (derefP c fun ad => ∃ x_7 : Int, g32.w.cell? ad = some (.int .i64 x_7) ∧ InI64 (x_7 - (1 : Int)) ∧ (CallsP Tryz.prog 41 #[(.int .i64 x1), (.int .i64 (0 : Int)), (.int .i64 (x_7 - (1 : Int)))] g32 fun v g33 =>
  ∃ x_8 : Bool, v = (.bool x_8) ∧ ∀ g34 : G, Ex g33 g34 →
  R (.bool x_8) g34))
  (∀ g35 : G, Ex g32 g35 →
  R (.bool false) g35))
  (ifB (eqI x0 (24 : Int))
  (∀ g36 : G, Ex g17 g36 →
  ifB (leI ((x3l : Nat) : Int) (1000 : Int))
  (derefP c fun ad_1 => ∃ xf : FuncId, ∃ xc : Array Value, g36.w.cell? (Addr.add ad_1 1) = some (.func (.func xf) #[] xc) ∧ Enters Tryz.prog xf ∧ (CallsP Tryz.prog xf ((⟨[(.int .i64 x1), (.int .i64 ((x3l : Nat) : Int))]⟩ : Array Value) ++ xc) g36 fun v g37 =>
  ∃ x_9 : Bool, v = (.bool x_9) ∧ ∀ g38 : G, Ex g37 g38 →
  R (.bool x_9) g38))
  (∀ g39 : G, Ex g36 g39 →
  R (.bool false) g39))
  (∀ g40 : G, Ex g17 g40 →
  R (.bool false) g40)))))))) → J_2 v_2 g17) →
  ifB (eqI x0 (11 : Int))
  (J_2 true g10)
  (J_2 (eqI x0 (25 : Int)) g10)))) → J_1 v_1 g10) →
  ifB (eqI x0 (7 : Int))
  (J_1 true g1)
  (J_1 (eqI x0 (8 : Int)) g1))))) → J g1) →
  ifB (!eqI x0 (3 : Int))
  (ifB (!strEq x2 (bs []))
  (∀ g41 : G, Ex g g41 →
  R (.bool false) g41)
  (∀ g42 : G, Ex g g42 →
  J g42))
  (∀ g43 : G, Ex g g43 →
  J g43)
theorem F92_eq (c : Option Addr) (x0 : Int) (x1 : Int) (x2 : ByteArray) (x3a : Option Addr) (x3l : Nat) (x3c : Nat) (locals : Int) (g : G) (R : Value → G → Prop) : fnG cfg92 153 [.tmp 6] c92 an92 [(.pointer c), (.agg ⟨[(.int .i64 x0), (.int .i64 x1), (.string x2), (.slice x3a x3l x3c)]⟩), (.int .i64 locals)] g nobody R = F92 c x0 x1 x2 x3a x3l x3c locals g R := by kernel_rfl
theorem call92 (c : Option Addr) (x0 : Int) (x1 : Int) (x2 : ByteArray) (x3a : Option Addr) (x3l : Nat) (x3c : Nat) (locals : Int) (g : G) (R : Value → G → Prop) (hF : F92 c x0 x1 x2 x3a x3l x3c locals g R) : CallsG Tryz.prog 92 #[(.pointer c), (.agg ⟨[(.int .i64 x0), (.int .i64 x1), (.string x2), (.slice x3a x3l x3c)]⟩), (.int .i64 locals)] g nobody R :=
  fn_soundG (c := cfg92) TTok FNSok mixed Tryz.func92 (show Tryz.f92.body = some c92 by kernel_rfl) (show Tryz.f92.ntmps = 153 by kernel_rfl) (show Tryz.f92.results.toList = [.tmp 6] by kernel_rfl) rfl ((F92_eq c x0 x1 x2 x3a x3l x3c locals g R ).mpr hF)
noncomputable def c103 : Code := match Tryz.f103.body with
  | some c => c
  | none => .skip
noncomputable def cfg103 : Cfg := ⟨Tryz.prog, TT, FNS, [1], [(1, 1), (4, 1), (7, 1), (11, 1), (15, 1), (22, 1), (31, 1), (40, 1), (45, 1), (55, 1), (65, 1), (74, 1), (84, 1), (93, 1), (102, 1), (107, 1), (116, 1), (121, 1), (131, 1)], [], TCH, false, false, none, PNF, false⟩
def an103 : AnnG := (.seq .leaf (.seq .leaf (.join ⟨[], [], []⟩ (.seq .leaf (.cond (.seq .leaf .leaf) .leaf)) (.seq (.seq .leaf (.blk (.seq .leaf (.cond (.seq .leaf .leaf) (.seq .leaf (.cond (.seq .leaf .leaf) (.seq .leaf (.cond (.seq .leaf .leaf) (.seq .leaf (.cond (.seq .leaf .leaf) (.join ⟨[(59, .bool)], [], []⟩ (.seq .leaf (.cond .leaf .leaf)) (.cond (.seq .leaf .leaf) (.seq .leaf (.cond (.seq .leaf .leaf) (.join ⟨[(78, .bool)], [], []⟩ (.seq .leaf (.cond .leaf .leaf)) (.cond (.seq .leaf .leaf) (.seq .leaf (.cond (.seq .leaf .leaf) (.seq .leaf (.cond (.seq .leaf .leaf) (.seq .leaf (.cond (.seq .leaf .leaf) (.seq .leaf (.cond (.seq .leaf .leaf) .leaf)))))))))))))))))))))))) (.seq .leaf .leaf)))))
def F103 (x0 : Int) (x1 : Int) (x2 : ByteArray) (x3a : Option Addr) (x3l : Nat) (x3c : Nat) (g : G) (R : Value → G → Prop) : Prop :=
  ∀ J : G → Prop,
  (∀ g1 : G, (ifB (eqI x0 (1 : Int))
  (ifB (eqI ((x3l : Nat) : Int) (0 : Int))
  (∀ g2 : G, Ex g1 g2 →
  R (.bool (leI (0 : Int) x1)) g2)
  (∀ g3 : G, Ex g1 g3 →
  R (.bool false) g3))
  (ifB (eqI x0 (2 : Int))
  (ifB (eqI ((x3l : Nat) : Int) (0 : Int))
  ((CallsP Tryz.prog 120 #[(.int .i64 x1), (.int .i64 (-4503599627370496 : Int)), (.int .i64 (4503599627370496 : Int))] g1 fun v g4 =>
  ∃ x : Bool, v = (.bool x) ∧ ∀ g5 : G, Ex g4 g5 →
  R (.bool x) g5))
  (∀ g6 : G, Ex g1 g6 →
  R (.bool false) g6))
  (ifB (eqI x0 (3 : Int))
  (ifB (eqI ((x3l : Nat) : Int) (0 : Int))
  (ifB (eqI x1 (0 : Int))
  (∀ g7 : G, Ex g1 g7 →
  R (.bool (leI ((x2.size : Nat) : Int) (16384 : Int))) g7)
  (∀ g8 : G, Ex g1 g8 →
  R (.bool false) g8))
  (∀ g9 : G, Ex g1 g9 →
  R (.bool false) g9))
  (ifB (eqI x0 (4 : Int))
  (ifB (eqI ((x3l : Nat) : Int) (1 : Int))
  (∀ g10 : G, Ex g1 g10 →
  R (.bool (eqI x1 (0 : Int))) g10)
  (∀ g11 : G, Ex g1 g11 →
  R (.bool false) g11))
  (∀ J_1 : Bool → G → Prop,
  (∀ (v_1 : Bool) (g12 : G), (ifB v_1
  (ifB (eqI ((x3l : Nat) : Int) (2 : Int))
  (∀ g13 : G, Ex g12 g13 →
  R (.bool (eqI x1 (0 : Int))) g13)
  (∀ g14 : G, Ex g12 g14 →
  R (.bool false) g14))
  (ifB (eqI x0 (6 : Int))
  (ifB (leI ((x3l : Nat) : Int) (1000 : Int))
  (∀ g15 : G, Ex g12 g15 →
  R (.bool (eqI x1 (0 : Int))) g15)
  (∀ g16 : G, Ex g12 g16 →
  R (.bool false) g16))
  (∀ J_2 : Bool → G → Prop,
  (∀ (v_2 : Bool) (g17 : G), (ifB v_2
  (ifB (eqI ((x3l : Nat) : Int) (1 : Int))
  ((CallsP Tryz.prog 120 #[(.int .i64 x1), (.int .i64 (0 : Int)), (.int .i64 (999 : Int))] g17 fun v g18 =>
  ∃ x_1 : Bool, v = (.bool x_1) ∧ ∀ g19 : G, Ex g18 g19 →
  R (.bool x_1) g19))
  (∀ g20 : G, Ex g17 g20 →
  R (.bool false) g20))
  (ifB (eqI x0 (9 : Int))
  ((CallsP Tryz.prog 120 #[(.int .i64 ((x3l : Nat) : Int)), (.int .i64 (2 : Int)), (.int .i64 (1001 : Int))] g17 fun v g21 =>
  ∃ x_2 : Bool, v = (.bool x_2) ∧ ifB x_2
  (∀ g22 : G, Ex g21 g22 →
  R (.bool (eqI x1 (0 : Int))) g22)
  (∀ g23 : G, Ex g21 g23 →
  R (.bool false) g23)))
  (ifB (eqI x0 (10 : Int))
  (ifB (eqI ((x3l : Nat) : Int) (1 : Int))
  (ifB (eqI x1 (0 : Int))
  ((0 ≤ (0 : Int) ∧ (0 : Int) < ((x3l : Nat) : Int)) ∧ derefP x3a fun ad => ∃ x_3 : Int, g17.w.cell? (Addr.add ad (Int.toNat (0 : Int) * 4)) = some (.int .i64 x_3) ∧ ∀ g24 : G, Ex g17 g24 →
  R (.bool (eqI x_3 (4 : Int))) g24)
  (∀ g25 : G, Ex g17 g25 →
  R (.bool false) g25))
  (∀ g26 : G, Ex g17 g26 →
  R (.bool false) g26))
  (ifB (eqI x0 (12 : Int))
  ((CallsP Tryz.prog 120 #[(.int .i64 x1), (.int .i64 (1 : Int)), (.int .i64 (14 : Int))] g17 fun v g27 =>
  ∃ x_4 : Bool, v = (.bool x_4) ∧ ifB x_4
  ((CallsP Tryz.prog 121 #[(.int .i64 x1)] g27 fun v g28 =>
  ∃ x_5 : Int, v = (.int .i64 x_5) ∧ ∀ g29 : G, Ex g28 g29 →
  R (.bool (eqI ((x3l : Nat) : Int) x_5)) g29))
  (∀ g30 : G, Ex g27 g30 →
  R (.bool false) g30)))
  (ifB (eqI x0 (13 : Int))
  (ifB (eqI ((x3l : Nat) : Int) (0 : Int))
  ((CallsP Tryz.prog 120 #[(.int .i64 x1), (.int .i64 (1 : Int)), (.int .i64 (1000000 : Int))] g17 fun v g31 =>
  ∃ x_6 : Bool, v = (.bool x_6) ∧ ∀ g32 : G, Ex g31 g32 →
  R (.bool x_6) g32))
  (∀ g33 : G, Ex g17 g33 →
  R (.bool false) g33))
  (∀ g34 : G, Ex g17 g34 →
  R (.bool false) g34)))))) → J_2 v_2 g17) →
  ifB (eqI x0 (7 : Int))
  (J_2 true g12)
  (J_2 (eqI x0 (8 : Int)) g12)))) → J_1 v_1 g12) →
  ifB (eqI x0 (5 : Int))
  (J_1 true g1)
  (J_1 (eqI x0 (11 : Int)) g1)))))) → J g1) →
  ifB (!eqI x0 (3 : Int))
  (ifB (!strEq x2 (bs []))
  (∀ g35 : G, Ex g g35 →
  R (.bool false) g35)
  (∀ g36 : G, Ex g g36 →
  J g36))
  (∀ g37 : G, Ex g g37 →
  J g37)
theorem F103_eq (x0 : Int) (x1 : Int) (x2 : ByteArray) (x3a : Option Addr) (x3l : Nat) (x3c : Nat) (g : G) (R : Value → G → Prop) : fnG cfg103 135 [.tmp 2] c103 an103 [(.agg ⟨[(.int .i64 x0), (.int .i64 x1), (.string x2), (.slice x3a x3l x3c)]⟩)] g nobody R = F103 x0 x1 x2 x3a x3l x3c g R := by kernel_rfl
theorem call103 (x0 : Int) (x1 : Int) (x2 : ByteArray) (x3a : Option Addr) (x3l : Nat) (x3c : Nat) (g : G) (R : Value → G → Prop) (hF : F103 x0 x1 x2 x3a x3l x3c g R) : CallsG Tryz.prog 103 #[(.agg ⟨[(.int .i64 x0), (.int .i64 x1), (.string x2), (.slice x3a x3l x3c)]⟩)] g nobody R :=
  fn_soundG (c := cfg103) TTok FNSok mixed Tryz.func103 (show Tryz.f103.body = some c103 by kernel_rfl) (show Tryz.f103.ntmps = 135 by kernel_rfl) (show Tryz.f103.results.toList = [.tmp 2] by kernel_rfl) rfl ((F103_eq x0 x1 x2 x3a x3l x3c g R ).mpr hF)
noncomputable def c115 : Code := match Tryz.f115.body with
  | some c => c
  | none => .skip
noncomputable def cfg115 : Cfg := ⟨Tryz.prog, TT, FNS, [], [], [], TCH, false, false, none, PNF, false⟩
def an115 : AnnG := (.seq .leaf (.join ⟨[], [], []⟩ (.seq .leaf (.blk (.seq (.seq .leaf (.cond .leaf (.seq .leaf (.cond .leaf (.seq .leaf (.cond .leaf .leaf)))))) (.cond (.seq .leaf .leaf) .leaf)))) (.seq (.seq .leaf (.cond (.seq .leaf .leaf) .leaf)) (.seq .leaf .leaf))))
def F115 (n : Int) (g : G) (R : Value → G → Prop) : Prop :=
  ∀ J : G → Prop,
  (∀ g1 : G, (ifB (ltI n (1 : Int))
  (∀ g2 : G, Ex g1 g2 →
  R (.int .i64 (0 : Int)) g2)
  (ifB (ltI (14 : Int) n)
  (∀ g3 : G, Ex g1 g3 →
  R (.int .i64 (0 : Int)) g3)
  (∀ g4 : G, Ex g1 g4 →
  R (.int .i64 (2 : Int)) g4))) → J g1) →
  ifB (eqI n (6 : Int))
  (∀ g5 : G, Ex g g5 →
  R (.int .i64 (1 : Int)) g5)
  (ifB (eqI n (11 : Int))
  (∀ g6 : G, Ex g g6 →
  R (.int .i64 (1 : Int)) g6)
  (ifB (eqI n (13 : Int))
  (∀ g7 : G, Ex g g7 →
  R (.int .i64 (1 : Int)) g7)
  (ifB (eqI n (14 : Int))
  (∀ g8 : G, Ex g g8 →
  R (.int .i64 (1 : Int)) g8)
  (J g))))
theorem F115_eq (n : Int) (g : G) (R : Value → G → Prop) : fnG cfg115 15 [.tmp 2] c115 an115 [(.int .i64 n)] g nobody R = F115 n g R := by kernel_rfl
theorem call115 (n : Int) (g : G) (R : Value → G → Prop) (hF : F115 n g R) : CallsG Tryz.prog 115 #[(.int .i64 n)] g nobody R :=
  fn_soundG (c := cfg115) TTok FNSok mixed Tryz.func115 (show Tryz.f115.body = some c115 by kernel_rfl) (show Tryz.f115.ntmps = 15 by kernel_rfl) (show Tryz.f115.results.toList = [.tmp 2] by kernel_rfl) rfl ((F115_eq n g R ).mpr hF)
noncomputable def c120 : Code := match Tryz.f120.body with
  | some c => c
  | none => .skip
noncomputable def cfg120 : Cfg := ⟨Tryz.prog, TT, FNS, [], [], [], TCH, false, false, none, PNF, false⟩
def an120 : AnnG := (.seq .leaf (.seq .leaf .leaf))
def F120 (n : Int) (low : Int) (high : Int) (g : G) (R : Value → G → Prop) : Prop :=
  ifB (leI low n)
  (∀ g1 : G, Ex g g1 →
  R (.bool (leI n high)) g1)
  (∀ g2 : G, Ex g g2 →
  R (.bool false) g2)
theorem F120_eq (n : Int) (low : Int) (high : Int) (g : G) (R : Value → G → Prop) : fnG cfg120 15 [.tmp 6] c120 an120 [(.int .i64 n), (.int .i64 low), (.int .i64 high)] g nobody R = F120 n low high g R := by kernel_rfl
theorem call120 (n : Int) (low : Int) (high : Int) (g : G) (R : Value → G → Prop) (hF : F120 n low high g R) : CallsG Tryz.prog 120 #[(.int .i64 n), (.int .i64 low), (.int .i64 high)] g nobody R :=
  fn_soundG (c := cfg120) TTok FNSok mixed Tryz.func120 (show Tryz.f120.body = some c120 by kernel_rfl) (show Tryz.f120.ntmps = 15 by kernel_rfl) (show Tryz.f120.results.toList = [.tmp 6] by kernel_rfl) rfl ((F120_eq n low high g R ).mpr hF)
noncomputable def c121 : Code := match Tryz.f121.body with
  | some c => c
  | none => .skip
noncomputable def cfg121 : Cfg := ⟨Tryz.prog, TT, FNS, [], [], [], TCH, false, false, none, PNF, false⟩
def an121 : AnnG := (.seq .leaf (.seq (.seq .leaf (.blk (.seq (.seq .leaf (.cond .leaf (.seq .leaf (.cond .leaf (.seq .leaf (.cond .leaf .leaf)))))) (.cond (.seq .leaf .leaf) .leaf)))) (.seq .leaf .leaf)))
def F121 (n : Int) (g : G) (R : Value → G → Prop) : Prop :=
  ifB (eqI n (6 : Int))
  (∀ g1 : G, Ex g g1 →
  R (.int .i64 (1 : Int)) g1)
  (ifB (eqI n (11 : Int))
  (∀ g2 : G, Ex g g2 →
  R (.int .i64 (1 : Int)) g2)
  (ifB (eqI n (13 : Int))
  (∀ g3 : G, Ex g g3 →
  R (.int .i64 (1 : Int)) g3)
  (ifB (eqI n (14 : Int))
  (∀ g4 : G, Ex g g4 →
  R (.int .i64 (1 : Int)) g4)
  (∀ g5 : G, Ex g g5 →
  R (.int .i64 (2 : Int)) g5))))
theorem F121_eq (n : Int) (g : G) (R : Value → G → Prop) : fnG cfg121 9 [.tmp 2] c121 an121 [(.int .i64 n)] g nobody R = F121 n g R := by kernel_rfl
theorem call121 (n : Int) (g : G) (R : Value → G → Prop) (hF : F121 n g R) : CallsG Tryz.prog 121 #[(.int .i64 n)] g nobody R :=
  fn_soundG (c := cfg121) TTok FNSok mixed Tryz.func121 (show Tryz.f121.body = some c121 by kernel_rfl) (show Tryz.f121.ntmps = 9 by kernel_rfl) (show Tryz.f121.results.toList = [.tmp 2] by kernel_rfl) rfl ((F121_eq n g R ).mpr hF)
end Go.Proofs.YthlcdgpemjdgnaaGreatDoor
