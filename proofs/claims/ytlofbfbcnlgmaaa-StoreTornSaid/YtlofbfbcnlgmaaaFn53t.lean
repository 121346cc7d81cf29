/- Printed by a program (wip/tools/gen2.py): for each function its condition as a plain formula, and that the formula gives the call. -/
import Derived.Test.YtlofbfbcnlgmaaaProg
import Derived.Test.YtlofbfbcnlgmaaaVda
namespace Go.Proofs.Ytlofbfbcnlgmaaa.Torn
open Go Go.Vc Go.RowKit
set_option maxRecDepth 100000
set_option linter.unusedVariables false
def TT : List TI := [
  ⟨3, .int .i64, 1, 8, some (.int .i64 (0 : Int)), (.e (.one (.int .i64)))⟩,
  ⟨4, .bool, 1, 1, some (.bool false), (.e (.one (.bool)))⟩,
  ⟨5, .int .u8, 1, 1, some (.int .u8 (0 : Int)), (.e (.one (.int .u8)))⟩,
  ⟨9, .string, 1, 16, some (.string (bs [])), (.e (.one (.str)))⟩,
  ⟨22, .slice 5, 1, 24, some (.slice none 0 0), (.e (.one (.sl)))⟩,
  ⟨24, .struct #[{ name := "Bytes", type := 22, offset := 0, embedded := false, tag := "", pkgPath := "", byteOffset := 0 }, { name := "Durable", type := 3, offset := 1, embedded := false, tag := "", pkgPath := "", byteOffset := 24 }, { name := "After", type := 3, offset := 2, embedded := false, tag := "", pkgPath := "", byteOffset := 32 }], 3, 40, some (.agg ⟨[(.slice none 0 0), (.int .i64 (0 : Int)), (.int .i64 (0 : Int))]⟩), (.e (.agg [(.sl), (.int .i64), (.int .i64)]))⟩,
  ⟨27, .int .i64, 1, 8, some (.int .i64 (0 : Int)), (.e (.one (.int .i64)))⟩,
  ⟨28, .tuple #[24, 27], 1, 0, some (.tuple ⟨[(.agg ⟨[(.slice none 0 0), (.int .i64 (0 : Int)), (.int .i64 (0 : Int))]⟩), (.int .i64 (0 : Int))]⟩), (.tup [(.agg [(.sl), (.int .i64), (.int .i64)]), (.one (.int .i64))])⟩,
  ⟨36, .slice 67, 1, 24, some (.slice none 0 0), (.e (.one (.sl)))⟩,
  ⟨44, .tuple #[36, 27], 1, 0, some (.tuple ⟨[(.slice none 0 0), (.int .i64 (0 : Int))]⟩), (.tup [(.one (.sl)), (.one (.int .i64))])⟩,
  ⟨48, .slice 54, 1, 24, some (.slice none 0 0), (.e (.one (.sl)))⟩,
  ⟨49, .int .u16, 1, 2, some (.int .u16 (0 : Int)), (.e (.one (.int .u16)))⟩,
  ⟨51, .slice 36, 1, 24, some (.slice none 0 0), (.e (.one (.sl)))⟩,
  ⟨52, .slice 3, 1, 24, some (.slice none 0 0), (.e (.one (.sl)))⟩,
  ⟨54, .struct #[{ name := "Key", type := 9, offset := 0, embedded := false, tag := "", pkgPath := "", byteOffset := 0 }, { name := "Data", type := 22, offset := 1, embedded := false, tag := "", pkgPath := "", byteOffset := 16 }, { name := "Delete", type := 4, offset := 2, embedded := false, tag := "", pkgPath := "", byteOffset := 40 }], 3, 48, some (.agg ⟨[(.string (bs [])), (.slice none 0 0), (.bool false)]⟩), (.e (.agg [(.str), (.sl), (.bool)]))⟩,
  ⟨59, .tuple #[22, 27], 1, 0, some (.tuple ⟨[(.slice none 0 0), (.int .i64 (0 : Int))]⟩), (.tup [(.one (.sl)), (.one (.int .i64))])⟩]
theorem TTok : TOk Try.prog TT := tok_of (by kernel_rfl)
def FNS : List Nat := [10, 12, 22, 27, 28, 29, 30, 31, 32, 33, 35]
theorem FNSok : FOk Try.prog FNS := fok_of (by kernel_rfl)
theorem mixed : Try.prog.follows .mixedOrders = true := by kernel_rfl
def TCH : List Nat := [56, 58]

/- 6 pilaster/pilasterlaw53.StoreTorn -/
noncomputable def c6 : Code := match Try.f6.body with
  | some c => c
  | none => .skip
noncomputable def cfg6 : Cfg := ⟨Try.prog, TT, FNS, [7, 12, 13, 22], [(7, 7), (12, 12), (13, 13), (22, 22), (66, 7), (72, 7), (78, 7), (82, 7), (85, 7), (86, 7), (106, 7)], [17], TCH, false, false⟩
def an6 : AnnG := (.seq .leaf (.join ⟨[], [], []⟩ (.seq .leaf (.cond (.seq .leaf .leaf) .leaf)) (.seq .leaf (.seq (.seq .leaf (.cond (.seq .leaf .leaf) .leaf)) (.seq .leaf (.seq .leaf (.seq (.seq .leaf (.blk (.loop ⟨[(9, .sl), (10, .sl), (41, .int .i64)], [(7, 7, 0)], [(7, [(.sl), (.int .i64), (.int .i64)])]⟩ (.seq .leaf (.seq (.cond .leaf .leaf) (.seq (.blk (.seq .leaf (.seq .leaf (.seq (.seq .leaf (.cond .leaf .leaf)) (.seq .leaf (.seq (.seq .leaf (.cond (.seq .leaf .leaf) .leaf)) (.seq .leaf (.treeB 9 (.quiet 0 (.quiet 1 (.quiet 4 (.quiet 5 (.quiet 6 (.quiet 7 (.eff 2 (.eff 3 (.eff 8 .fin .fin) (.eff 8 (.eff 3 .fin .fin) .fin)) (.eff 8 (.eff 2 (.eff 3 .fin .fin) .fin) .fin)))))))))))))))) .leaf)))))) (.seq (.seq .leaf (.cond (.seq .leaf .leaf) .leaf)) (.seq .leaf (.seq .leaf (.seq .leaf (.seq .leaf (.seq .leaf (.join ⟨[(19, .int .i64)], [], []⟩ (.seq .leaf (.cond .leaf .leaf)) (.seq (.seq .leaf (.cond (.seq .leaf .leaf) .leaf)) (.seq .leaf (.join ⟨[], [], []⟩ (.seq .leaf (.cond (.seq .leaf .leaf) .leaf)) (.seq .leaf (.seq .leaf (.seq .leaf .leaf))))))))))))))))))))
def F6 (la : Option Addr) (ll : Nat) (lc : Nat) (at0 : Int) (bit : Int) (g : G) (R : Value → G → Prop) : Prop :=
  ∀ J : G → Prop,
  (∀ g1 : G, ((CallsP Try.prog 22 #[(.int .i64 (-1 : Int))] g1 fun v g2 =>
  ∃ x00a : Option Addr, ∃ x00l : Nat, ∃ x00c : Nat, ∃ x01 : Int, ∃ x02 : Int, ∃ x1 : Int, v = (.tuple ⟨[(.agg ⟨[(.slice x00a x00l x00c), (.int .i64 x01), (.int .i64 x02)]⟩), (.int .i64 x1)]⟩) ∧ ifB (!eqI x1 (0 : Int))
  (∀ g3 : G, Ex g2 g3 →
  R (.bool false) g3)
  (∃ Inv : Nat → Option Addr → Nat → Nat → Option Addr → Nat → Nat → Int → Option Addr → Nat → Nat → Int → Int → G → Prop, (∀ g4 : G, Ex g2 g4 →
  (∃ m0 : Nat, Inv m0 none 0 0 none 0 0 (0 : Int) x00a x00l x00c x01 x02 g4)) ∧
  ∀ m : Nat, ∀ beforea : Option Addr, ∀ beforel : Nat, ∀ beforec : Nat, ∀ endsa : Option Addr, ∀ endsl : Nat, ∀ endsc : Nat, ∀ v_1 : Int, ∀ s0a : Option Addr, ∀ s0l : Nat, ∀ s0c : Nat, ∀ s1 : Int, ∀ s2 : Int, ∀ g5 : G, Le g2 g5 → Inv m beforea beforel beforec endsa endsl endsc v_1 s0a s0l s0c s1 s2 g5 →
  ifB (ltI v_1 ((ll : Nat) : Int))
  ((0 ≤ v_1 ∧ v_1 < ((ll : Nat) : Int)) ∧ derefP la fun ad => ∃ x0 : ByteArray, ∃ x1a : Option Addr, ∃ x1l : Nat, ∃ x1c : Nat, ∃ x2 : Bool, g5.w.cell? (Addr.add ad (Int.toNat v_1 * 3)) = some (.string x0) ∧ g5.w.cell? (Addr.add (Addr.add ad (Int.toNat v_1 * 3)) 1) = some (.slice x1a x1l x1c) ∧ g5.w.cell? (Addr.add (Addr.add ad (Int.toNat v_1 * 3)) 2) = some (.bool x2) ∧ ∀ g6 : G, Ex g5 g6 →
  (CallsP Try.prog 31 #[(.agg ⟨[(.slice s0a s0l s0c), (.int .i64 s1), (.int .i64 s2)]⟩), (.agg ⟨[(.string x0), (.slice x1a x1l x1c), (.bool x2)]⟩)] g6 fun v g7 =>
  ∃ x00a_1 : Option Addr, ∃ x00l_1 : Nat, ∃ x00c_1 : Nat, ∃ x01_1 : Int, ∃ x02_1 : Int, ∃ x1_1 : Int, v = (.tuple ⟨[(.agg ⟨[(.slice x00a_1 x00l_1 x00c_1), (.int .i64 x01_1), (.int .i64 x02_1)]⟩), (.int .i64 x1_1)]⟩) ∧ ifB (!eqI x1_1 (0 : Int))
  (InI64 (v_1 + (1 : Int)) ∧ ∀ g8 : G, Ex g7 g8 →
  (∃ m_1 : Nat, m_1 < m ∧ Inv m_1 beforea beforel beforec endsa endsl endsc (v_1 + (1 : Int)) s0a s0l s0c s1 s2 g8))
  (∀ g9 : G, Ex g7 g9 →
  (CallsP Try.prog 27 #[(.agg ⟨[(.slice s0a s0l s0c), (.int .i64 s1), (.int .i64 s2)]⟩)] g9 fun v g10 =>
  ∃ x0a : Option Addr, ∃ x0l : Nat, ∃ x0c : Nat, ∃ x1_2 : Int, v = (.tuple ⟨[(.slice x0a x0l x0c), (.int .i64 x1_2)]⟩) ∧ ifB (!eqI x1_2 (0 : Int))
  (∀ g11 : G, Ex g10 g11 →
  R (.bool false) g11)
  (∀ g12 : G, Ex g10 g12 →
  ∃ MR1 : Nat → Prop, (∀ b, MR1 b → ¬ g12.X b) ∧ (∀ g13 : G, NewL g12 g13 36 [(.slice x0a x0l x0c)] →
  (∃ beforea_1 : Option Addr, ∃ beforel_1 : Nat, ∃ beforec_1 : Nat, ∃ w1 : World, Sem.run Try.prog (Builtin.append_ #[51, 51] 51 #[(.slice beforea beforel beforec), (.slice (some ⟨g12.w.heap.size, 0, none⟩) 1 1)]) g13.w = .ok (.slice beforea_1 beforel_1 beforec_1) w1 ∧ ∃ g14 : G, g14.w = w1 ∧ Stp g.w.heap.size nobody g13 g14 ∧ SameBut MR1 g12 g14 ∧ ∀ g15 : G, NewL g14 g15 3 [(.int .i64 ((x00l_1 : Nat) : Int))] →
  ∃ endsa_1 : Option Addr, ∃ endsl_1 : Nat, ∃ endsc_1 : Nat, ∃ w2 : World, Sem.run Try.prog (Builtin.append_ #[52, 52] 52 #[(.slice endsa endsl endsc), (.slice (some ⟨g14.w.heap.size, 0, none⟩) 1 1)]) g15.w = .ok (.slice endsa_1 endsl_1 endsc_1) w2 ∧ ∃ g16 : G, g16.w = w2 ∧ Stp g.w.heap.size nobody g15 g16 ∧ InI64 (v_1 + (1 : Int)) ∧ (∃ m_1 : Nat, m_1 < m ∧ Inv m_1 beforea_1 beforel_1 beforec_1 endsa_1 endsl_1 endsc_1 (v_1 + (1 : Int)) x00a_1 x00l_1 x00c_1 x01_1 x02_1 g16)) ∧ (∀ g17 : G, NewL g13 g17 3 [(.int .i64 ((x00l_1 : Nat) : Int))] →
  ∃ beforea_2 : Option Addr, ∃ beforel_2 : Nat, ∃ beforec_2 : Nat, ∃ w3 : World, Sem.run Try.prog (Builtin.append_ #[51, 51] 51 #[(.slice beforea beforel beforec), (.slice (some ⟨g12.w.heap.size, 0, none⟩) 1 1)]) g17.w = .ok (.slice beforea_2 beforel_2 beforec_2) w3 ∧ ∃ g18 : G, g18.w = w3 ∧ Stp g.w.heap.size nobody g17 g18 ∧ SameBut MR1 g12 g18 ∧ ∃ endsa_2 : Option Addr, ∃ endsl_2 : Nat, ∃ endsc_2 : Nat, ∃ w4 : World, Sem.run Try.prog (Builtin.append_ #[52, 52] 52 #[(.slice endsa endsl endsc), (.slice (some ⟨g13.w.heap.size, 0, none⟩) 1 1)]) g18.w = .ok (.slice endsa_2 endsl_2 endsc_2) w4 ∧ ∃ g19 : G, g19.w = w4 ∧ Stp g.w.heap.size nobody g18 g19 ∧ InI64 (v_1 + (1 : Int)) ∧ (∃ m_1 : Nat, m_1 < m ∧ Inv m_1 beforea_2 beforel_2 beforec_2 endsa_2 endsl_2 endsc_2 (v_1 + (1 : Int)) x00a_1 x00l_1 x00c_1 x01_1 x02_1 g19))) ∧ (∀ g20 : G, NewL g12 g20 3 [(.int .i64 ((x00l_1 : Nat) : Int))] →
  ∀ g21 : G, NewL g20 g21 36 [(.slice x0a x0l x0c)] →
  ∃ beforea_3 : Option Addr, ∃ beforel_3 : Nat, ∃ beforec_3 : Nat, ∃ w5 : World, Sem.run Try.prog (Builtin.append_ #[51, 51] 51 #[(.slice beforea beforel beforec), (.slice (some ⟨g20.w.heap.size, 0, none⟩) 1 1)]) g21.w = .ok (.slice beforea_3 beforel_3 beforec_3) w5 ∧ ∃ g22 : G, g22.w = w5 ∧ Stp g.w.heap.size nobody g21 g22 ∧ SameBut MR1 g12 g22 ∧ ∃ endsa_3 : Option Addr, ∃ endsl_3 : Nat, ∃ endsc_3 : Nat, ∃ w6 : World, Sem.run Try.prog (Builtin.append_ #[52, 52] 52 #[(.slice endsa endsl endsc), (.slice (some ⟨g12.w.heap.size, 0, none⟩) 1 1)]) g22.w = .ok (.slice endsa_3 endsl_3 endsc_3) w6 ∧ ∃ g23 : G, g23.w = w6 ∧ Stp g.w.heap.size nobody g22 g23 ∧ InI64 (v_1 + (1 : Int)) ∧ (∃ m_1 : Nat, m_1 < m ∧ Inv m_1 beforea_3 beforel_3 beforec_3 endsa_3 endsl_3 endsc_3 (v_1 + (1 : Int)) x00a_1 x00l_1 x00c_1 x01_1 x02_1 g23)))))))
  (ifB (eqI ((s0l : Nat) : Int) (0 : Int))
  (∀ g24 : G, Ex g5 g24 →
  R (.bool true) g24)
  (InI64 at0 ∧ ((s0l : Nat) : Int) ≠ 0 ∧ ∀ g25 : G, NewD g5 g25 3 [(.int .i64 (0 : Int))] →
  stOk g25.w ⟨g5.w.heap.size, 0, none⟩ 1 ∧ ¬ g25.X (Addr.block ⟨g5.w.heap.size, 0, none⟩) ∧ mutAt g25 ⟨g5.w.heap.size, 0, none⟩ 1 ∧ ((Addr.block ⟨g5.w.heap.size, 0, none⟩) < g.w.heap.size → nobody (Addr.block ⟨g5.w.heap.size, 0, none⟩)) ∧ ∀ g26 : G, StG true g25 ⟨g5.w.heap.size, 0, none⟩ [(.int .i64 (Int.tmod at0 ((s0l : Nat) : Int)))] g26 →
  (CallsP Try.prog 32 #[(.slice s0a s0l s0c)] g26 fun v g27 =>
  ∃ xa : Option Addr, ∃ xl : Nat, ∃ xc : Nat, v = (.slice xa xl xc) ∧ ∀ g28 : G, Ex g27 g28 →
  ∃ k : Int, g28.w.cell? ⟨g5.w.heap.size, 0, none⟩ = some (.int .i64 k) ∧ (0 ≤ k ∧ k < ((xl : Nat) : Int)) ∧ derefP xa fun ad_1 => ∃ x : Int, g28.w.cell? (Addr.add ad_1 (Int.toNat k * 1)) = some (.int .u8 x) ∧ (8 : Int) ≠ 0 ∧ 0 ≤ (Int.tmod bit (8 : Int)) ∧ (0 ≤ k ∧ k < ((xl : Nat) : Int)) ∧ derefP xa fun ad_2 => stOk g28.w (Addr.add ad_2 (Int.toNat k * 1)) 1 ∧ ¬ g28.X (Addr.block (Addr.add ad_2 (Int.toNat k * 1))) ∧ mutAt g28 (Addr.add ad_2 (Int.toNat k * 1)) 1 ∧ ((Addr.block (Addr.add ad_2 (Int.toNat k * 1))) < g.w.heap.size → nobody (Addr.block (Addr.add ad_2 (Int.toNat k * 1)))) ∧ ∀ g29 : G, StG false g28 (Addr.add ad_2 (Int.toNat k * 1)) [(.int .u8 (bits BinOp.xor IntKind.u8 x (shlI IntKind.u8 (1 : Int) (Int.tmod bit (8 : Int)))))] g29 →
  (CallsP Try.prog 33 #[(.slice endsa endsl endsc), (.func (.func 34) #[] ⟨[(.pointer (some ⟨g5.w.heap.size, 0, none⟩))]⟩)] g29 fun v g30 =>
  ∃ i : Int, v = (.int .i64 i) ∧ ∀ J_1 : Int → G → Prop,
  (∀ start : Int, ∀ g31 : G, ((0 ≤ start ∧ start ≤ ((xl : Nat) : Int)) ∧ (CallsP Try.prog 29 #[(.slice (slAddr xa xc (Int.toNat start) 1) (xl - (Int.toNat start)) (xc - (Int.toNat start)))] g31 fun v g32 =>
  ∃ x_1 : Int, v = (.int .i64 x_1) ∧ ifB (ltI (0 : Int) x_1)
  (∀ g33 : G, Ex g32 g33 →
  R (.bool true) g33)
  ((CallsP Try.prog 27 #[(.agg ⟨[(.slice xa xl xc), (.int .i64 s1), (.int .i64 s2)]⟩)] g32 fun v g34 =>
  ∃ x0a_1 : Option Addr, ∃ x0l_1 : Nat, ∃ x0c_1 : Nat, ∃ x1_3 : Int, v = (.tuple ⟨[(.slice x0a_1 x0l_1 x0c_1), (.int .i64 x1_3)]⟩) ∧ ∀ J_2 : G → Prop,
  (∀ g35 : G, (∀ g36 : G, NewL g35 g36 5 [(.int .u8 (110 : Int)), (.int .u8 (101 : Int)), (.int .u8 (119 : Int))] →
  ∃ xa_1 : Option Addr, ∃ xl_1 : Nat, ∃ xc_1 : Nat, ∃ w7 : World, Sem.run Try.prog (convert 22 22 (.slice (some ⟨g35.w.heap.size, 0, none⟩) 3 3)) g36.w = .ok (.slice xa_1 xl_1 xc_1) w7 ∧ ∃ g37 : G, g37.w = w7 ∧ Stp g.w.heap.size nobody g36 g37 ∧ (CallsP Try.prog 12 #[(.agg ⟨[(.slice xa xl xc), (.int .i64 s1), (.int .i64 s2)]⟩), (.string (bs [122])), (.slice xa_1 xl_1 xc_1)] g37 fun v g38 =>
  ∃ x00a_2 : Option Addr, ∃ x00l_2 : Nat, ∃ x00c_2 : Nat, ∃ x01_2 : Int, ∃ x02_2 : Int, ∃ x1_4 : Int, v = (.tuple ⟨[(.agg ⟨[(.slice x00a_2 x00l_2 x00c_2), (.int .i64 x01_2), (.int .i64 x02_2)]⟩), (.int .i64 x1_4)]⟩) ∧ ∀ g39 : G, Ex g38 g39 →
  (CallsP Try.prog 35 #[(.agg ⟨[(.slice x00a_2 x00l_2 x00c_2), (.int .i64 x01_2), (.int .i64 x02_2)]⟩), (.string (bs [122]))] g39 fun v g40 =>
  ∃ x0a_2 : Option Addr, ∃ x0l_2 : Nat, ∃ x0c_2 : Nat, ∃ x1_5 : Int, v = (.tuple ⟨[(.slice x0a_2 x0l_2 x0c_2), (.int .i64 x1_5)]⟩) ∧ ifB (eqI x1_4 (0 : Int))
  (ifB (eqI x1_5 (0 : Int))
  (∃ x_2 : ByteArray, ∃ w8 : World, Sem.run Try.prog (convert 22 9 (.slice x0a_2 x0l_2 x0c_2)) g40.w = .ok (.string x_2) w8 ∧ ∃ g41 : G, g41.w = w8 ∧ Stp g.w.heap.size nobody g40 g41 ∧ ∀ g42 : G, Ex g41 g42 →
  R (.bool (strEq x_2 (bs [110, 101, 119]))) g42)
  (∀ g43 : G, Ex g40 g43 →
  R (.bool false) g43))
  (∀ g44 : G, Ex g40 g44 →
  R (.bool false) g44)))) → J_2 g35) →
  ifB (!eqI x1_3 (0 : Int))
  (∀ g45 : G, Ex g34 g45 →
  R (.bool false) g45)
  (ifB (ltI i (0 : Int))
  (∀ g46 : G, Ex g34 g46 →
  R (.bool false) g46)
  ((0 ≤ i ∧ i < ((beforel : Nat) : Int)) ∧ derefP beforea fun ad_3 => ∃ xa_2 : Option Addr, ∃ xl_2 : Nat, ∃ xc_2 : Nat, g34.w.cell? (Addr.add ad_3 (Int.toNat i * 1)) = some (.slice xa_2 xl_2 xc_2) ∧ (CallsP Try.prog 28 #[(.slice x0a_1 x0l_1 x0c_1), (.slice xa_2 xl_2 xc_2)] g34 fun v g47 =>
  ∃ x_3 : Bool, v = (.bool x_3) ∧ ifB (!x_3)
  (∀ g48 : G, Ex g47 g48 →
  R (.bool false) g48)
  (J_2 g47)))))))) → J_1 start g31) →
  ifB (ltI (0 : Int) i)
  (InI64 (i - (1 : Int)) ∧ (0 ≤ (i - (1 : Int)) ∧ (i - (1 : Int)) < ((endsl : Nat) : Int)) ∧ derefP endsa fun ad_4 => ∃ start_1 : Int, g30.w.cell? (Addr.add ad_4 (Int.toNat (i - (1 : Int)) * 1)) = some (.int .i64 start_1) ∧ J_1 start_1 g30)
  (J_1 (0 : Int) g30)))))))) → J g1) →
  (CallsP Try.prog 10 #[] g fun v g49 =>
  ∃ x_4 : Bool, v = (.bool x_4) ∧ ifB (!x_4)
  ((CallsP Try.prog 10 #[] g49 fun v g50 =>
  ∃ x_5 : Bool, v = (.bool x_5) ∧ ∀ g51 : G, Ex g50 g51 →
  R (.bool x_5) g51))
  ((CallsP Try.prog 30 #[(.slice la ll lc)] g49 fun v g52 =>
  ∃ x_6 : Bool, v = (.bool x_6) ∧ ifB (!x_6)
  ((CallsP Try.prog 10 #[] g52 fun v g53 =>
  ∃ x_7 : Bool, v = (.bool x_7) ∧ ∀ g54 : G, Ex g53 g54 →
  R (.bool x_7) g54))
  (J g52))))
theorem F6_eq (la : Option Addr) (ll : Nat) (lc : Nat) (at0 : Int) (bit : Int) (g : G) (R : Value → G → Prop) : fnG cfg6 155 [.tmp 6] c6 an6 [(.slice la ll lc), (.int .u16 at0), (.int .u8 bit)] g nobody R = F6 la ll lc at0 bit g R := by kernel_rfl
theorem call6 (la : Option Addr) (ll : Nat) (lc : Nat) (at0 : Int) (bit : Int) (g : G) (R : Value → G → Prop) (hF : F6 la ll lc at0 bit g R) : CallsG Try.prog 6 #[(.slice la ll lc), (.int .u16 at0), (.int .u8 bit)] g nobody R :=
  fn_soundG (c := cfg6) TTok FNSok mixed Try.func6 (show Try.f6.body = some c6 by kernel_rfl) (show Try.f6.ntmps = 155 by kernel_rfl) (show Try.f6.results.toList = [.tmp 6] by kernel_rfl) rfl ((F6_eq la ll lc at0 bit g R).mpr hF)
end Go.Proofs.Ytlofbfbcnlgmaaa.Torn
