/- Printed by a program (wip/tools/gen2.py): for each function its condition as a plain formula, and that the formula gives the call. -/
import Derived.Test.YtlofbfbcnlgmaaaProg
import Derived.Test.YtlofbfbcnlgmaaaVda
namespace Go.Proofs.Ytlofbfbcnlgmaaa
open Go Go.Vc Go.RowKit
set_option maxRecDepth 100000
set_option linter.unusedVariables false
def TT : List TI := [
  ⟨0, .tuple #[], 1, 0, some (.tuple ⟨[]⟩), (.tup [])⟩,
  ⟨3, .int .i64, 1, 8, some (.int .i64 (0 : Int)), (.e (.one (.int .i64)))⟩,
  ⟨4, .bool, 1, 1, some (.bool false), (.e (.one (.bool)))⟩,
  ⟨5, .int .u8, 1, 1, some (.int .u8 (0 : Int)), (.e (.one (.int .u8)))⟩,
  ⟨9, .string, 1, 16, some (.string (bs [])), (.e (.one (.str)))⟩,
  ⟨22, .slice 5, 1, 24, some (.slice none 0 0), (.e (.one (.sl)))⟩,
  ⟨24, .struct #[{ name := "Bytes", type := 22, offset := 0, embedded := false, tag := "", pkgPath := "", byteOffset := 0 }, { name := "Durable", type := 3, offset := 1, embedded := false, tag := "", pkgPath := "", byteOffset := 24 }, { name := "After", type := 3, offset := 2, embedded := false, tag := "", pkgPath := "", byteOffset := 32 }], 3, 40, some (.agg ⟨[(.slice none 0 0), (.int .i64 (0 : Int)), (.int .i64 (0 : Int))]⟩), (.e (.agg [(.sl), (.int .i64), (.int .i64)]))⟩,
  ⟨27, .int .i64, 1, 8, some (.int .i64 (0 : Int)), (.e (.one (.int .i64)))⟩,
  ⟨28, .tuple #[24, 27], 1, 0, some (.tuple ⟨[(.agg ⟨[(.slice none 0 0), (.int .i64 (0 : Int)), (.int .i64 (0 : Int))]⟩), (.int .i64 (0 : Int))]⟩), (.tup [(.agg [(.sl), (.int .i64), (.int .i64)]), (.one (.int .i64))])⟩,
  ⟨31, .func #[9] #[4] false, 1, 8, some .nilFunc, (.e (.one (.fn)))⟩,
  ⟨36, .slice 67, 1, 24, some (.slice none 0 0), (.e (.one (.sl)))⟩,
  ⟨44, .tuple #[36, 27], 1, 0, some (.tuple ⟨[(.slice none 0 0), (.int .i64 (0 : Int))]⟩), (.tup [(.one (.sl)), (.one (.int .i64))])⟩,
  ⟨48, .slice 54, 1, 24, some (.slice none 0 0), (.e (.one (.sl)))⟩,
  ⟨49, .int .u16, 1, 2, some (.int .u16 (0 : Int)), (.e (.one (.int .u16)))⟩,
  ⟨51, .slice 36, 1, 24, some (.slice none 0 0), (.e (.one (.sl)))⟩,
  ⟨52, .slice 3, 1, 24, some (.slice none 0 0), (.e (.one (.sl)))⟩,
  ⟨54, .struct #[{ name := "Key", type := 9, offset := 0, embedded := false, tag := "", pkgPath := "", byteOffset := 0 }, { name := "Data", type := 22, offset := 1, embedded := false, tag := "", pkgPath := "", byteOffset := 16 }, { name := "Delete", type := 4, offset := 2, embedded := false, tag := "", pkgPath := "", byteOffset := 40 }], 3, 48, some (.agg ⟨[(.string (bs [])), (.slice none 0 0), (.bool false)]⟩), (.e (.agg [(.str), (.sl), (.bool)]))⟩,
  ⟨58, .func #[3] #[4] false, 1, 8, some .nilFunc, (.e (.one (.fn)))⟩,
  ⟨59, .tuple #[22, 27], 1, 0, some (.tuple ⟨[(.slice none 0 0), (.int .i64 (0 : Int))]⟩), (.tup [(.one (.sl)), (.one (.int .i64))])⟩,
  ⟨62, .slice 9, 1, 24, some (.slice none 0 0), (.e (.one (.sl)))⟩,
  ⟨63, .tuple #[62, 27], 1, 0, some (.tuple ⟨[(.slice none 0 0), (.int .i64 (0 : Int))]⟩), (.tup [(.one (.sl)), (.one (.int .i64))])⟩,
  ⟨67, .struct #[{ name := "Key", type := 9, offset := 0, embedded := false, tag := "", pkgPath := "", byteOffset := 0 }, { name := "Data", type := 22, offset := 1, embedded := false, tag := "", pkgPath := "", byteOffset := 16 }], 2, 40, some (.agg ⟨[(.string (bs [])), (.slice none 0 0)]⟩), (.e (.agg [(.str), (.sl)]))⟩,
  ⟨71, .map 9 9, 1, 8, some (.map none), (.e (.one (.map)))⟩,
  ⟨72, .tuple #[9, 4], 1, 0, some (.tuple ⟨[(.string (bs [])), (.bool false)]⟩), (.tup [(.one (.str)), (.one (.bool))])⟩,
  ⟨76, .func #[31] #[] false, 1, 8, some .nilFunc, (.e (.one (.fn)))⟩,
  ⟨79, .map 9 22, 1, 8, some (.map none), (.e (.one (.map)))⟩,
  ⟨80, .tuple #[79, 3], 1, 0, some (.tuple ⟨[(.map none), (.int .i64 (0 : Int))]⟩), (.tup [(.one (.map)), (.one (.int .i64))])⟩,
  ⟨84, .tuple #[22, 4], 1, 0, some (.tuple ⟨[(.slice none 0 0), (.bool false)]⟩), (.tup [(.one (.sl)), (.one (.bool))])⟩,
  ⟨87, .struct #[{ name := "kind", type := 3, offset := 0, embedded := false, tag := "", pkgPath := "pilaster/pilasterref53", byteOffset := 0 }, { name := "key", type := 9, offset := 1, embedded := false, tag := "", pkgPath := "pilaster/pilasterref53", byteOffset := 8 }, { name := "data", type := 22, offset := 2, embedded := false, tag := "", pkgPath := "pilaster/pilasterref53", byteOffset := 24 }, { name := "length", type := 3, offset := 3, embedded := false, tag := "", pkgPath := "pilaster/pilasterref53", byteOffset := 48 }], 4, 56, some (.agg ⟨[(.int .i64 (0 : Int)), (.string (bs [])), (.slice none 0 0), (.int .i64 (0 : Int))]⟩), (.e (.agg [(.int .i64), (.str), (.sl), (.int .i64)]))⟩,
  ⟨90, .func #[54] #[4] false, 1, 8, some .nilFunc, (.e (.one (.fn)))⟩,
  ⟨93, .pointer 95, 1, 8, some (.pointer none), (.e (.one (.ptr)))⟩,
  ⟨95, .struct #[{ name := "rest", type := 22, offset := 0, embedded := false, tag := "", pkgPath := "pilaster/store", byteOffset := 0 }, { name := "at", type := 3, offset := 1, embedded := false, tag := "", pkgPath := "pilaster/store", byteOffset := 24 }], 2, 32, some (.agg ⟨[(.slice none 0 0), (.int .i64 (0 : Int))]⟩), (.e (.agg [(.sl), (.int .i64)]))⟩,
  ⟨97, .pointer 99, 1, 8, some (.pointer none), (.e (.one (.ptr)))⟩,
  ⟨99, .struct #[{ name := "s", type := 24, offset := 0, embedded := false, tag := "", pkgPath := "pilaster/store", byteOffset := 0 }], 3, 40, some (.agg ⟨[(.slice none 0 0), (.int .i64 (0 : Int)), (.int .i64 (0 : Int))]⟩), (.e (.agg [(.sl), (.int .i64), (.int .i64)]))⟩,
  ⟨102, .int .u64, 1, 8, some (.int .u64 (0 : Int)), (.e (.one (.int .u64)))⟩,
  ⟨104, .int .u32, 1, 4, some (.int .u32 (0 : Int)), (.e (.one (.int .u32)))⟩,
  ⟨110, .slice 22, 1, 24, some (.slice none 0 0), (.e (.one (.sl)))⟩,
  ⟨113, .int .i64, 1, 8, some (.int .i64 (0 : Int)), (.e (.one (.int .i64)))⟩,
  ⟨114, .tuple #[3, 113], 1, 0, some (.tuple ⟨[(.int .i64 (0 : Int)), (.int .i64 (0 : Int))]⟩), (.tup [(.one (.int .i64)), (.one (.int .i64))])⟩,
  ⟨119, .tuple #[3, 4], 1, 0, some (.tuple ⟨[(.int .i64 (0 : Int)), (.bool false)]⟩), (.tup [(.one (.int .i64)), (.one (.bool))])⟩]
theorem TTok : TOk Try.prog TT := tok_of (by kernel_rfl)
def FNS : List Nat := [10, 11, 12, 13, 14, 15, 16, 17, 18, 19, 20, 21, 22, 23, 24, 25, 26, 27, 28, 29, 30, 31, 32, 33, 35, 36, 37, 38, 39, 40, 41, 42, 43, 44, 45, 46, 47, 48, 49, 50, 52, 53, 54, 56, 57, 58, 59, 60, 61, 62, 63, 64, 66, 67, 68, 69, 70, 71, 72, 73, 74, 75, 76, 77, 78, 80]
theorem FNSok : FOk Try.prog FNS := fok_of (by kernel_rfl)
theorem mixed : Try.prog.follows .mixedOrders = true := by kernel_rfl
def TCH : List Nat := [56, 58]

/- 3 pilaster/pilasterlaw53.StoreWrites -/
noncomputable def c3 : Code := match Try.f3.body with
  | some c => c
  | none => .skip
noncomputable def cfg3 : Cfg := ⟨Try.prog, TT, FNS, [3, 7, 9], [(3, 3), (7, 7), (9, 9)], [11, 13], TCH, false, false⟩
def an3 : AnnG := (.seq .leaf (.seq (.join ⟨[(41, .bool)], [], []⟩ .leaf (.cond (.seq .leaf .leaf) .leaf)) (.seq .leaf (.seq .leaf (.seq (.blk (.seq .leaf (.cond (.seq .leaf .leaf) (.seq .leaf (.cond (.seq .leaf .leaf) .leaf))))) (.join ⟨[(11, .ptr), (12, .int .i64)], [], []⟩ (.tree 10 (.quiet 0 (.quiet 1 (.quiet 2 (.eff 3 (.eff 4 (.quiet 5 (.quiet 6 (.quiet 7 (.eff 8 (.eff 9 .fin .fin) .fin)))) (.eff 8 (.eff 4 (.quiet 5 (.quiet 6 (.quiet 7 (.eff 9 .fin .fin)))) .fin) .fin)) (.eff 8 (.eff 3 (.eff 4 (.quiet 5 (.quiet 6 (.quiet 7 (.eff 9 .fin .fin)))) .fin) .fin) .fin)))))) (.join ⟨[], [], []⟩ (.seq .leaf (.cond (.seq .leaf .leaf) .leaf)) (.seq (.seq .leaf (.cond (.seq .leaf .leaf) .leaf)) (.join ⟨[(13, .ptr), (14, .int .i64)], [], []⟩ (.tree 9 (.quiet 0 (.quiet 1 (.eff 2 (.eff 3 (.quiet 4 (.quiet 5 (.quiet 6 (.eff 7 (.eff 8 .fin .fin) .fin)))) (.eff 7 (.eff 3 (.quiet 4 (.quiet 5 (.quiet 6 (.eff 8 .fin .fin)))) .fin) .fin)) (.eff 7 (.eff 2 (.eff 3 (.quiet 4 (.quiet 5 (.quiet 6 (.eff 8 .fin .fin)))) .fin) .fin) .fin))))) (.seq .leaf .leaf))))))))))
def F3 (s0a : Option Addr) (s0l : Nat) (s0c : Nat) (s1 : Int) (s2 : Int) (key : ByteArray) (dataa : Option Addr) (datal : Nat) (datac : Nat) (g : G) (R : Value → G → Prop) : Prop :=
  ∀ J : Bool → G → Prop,
  (∀ v_1 : Bool, ∀ g1 : G, (ifB v_1
  ((CallsP Try.prog 10 #[] g1 fun v g2 =>
  ∃ x : Bool, v = (.bool x) ∧ ∀ g3 : G, Ex g2 g3 →
  R (.bool x) g3))
  ((CallsP Try.prog 12 #[(.agg ⟨[(.slice s0a s0l s0c), (.int .i64 s1), (.int .i64 s2)]⟩), (.string key), (.slice dataa datal datac)] g1 fun v g4 =>
  ∃ x00a : Option Addr, ∃ x00l : Nat, ∃ x00c : Nat, ∃ x01 : Int, ∃ x02 : Int, ∃ x1 : Int, v = (.tuple ⟨[(.agg ⟨[(.slice x00a x00l x00c), (.int .i64 x01), (.int .i64 x02)]⟩), (.int .i64 x1)]⟩) ∧ ∀ g5 : G, Ex g4 g5 →
  (CallsP Try.prog 13 #[(.agg ⟨[(.slice s0a s0l s0c), (.int .i64 s1), (.int .i64 s2)]⟩), (.string key)] g5 fun v g6 =>
  ∃ x00a_1 : Option Addr, ∃ x00l_1 : Nat, ∃ x00c_1 : Nat, ∃ x01_1 : Int, ∃ x02_1 : Int, ∃ x1_1 : Int, v = (.tuple ⟨[(.agg ⟨[(.slice x00a_1 x00l_1 x00c_1), (.int .i64 x01_1), (.int .i64 x02_1)]⟩), (.int .i64 x1_1)]⟩) ∧ ∀ g7 : G, Ex g6 g7 →
  (CallsP Try.prog 14 #[(.agg ⟨[(.slice s0a s0l s0c), (.int .i64 s1), (.int .i64 s2)]⟩)] g7 fun v g8 =>
  ∃ x_1 : Bool, v = (.bool x_1) ∧ ifB (!x_1)
  ((CallsP Try.prog 15 #[(.agg ⟨[(.slice x00a x00l x00c), (.int .i64 x01), (.int .i64 x02)]⟩)] g8 fun v g9 =>
  ∃ x_2 : Bool, v = (.bool x_2) ∧ ifB x_2
  (ifB (eqI x1 (1 : Int))
  ((CallsP Try.prog 15 #[(.agg ⟨[(.slice x00a_1 x00l_1 x00c_1), (.int .i64 x01_1), (.int .i64 x02_1)]⟩)] g9 fun v g10 =>
  ∃ x_3 : Bool, v = (.bool x_3) ∧ ifB x_3
  (∀ g11 : G, Ex g10 g11 →
  R (.bool (eqI x1_1 (1 : Int))) g11)
  (∀ g12 : G, Ex g10 g12 →
  R (.bool false) g12)))
  (∀ g13 : G, Ex g9 g13 →
  R (.bool false) g13))
  (∀ g14 : G, Ex g9 g14 →
  R (.bool false) g14)))
  ((CallsP Try.prog 16 #[(.string key)] g8 fun v g15 =>
  ∃ x_4 : Bool, v = (.bool x_4) ∧ ifB (!x_4)
  ((CallsP Try.prog 15 #[(.agg ⟨[(.slice x00a x00l x00c), (.int .i64 x01), (.int .i64 x02)]⟩)] g15 fun v g16 =>
  ∃ x_5 : Bool, v = (.bool x_5) ∧ ifB x_5
  (ifB (eqI x1 (2 : Int))
  ((CallsP Try.prog 15 #[(.agg ⟨[(.slice x00a_1 x00l_1 x00c_1), (.int .i64 x01_1), (.int .i64 x02_1)]⟩)] g16 fun v g17 =>
  ∃ x_6 : Bool, v = (.bool x_6) ∧ ifB x_6
  (∀ g18 : G, Ex g17 g18 →
  R (.bool (eqI x1_1 (2 : Int))) g18)
  (∀ g19 : G, Ex g17 g19 →
  R (.bool false) g19)))
  (∀ g20 : G, Ex g16 g20 →
  R (.bool false) g20))
  (∀ g21 : G, Ex g16 g21 →
  R (.bool false) g21)))
  (∀ J_1 : Option Addr → Int → G → Prop,
  (∀ p : Option Addr, ∀ g_1 : Int, ∀ g22 : G, (∀ J_2 : G → Prop,
  (∀ g23 : G, ((CallsP Try.prog 21 #[(.agg ⟨[(.slice s0a s0l s0c), (.int .i64 s1), (.int .i64 s2)]⟩)] g23 fun v g24 =>
  ∃ xa : Option Addr, ∃ xl : Nat, ∃ xc : Nat, v = (.slice xa xl xc) ∧ (CallsP Try.prog 20 #[(.slice xa xl xc), (.string key)] g24 fun v g25 =>
  ∃ x_7 : Int, v = (.int .i64 x_7) ∧ ifB (ltI x_7 (0 : Int))
  ((CallsP Try.prog 15 #[(.agg ⟨[(.slice x00a_1 x00l_1 x00c_1), (.int .i64 x01_1), (.int .i64 x02_1)]⟩)] g25 fun v g26 =>
  ∃ x_8 : Bool, v = (.bool x_8) ∧ ifB x_8
  (∀ g27 : G, Ex g26 g27 →
  R (.bool (eqI x1_1 (8 : Int))) g27)
  (∀ g28 : G, Ex g26 g28 →
  R (.bool false) g28)))
  (∀ J_3 : Option Addr → Int → G → Prop,
  (∀ q : Option Addr, ∀ h : Int, ∀ g29 : G, (derefP q fun ad => ∃ q0a : Option Addr, ∃ q0l : Nat, ∃ q0c : Nat, ∃ q1 : Int, ∃ q2 : Int, g29.w.cell? ad = some (.slice q0a q0l q0c) ∧ g29.w.cell? (Addr.add ad 1) = some (.int .i64 q1) ∧ g29.w.cell? (Addr.add ad 2) = some (.int .i64 q2) ∧ (CallsP Try.prog 19 #[(.agg ⟨[(.slice x00a_1 x00l_1 x00c_1), (.int .i64 x01_1), (.int .i64 x02_1)]⟩), (.agg ⟨[(.slice q0a q0l q0c), (.int .i64 q1), (.int .i64 q2)]⟩)] g29 fun v g30 =>
  ∃ x_9 : Bool, v = (.bool x_9) ∧ ifB x_9
  (∀ g31 : G, Ex g30 g31 →
  R (.bool (eqI x1_1 h)) g31)
  (∀ g32 : G, Ex g30 g32 →
  R (.bool false) g32))) → J_3 q h g29) →
  ∀ g33 : G, Ex g25 g33 →
  ((CallsP Try.prog 18 #[(.int .i64 (2 : Int)), (.string key), (.slice none 0 0)] g33 fun v g34 =>
  ∃ xa_1 : Option Addr, ∃ xl_1 : Nat, ∃ xc_1 : Nat, v = (.slice xa_1 xl_1 xc_1) ∧ ((CallsP Try.prog 17 #[(.agg ⟨[(.slice s0a s0l s0c), (.int .i64 s1), (.int .i64 s2)]⟩), (.slice xa_1 xl_1 xc_1)] g34 fun v g35 =>
  ∃ x00a_2 : Option Addr, ∃ x00l_2 : Nat, ∃ x00c_2 : Nat, ∃ x01_2 : Int, ∃ x02_2 : Int, ∃ x1_2 : Int, v = (.tuple ⟨[(.agg ⟨[(.slice x00a_2 x00l_2 x00c_2), (.int .i64 x01_2), (.int .i64 x02_2)]⟩), (.int .i64 x1_2)]⟩) ∧ ∀ g36 : G, NewD g35 g36 24 [(.slice none 0 0), (.int .i64 (0 : Int)), (.int .i64 (0 : Int))] →
  stOk g36.w ⟨g35.w.heap.size, 0, none⟩ 3 ∧ ¬ g36.X (Addr.block ⟨g35.w.heap.size, 0, none⟩) ∧ mutAt g36 ⟨g35.w.heap.size, 0, none⟩ 3 ∧ ((Addr.block ⟨g35.w.heap.size, 0, none⟩) < g.w.heap.size → nobody (Addr.block ⟨g35.w.heap.size, 0, none⟩)) ∧ ∀ g37 : G, StG true g36 ⟨g35.w.heap.size, 0, none⟩ [(.slice x00a_2 x00l_2 x00c_2), (.int .i64 x01_2), (.int .i64 x02_2)] g37 →
  SameB g33 g37 ∧ J_3 (some ⟨g35.w.heap.size, 0, none⟩) x1_2 g37)) ∧ (∀ g38 : G, NewD g34 g38 24 [(.slice none 0 0), (.int .i64 (0 : Int)), (.int .i64 (0 : Int))] →
  (CallsP Try.prog 17 #[(.agg ⟨[(.slice s0a s0l s0c), (.int .i64 s1), (.int .i64 s2)]⟩), (.slice xa_1 xl_1 xc_1)] g38 fun v g39 =>
  ∃ x00a_3 : Option Addr, ∃ x00l_3 : Nat, ∃ x00c_3 : Nat, ∃ x01_3 : Int, ∃ x02_3 : Int, ∃ x1_3 : Int, v = (.tuple ⟨[(.agg ⟨[(.slice x00a_3 x00l_3 x00c_3), (.int .i64 x01_3), (.int .i64 x02_3)]⟩), (.int .i64 x1_3)]⟩) ∧ stOk g39.w ⟨g34.w.heap.size, 0, none⟩ 3 ∧ ¬ g39.X (Addr.block ⟨g34.w.heap.size, 0, none⟩) ∧ mutAt g39 ⟨g34.w.heap.size, 0, none⟩ 3 ∧ ((Addr.block ⟨g34.w.heap.size, 0, none⟩) < g.w.heap.size → nobody (Addr.block ⟨g34.w.heap.size, 0, none⟩)) ∧ ∀ g40 : G, StG true g39 ⟨g34.w.heap.size, 0, none⟩ [(.slice x00a_3 x00l_3 x00c_3), (.int .i64 x01_3), (.int .i64 x02_3)] g40 →
  SameB g33 g40 ∧ J_3 (some ⟨g34.w.heap.size, 0, none⟩) x1_3 g40)))) ∧ (∀ g41 : G, NewD g33 g41 24 [(.slice none 0 0), (.int .i64 (0 : Int)), (.int .i64 (0 : Int))] →
  (CallsP Try.prog 18 #[(.int .i64 (2 : Int)), (.string key), (.slice none 0 0)] g41 fun v g42 =>
  ∃ xa_2 : Option Addr, ∃ xl_2 : Nat, ∃ xc_2 : Nat, v = (.slice xa_2 xl_2 xc_2) ∧ (CallsP Try.prog 17 #[(.agg ⟨[(.slice s0a s0l s0c), (.int .i64 s1), (.int .i64 s2)]⟩), (.slice xa_2 xl_2 xc_2)] g42 fun v g43 =>
  ∃ x00a_4 : Option Addr, ∃ x00l_4 : Nat, ∃ x00c_4 : Nat, ∃ x01_4 : Int, ∃ x02_4 : Int, ∃ x1_4 : Int, v = (.tuple ⟨[(.agg ⟨[(.slice x00a_4 x00l_4 x00c_4), (.int .i64 x01_4), (.int .i64 x02_4)]⟩), (.int .i64 x1_4)]⟩) ∧ stOk g43.w ⟨g33.w.heap.size, 0, none⟩ 3 ∧ ¬ g43.X (Addr.block ⟨g33.w.heap.size, 0, none⟩) ∧ mutAt g43 ⟨g33.w.heap.size, 0, none⟩ 3 ∧ ((Addr.block ⟨g33.w.heap.size, 0, none⟩) < g.w.heap.size → nobody (Addr.block ⟨g33.w.heap.size, 0, none⟩)) ∧ ∀ g44 : G, StG true g43 ⟨g33.w.heap.size, 0, none⟩ [(.slice x00a_4 x00l_4 x00c_4), (.int .i64 x01_4), (.int .i64 x02_4)] g44 →
  SameB g33 g44 ∧ J_3 (some ⟨g33.w.heap.size, 0, none⟩) x1_4 g44))))))) → J_2 g23) →
  derefP p fun ad_1 => ∃ p0a : Option Addr, ∃ p0l : Nat, ∃ p0c : Nat, ∃ p1 : Int, ∃ p2 : Int, g22.w.cell? ad_1 = some (.slice p0a p0l p0c) ∧ g22.w.cell? (Addr.add ad_1 1) = some (.int .i64 p1) ∧ g22.w.cell? (Addr.add ad_1 2) = some (.int .i64 p2) ∧ (CallsP Try.prog 19 #[(.agg ⟨[(.slice x00a x00l x00c), (.int .i64 x01), (.int .i64 x02)]⟩), (.agg ⟨[(.slice p0a p0l p0c), (.int .i64 p1), (.int .i64 p2)]⟩)] g22 fun v g45 =>
  ∃ x_10 : Bool, v = (.bool x_10) ∧ ifB (!x_10)
  (∀ g46 : G, Ex g45 g46 →
  R (.bool false) g46)
  (ifB (!eqI x1 g_1)
  (∀ g47 : G, Ex g45 g47 →
  R (.bool false) g47)
  (J_2 g45)))) → J_1 p g_1 g22) →
  ∀ g48 : G, Ex g15 g48 →
  ((CallsP Try.prog 18 #[(.int .i64 (1 : Int)), (.string key), (.slice dataa datal datac)] g48 fun v g49 =>
  ∃ xa_3 : Option Addr, ∃ xl_3 : Nat, ∃ xc_3 : Nat, v = (.slice xa_3 xl_3 xc_3) ∧ ((CallsP Try.prog 17 #[(.agg ⟨[(.slice s0a s0l s0c), (.int .i64 s1), (.int .i64 s2)]⟩), (.slice xa_3 xl_3 xc_3)] g49 fun v g50 =>
  ∃ x00a_5 : Option Addr, ∃ x00l_5 : Nat, ∃ x00c_5 : Nat, ∃ x01_5 : Int, ∃ x02_5 : Int, ∃ x1_5 : Int, v = (.tuple ⟨[(.agg ⟨[(.slice x00a_5 x00l_5 x00c_5), (.int .i64 x01_5), (.int .i64 x02_5)]⟩), (.int .i64 x1_5)]⟩) ∧ ∀ g51 : G, NewD g50 g51 24 [(.slice none 0 0), (.int .i64 (0 : Int)), (.int .i64 (0 : Int))] →
  stOk g51.w ⟨g50.w.heap.size, 0, none⟩ 3 ∧ ¬ g51.X (Addr.block ⟨g50.w.heap.size, 0, none⟩) ∧ mutAt g51 ⟨g50.w.heap.size, 0, none⟩ 3 ∧ ((Addr.block ⟨g50.w.heap.size, 0, none⟩) < g.w.heap.size → nobody (Addr.block ⟨g50.w.heap.size, 0, none⟩)) ∧ ∀ g52 : G, StG true g51 ⟨g50.w.heap.size, 0, none⟩ [(.slice x00a_5 x00l_5 x00c_5), (.int .i64 x01_5), (.int .i64 x02_5)] g52 →
  SameB g48 g52 ∧ J_1 (some ⟨g50.w.heap.size, 0, none⟩) x1_5 g52)) ∧ (∀ g53 : G, NewD g49 g53 24 [(.slice none 0 0), (.int .i64 (0 : Int)), (.int .i64 (0 : Int))] →
  (CallsP Try.prog 17 #[(.agg ⟨[(.slice s0a s0l s0c), (.int .i64 s1), (.int .i64 s2)]⟩), (.slice xa_3 xl_3 xc_3)] g53 fun v g54 =>
  ∃ x00a_6 : Option Addr, ∃ x00l_6 : Nat, ∃ x00c_6 : Nat, ∃ x01_6 : Int, ∃ x02_6 : Int, ∃ x1_6 : Int, v = (.tuple ⟨[(.agg ⟨[(.slice x00a_6 x00l_6 x00c_6), (.int .i64 x01_6), (.int .i64 x02_6)]⟩), (.int .i64 x1_6)]⟩) ∧ stOk g54.w ⟨g49.w.heap.size, 0, none⟩ 3 ∧ ¬ g54.X (Addr.block ⟨g49.w.heap.size, 0, none⟩) ∧ mutAt g54 ⟨g49.w.heap.size, 0, none⟩ 3 ∧ ((Addr.block ⟨g49.w.heap.size, 0, none⟩) < g.w.heap.size → nobody (Addr.block ⟨g49.w.heap.size, 0, none⟩)) ∧ ∀ g55 : G, StG true g54 ⟨g49.w.heap.size, 0, none⟩ [(.slice x00a_6 x00l_6 x00c_6), (.int .i64 x01_6), (.int .i64 x02_6)] g55 →
  SameB g48 g55 ∧ J_1 (some ⟨g49.w.heap.size, 0, none⟩) x1_6 g55)))) ∧ (∀ g56 : G, NewD g48 g56 24 [(.slice none 0 0), (.int .i64 (0 : Int)), (.int .i64 (0 : Int))] →
  (CallsP Try.prog 18 #[(.int .i64 (1 : Int)), (.string key), (.slice dataa datal datac)] g56 fun v g57 =>
  ∃ xa_4 : Option Addr, ∃ xl_4 : Nat, ∃ xc_4 : Nat, v = (.slice xa_4 xl_4 xc_4) ∧ (CallsP Try.prog 17 #[(.agg ⟨[(.slice s0a s0l s0c), (.int .i64 s1), (.int .i64 s2)]⟩), (.slice xa_4 xl_4 xc_4)] g57 fun v g58 =>
  ∃ x00a_7 : Option Addr, ∃ x00l_7 : Nat, ∃ x00c_7 : Nat, ∃ x01_7 : Int, ∃ x02_7 : Int, ∃ x1_7 : Int, v = (.tuple ⟨[(.agg ⟨[(.slice x00a_7 x00l_7 x00c_7), (.int .i64 x01_7), (.int .i64 x02_7)]⟩), (.int .i64 x1_7)]⟩) ∧ stOk g58.w ⟨g48.w.heap.size, 0, none⟩ 3 ∧ ¬ g58.X (Addr.block ⟨g48.w.heap.size, 0, none⟩) ∧ mutAt g58 ⟨g48.w.heap.size, 0, none⟩ 3 ∧ ((Addr.block ⟨g48.w.heap.size, 0, none⟩) < g.w.heap.size → nobody (Addr.block ⟨g48.w.heap.size, 0, none⟩)) ∧ ∀ g59 : G, StG true g58 ⟨g48.w.heap.size, 0, none⟩ [(.slice x00a_7 x00l_7 x00c_7), (.int .i64 x01_7), (.int .i64 x02_7)] g59 →
  SameB g48 g59 ∧ J_1 (some ⟨g48.w.heap.size, 0, none⟩) x1_7 g59))))))))))) → J v_1 g1) →
  ∀ g60 : G, Ex g g60 →
  (CallsP Try.prog 10 #[] g60 fun v g61 =>
  ∃ x_11 : Bool, v = (.bool x_11) ∧ ifB (!x_11)
  (J true g61)
  ((CallsP Try.prog 11 #[(.agg ⟨[(.slice s0a s0l s0c), (.int .i64 s1), (.int .i64 s2)]⟩)] g61 fun v g62 =>
  ∃ x_12 : Bool, v = (.bool x_12) ∧ ifB (!x_12)
  (J true g62)
  (ifB (ltI (1000 : Int) ((key.size : Nat) : Int))
  (J true g62)
  (ifB (ltI (300 : Int) ((datal : Nat) : Int))
  (ifB (leI ((datal : Nat) : Int) (1048576 : Int))
  (J true g62)
  (J (ltI (1048676 : Int) ((datal : Nat) : Int)) g62))
  (J (ltI (1048676 : Int) ((datal : Nat) : Int)) g62))))))
theorem F3_eq (s0a : Option Addr) (s0l : Nat) (s0c : Nat) (s1 : Int) (s2 : Int) (key : ByteArray) (dataa : Option Addr) (datal : Nat) (datac : Nat) (g : G) (R : Value → G → Prop) : fnG cfg3 135 [.tmp 6] c3 an3 [(.agg ⟨[(.slice s0a s0l s0c), (.int .i64 s1), (.int .i64 s2)]⟩), (.string key), (.slice dataa datal datac)] g nobody R = F3 s0a s0l s0c s1 s2 key dataa datal datac g R := by kernel_rfl
theorem call3 (s0a : Option Addr) (s0l : Nat) (s0c : Nat) (s1 : Int) (s2 : Int) (key : ByteArray) (dataa : Option Addr) (datal : Nat) (datac : Nat) (g : G) (R : Value → G → Prop) (hF : F3 s0a s0l s0c s1 s2 key dataa datal datac g R) : CallsG Try.prog 3 #[(.agg ⟨[(.slice s0a s0l s0c), (.int .i64 s1), (.int .i64 s2)]⟩), (.string key), (.slice dataa datal datac)] g nobody R :=
  fn_soundG (c := cfg3) TTok FNSok mixed Try.func3 (show Try.f3.body = some c3 by kernel_rfl) (show Try.f3.ntmps = 135 by kernel_rfl) (show Try.f3.results.toList = [.tmp 6] by kernel_rfl) rfl ((F3_eq s0a s0l s0c s1 s2 key dataa datal datac g R).mpr hF)

/- 4 pilaster/pilasterlaw53.StoreBasics -/
noncomputable def c4 : Code := match Try.f4.body with
  | some c => c
  | none => .skip
noncomputable def cfg4 : Cfg := ⟨Try.prog, TT, FNS, [4, 7, 9], [(4, 4), (7, 7), (9, 9)], [], TCH, false, false⟩
def an4 : AnnG := (.seq .leaf (.join ⟨[], [], []⟩ (.seq .leaf (.cond (.seq .leaf .leaf) .leaf)) (.seq .leaf (.seq .leaf (.join ⟨[], [], []⟩ (.join ⟨[(35, .bool)], [], []⟩ .leaf (.cond (.seq .leaf (.cond (.seq .leaf .leaf) .leaf)) (.seq .leaf (.cond (.seq .leaf .leaf) .leaf)))) (.seq (.blk (.seq .leaf (.cond (.seq .leaf .leaf) (.seq .leaf (.cond (.seq .leaf .leaf) .leaf))))) (.seq (.tree 7 (.quiet 0 (.eff 1 (.quiet 2 (.quiet 3 (.quiet 4 (.quiet 5 (.eff 6 .fin .fin))))) .fin))) .leaf)))))))
def F4 (after : Int) (s0a : Option Addr) (s0l : Nat) (s0c : Nat) (s1 : Int) (s2 : Int) (keep : Int) (g : G) (R : Value → G → Prop) : Prop :=
  ∀ J : G → Prop,
  (∀ g1 : G, ((CallsP Try.prog 22 #[(.int .i64 after)] g1 fun v g2 =>
  ∃ x00a : Option Addr, ∃ x00l : Nat, ∃ x00c : Nat, ∃ x01 : Int, ∃ x02 : Int, ∃ x1 : Int, v = (.tuple ⟨[(.agg ⟨[(.slice x00a x00l x00c), (.int .i64 x01), (.int .i64 x02)]⟩), (.int .i64 x1)]⟩) ∧ ∀ g3 : G, Ex g2 g3 →
  (CallsP Try.prog 23 #[(.agg ⟨[(.slice s0a s0l s0c), (.int .i64 s1), (.int .i64 s2)]⟩), (.int .i64 keep)] g3 fun v g4 =>
  ∃ x00a_1 : Option Addr, ∃ x00l_1 : Nat, ∃ x00c_1 : Nat, ∃ x01_1 : Int, ∃ x02_1 : Int, ∃ x1_1 : Int, v = (.tuple ⟨[(.agg ⟨[(.slice x00a_1 x00l_1 x00c_1), (.int .i64 x01_1), (.int .i64 x02_1)]⟩), (.int .i64 x1_1)]⟩) ∧ ∀ J_1 : G → Prop,
  (∀ g5 : G, ((CallsP Try.prog 14 #[(.agg ⟨[(.slice s0a s0l s0c), (.int .i64 s1), (.int .i64 s2)]⟩)] g5 fun v g6 =>
  ∃ x : Bool, v = (.bool x) ∧ ifB (!x)
  ((CallsP Try.prog 24 #[(.agg ⟨[(.slice s0a s0l s0c), (.int .i64 s1), (.int .i64 s2)]⟩)] g6 fun v g7 =>
  ∃ x_1 : Bool, v = (.bool x_1) ∧ ifB (!x_1)
  ((CallsP Try.prog 15 #[(.agg ⟨[(.slice x00a_1 x00l_1 x00c_1), (.int .i64 x01_1), (.int .i64 x02_1)]⟩)] g7 fun v g8 =>
  ∃ x_2 : Bool, v = (.bool x_2) ∧ ifB x_2
  (∀ g9 : G, Ex g8 g9 →
  R (.bool (eqI x1_1 (1 : Int))) g9)
  (∀ g10 : G, Ex g8 g10 →
  R (.bool false) g10)))
  (∀ g11 : G, Ex g7 g11 →
  R (.bool false) g11)))
  (ifB (ltI keep (0 : Int))
  ((CallsP Try.prog 24 #[(.agg ⟨[(.slice s0a s0l s0c), (.int .i64 s1), (.int .i64 s2)]⟩)] g6 fun v g12 =>
  ∃ x_3 : Bool, v = (.bool x_3) ∧ ifB x_3
  ((CallsP Try.prog 15 #[(.agg ⟨[(.slice x00a_1 x00l_1 x00c_1), (.int .i64 x01_1), (.int .i64 x02_1)]⟩)] g12 fun v g13 =>
  ∃ x_4 : Bool, v = (.bool x_4) ∧ ifB x_4
  (∀ g14 : G, Ex g13 g14 →
  R (.bool (eqI x1_1 (2 : Int))) g14)
  (∀ g15 : G, Ex g13 g15 →
  R (.bool false) g15)))
  (∀ g16 : G, Ex g12 g16 →
  R (.bool false) g16)))
  (∀ g17 : G, Ex g6 g17 →
  (CallsP Try.prog 24 #[(.agg ⟨[(.slice s0a s0l s0c), (.int .i64 s1), (.int .i64 s2)]⟩)] g17 fun v g18 =>
  ∃ x_5 : Bool, v = (.bool x_5) ∧ ifB x_5
  ((CallsP Try.prog 25 #[(.agg ⟨[(.slice s0a s0l s0c), (.int .i64 s1), (.int .i64 s2)]⟩), (.int .i64 keep)] g18 fun v g19 =>
  ∃ x0a : Option Addr, ∃ x0l : Nat, ∃ x0c : Nat, ∃ x1_2 : Int, ∃ x2 : Int, v = (.agg ⟨[(.slice x0a x0l x0c), (.int .i64 x1_2), (.int .i64 x2)]⟩) ∧ (CallsP Try.prog 19 #[(.agg ⟨[(.slice x00a_1 x00l_1 x00c_1), (.int .i64 x01_1), (.int .i64 x02_1)]⟩), (.agg ⟨[(.slice x0a x0l x0c), (.int .i64 x1_2), (.int .i64 x2)]⟩)] g19 fun v g20 =>
  ∃ x_6 : Bool, v = (.bool x_6) ∧ ifB x_6
  (∀ g21 : G, Ex g20 g21 →
  R (.bool (eqI x1_1 (0 : Int))) g21)
  (∀ g22 : G, Ex g20 g22 →
  R (.bool false) g22))))
  (∀ g23 : G, Ex g18 g23 →
  R (.bool false) g23)))))) → J_1 g5) →
  ∀ J_2 : Bool → G → Prop,
  (∀ v_1 : Bool, ∀ g24 : G, (ifB v_1
  ((CallsP Try.prog 15 #[(.agg ⟨[(.slice x00a x00l x00c), (.int .i64 x01), (.int .i64 x02)]⟩)] g24 fun v g25 =>
  ∃ x_7 : Bool, v = (.bool x_7) ∧ ifB (!x_7)
  (∀ g26 : G, Ex g25 g26 →
  R (.bool false) g26)
  (ifB (!eqI x1 (2 : Int))
  (∀ g27 : G, Ex g25 g27 →
  R (.bool false) g27)
  (J_1 g25))))
  ((CallsP Try.prog 19 #[(.agg ⟨[(.slice x00a x00l x00c), (.int .i64 x01), (.int .i64 x02)]⟩), (.agg ⟨[(.slice none 0 0), (.int .i64 (0 : Int)), (.int .i64 after)]⟩)] g24 fun v g28 =>
  ∃ x_8 : Bool, v = (.bool x_8) ∧ ifB (!x_8)
  (∀ g29 : G, Ex g28 g29 →
  R (.bool false) g29)
  (ifB (!eqI x1 (0 : Int))
  (∀ g30 : G, Ex g28 g30 →
  R (.bool false) g30)
  (J_1 g28))))) → J_2 v_1 g24) →
  ifB (ltI after (-1 : Int))
  (∀ g31 : G, Ex g4 g31 →
  J_2 true g31)
  (∀ g32 : G, Ex g4 g32 →
  J_2 (ltI (1048576 : Int) after) g32)))) → J g1) →
  ∀ g33 : G, Ex g g33 →
  (CallsP Try.prog 10 #[] g33 fun v g34 =>
  ∃ x_9 : Bool, v = (.bool x_9) ∧ ifB (!x_9)
  ((CallsP Try.prog 10 #[] g34 fun v g35 =>
  ∃ x_10 : Bool, v = (.bool x_10) ∧ ∀ g36 : G, Ex g35 g36 →
  R (.bool x_10) g36))
  ((CallsP Try.prog 11 #[(.agg ⟨[(.slice s0a s0l s0c), (.int .i64 s1), (.int .i64 s2)]⟩)] g34 fun v g37 =>
  ∃ x_11 : Bool, v = (.bool x_11) ∧ ifB (!x_11)
  ((CallsP Try.prog 10 #[] g37 fun v g38 =>
  ∃ x_12 : Bool, v = (.bool x_12) ∧ ∀ g39 : G, Ex g38 g39 →
  R (.bool x_12) g39))
  (J g37))))
theorem F4_eq (after : Int) (s0a : Option Addr) (s0l : Nat) (s0c : Nat) (s1 : Int) (s2 : Int) (keep : Int) (g : G) (R : Value → G → Prop) : fnG cfg4 93 [.tmp 6] c4 an4 [(.int .i64 after), (.agg ⟨[(.slice s0a s0l s0c), (.int .i64 s1), (.int .i64 s2)]⟩), (.int .i64 keep)] g nobody R = F4 after s0a s0l s0c s1 s2 keep g R := by kernel_rfl
theorem call4 (after : Int) (s0a : Option Addr) (s0l : Nat) (s0c : Nat) (s1 : Int) (s2 : Int) (keep : Int) (g : G) (R : Value → G → Prop) (hF : F4 after s0a s0l s0c s1 s2 keep g R) : CallsG Try.prog 4 #[(.int .i64 after), (.agg ⟨[(.slice s0a s0l s0c), (.int .i64 s1), (.int .i64 s2)]⟩), (.int .i64 keep)] g nobody R :=
  fn_soundG (c := cfg4) TTok FNSok mixed Try.func4 (show Try.f4.body = some c4 by kernel_rfl) (show Try.f4.ntmps = 93 by kernel_rfl) (show Try.f4.results.toList = [.tmp 6] by kernel_rfl) rfl ((F4_eq after s0a s0l s0c s1 s2 keep g R).mpr hF)

/- 5 pilaster/pilasterlaw53.StoreCompacted -/
noncomputable def c5 : Code := match Try.f5.body with
  | some c => c
  | none => .skip
noncomputable def cfg5 : Cfg := ⟨Try.prog, TT, FNS, [1, 3, 5], [(1, 1), (3, 3), (5, 5), (73, 3), (76, 1), (82, 3), (84, 3)], [], TCH, false, false⟩
def an5 : AnnG := (.seq .leaf (.join ⟨[], [], []⟩ (.seq .leaf (.cond (.seq .leaf .leaf) .leaf)) (.seq .leaf (.seq .leaf (.seq .leaf (.seq .leaf (.seq (.tree 43 (.quiet 0 (.quiet 1 (.quiet 2 (.quiet 3 (.quiet 4 (.quiet 5 (.quiet 6 (.quiet 7 (.quiet 8 (.quiet 9 (.quiet 10 (.quiet 11 (.quiet 12 (.quiet 13 (.quiet 14 (.quiet 15 (.eff 16 (.quiet 17 (.quiet 18 (.quiet 19 (.quiet 20 (.eff 21 (.quiet 22 (.quiet 23 (.quiet 24 (.quiet 25 (.eff 26 (.quiet 27 (.quiet 28 (.quiet 29 (.quiet 30 (.quiet 31 (.quiet 32 (.quiet 33 (.eff 34 (.quiet 35 (.quiet 36 (.quiet 37 (.quiet 38 (.quiet 39 (.quiet 40 (.quiet 41 (.quiet 42 .fin)))))))) .fin)))))))) .fin))))) .fin))))) .fin)))))))))))))))))) .leaf)))))))
def F5 (s0a : Option Addr) (s0l : Nat) (s0c : Nat) (s1 : Int) (s2 : Int) (g : G) (R : Value → G → Prop) : Prop :=
  ∀ J : G → Prop,
  (∀ g1 : G, ((CallsP Try.prog 26 #[(.agg ⟨[(.slice s0a s0l s0c), (.int .i64 s1), (.int .i64 s2)]⟩)] g1 fun v g2 =>
  ∃ x00a : Option Addr, ∃ x00l : Nat, ∃ x00c : Nat, ∃ x01 : Int, ∃ x02 : Int, ∃ x1 : Int, v = (.tuple ⟨[(.agg ⟨[(.slice x00a x00l x00c), (.int .i64 x01), (.int .i64 x02)]⟩), (.int .i64 x1)]⟩) ∧ ∀ g3 : G, Ex g2 g3 →
  (CallsP Try.prog 26 #[(.agg ⟨[(.slice x00a x00l x00c), (.int .i64 x01), (.int .i64 x02)]⟩)] g3 fun v g4 =>
  ∃ x00a_1 : Option Addr, ∃ x00l_1 : Nat, ∃ x00c_1 : Nat, ∃ x01_1 : Int, ∃ x02_1 : Int, ∃ x1_1 : Int, v = (.tuple ⟨[(.agg ⟨[(.slice x00a_1 x00l_1 x00c_1), (.int .i64 x01_1), (.int .i64 x02_1)]⟩), (.int .i64 x1_1)]⟩) ∧ ∀ g5 : G, Ex g4 g5 →
  (CallsP Try.prog 27 #[(.agg ⟨[(.slice s0a s0l s0c), (.int .i64 s1), (.int .i64 s2)]⟩)] g5 fun v g6 =>
  ∃ x0a : Option Addr, ∃ x0l : Nat, ∃ x0c : Nat, ∃ x1_2 : Int, v = (.tuple ⟨[(.slice x0a x0l x0c), (.int .i64 x1_2)]⟩) ∧ (CallsP Try.prog 27 #[(.agg ⟨[(.slice x00a x00l x00c), (.int .i64 x01), (.int .i64 x02)]⟩)] g6 fun v g7 =>
  ∃ x0a_1 : Option Addr, ∃ x0l_1 : Nat, ∃ x0c_1 : Nat, ∃ x1_3 : Int, v = (.tuple ⟨[(.slice x0a_1 x0l_1 x0c_1), (.int .i64 x1_3)]⟩) ∧ ∀ g8 : G, Ex g7 g8 →
  ifB (eqI x1 (0 : Int))
  (ifB (eqI x1_1 (0 : Int))
  (ifB (eqI x1_2 (0 : Int))
  (ifB (eqI x1_3 (0 : Int))
  ((CallsP Try.prog 24 #[(.agg ⟨[(.slice x00a x00l x00c), (.int .i64 x01), (.int .i64 x02)]⟩)] g8 fun v g9 =>
  ∃ x : Bool, v = (.bool x) ∧ ifB x
  ((CallsP Try.prog 19 #[(.agg ⟨[(.slice x00a x00l x00c), (.int .i64 x01), (.int .i64 x02)]⟩), (.agg ⟨[(.slice x00a_1 x00l_1 x00c_1), (.int .i64 x01_1), (.int .i64 x02_1)]⟩)] g9 fun v g10 =>
  ∃ x_1 : Bool, v = (.bool x_1) ∧ ifB x_1
  ((CallsP Try.prog 28 #[(.slice x0a x0l x0c), (.slice x0a_1 x0l_1 x0c_1)] g10 fun v g11 =>
  ∃ x_2 : Bool, v = (.bool x_2) ∧ ifB x_2
  ((CallsP Try.prog 29 #[(.slice s0a s0l s0c)] g11 fun v g12 =>
  ∃ x_3 : Int, v = (.int .i64 x_3) ∧ ifB (leI ((x00l : Nat) : Int) x_3)
  (∀ g13 : G, Ex g12 g13 →
  R (.bool (eqI x01 ((x00l : Nat) : Int))) g13)
  (∀ g14 : G, Ex g12 g14 →
  R (.bool false) g14)))
  (∀ g15 : G, Ex g11 g15 →
  R (.bool false) g15)))
  (∀ g16 : G, Ex g10 g16 →
  R (.bool false) g16)))
  (∀ g17 : G, Ex g9 g17 →
  R (.bool false) g17)))
  (∀ g18 : G, Ex g8 g18 →
  R (.bool false) g18))
  (∀ g19 : G, Ex g8 g19 →
  R (.bool false) g19))
  (∀ g20 : G, Ex g8 g20 →
  R (.bool false) g20))
  (∀ g21 : G, Ex g8 g21 →
  R (.bool false) g21)))))) → J g1) →
  ∀ g22 : G, Ex g g22 →
  (CallsP Try.prog 10 #[] g22 fun v g23 =>
  ∃ x_4 : Bool, v = (.bool x_4) ∧ ifB (!x_4)
  ((CallsP Try.prog 10 #[] g23 fun v g24 =>
  ∃ x_5 : Bool, v = (.bool x_5) ∧ ∀ g25 : G, Ex g24 g25 →
  R (.bool x_5) g25))
  ((CallsP Try.prog 11 #[(.agg ⟨[(.slice s0a s0l s0c), (.int .i64 s1), (.int .i64 s2)]⟩)] g23 fun v g26 =>
  ∃ x_6 : Bool, v = (.bool x_6) ∧ ifB (!x_6)
  ((CallsP Try.prog 10 #[] g26 fun v g27 =>
  ∃ x_7 : Bool, v = (.bool x_7) ∧ ∀ g28 : G, Ex g27 g28 →
  R (.bool x_7) g28))
  ((CallsP Try.prog 14 #[(.agg ⟨[(.slice s0a s0l s0c), (.int .i64 s1), (.int .i64 s2)]⟩)] g26 fun v g29 =>
  ∃ x_8 : Bool, v = (.bool x_8) ∧ ifB (!x_8)
  ((CallsP Try.prog 10 #[] g29 fun v g30 =>
  ∃ x_9 : Bool, v = (.bool x_9) ∧ ∀ g31 : G, Ex g30 g31 →
  R (.bool x_9) g31))
  (J g29))))))
theorem F5_eq (s0a : Option Addr) (s0l : Nat) (s0c : Nat) (s1 : Int) (s2 : Int) (g : G) (R : Value → G → Prop) : fnG cfg5 89 [.tmp 2] c5 an5 [(.agg ⟨[(.slice s0a s0l s0c), (.int .i64 s1), (.int .i64 s2)]⟩)] g nobody R = F5 s0a s0l s0c s1 s2 g R := by kernel_rfl
theorem call5 (s0a : Option Addr) (s0l : Nat) (s0c : Nat) (s1 : Int) (s2 : Int) (g : G) (R : Value → G → Prop) (hF : F5 s0a s0l s0c s1 s2 g R) : CallsG Try.prog 5 #[(.agg ⟨[(.slice s0a s0l s0c), (.int .i64 s1), (.int .i64 s2)]⟩)] g nobody R :=
  fn_soundG (c := cfg5) TTok FNSok mixed Try.func5 (show Try.f5.body = some c5 by kernel_rfl) (show Try.f5.ntmps = 89 by kernel_rfl) (show Try.f5.results.toList = [.tmp 2] by kernel_rfl) rfl ((F5_eq s0a s0l s0c s1 s2 g R).mpr hF)

/- 6 pilaster/pilasterlaw53.StoreTorn -/
noncomputable def c6 : Code := match Try.f6.body with
  | some c => c
  | none => .skip
noncomputable def cfg6 : Cfg := ⟨Try.prog, TT, FNS, [7, 12, 13, 22], [(7, 7), (12, 12), (13, 13), (22, 22), (66, 7), (72, 7), (78, 7), (82, 7), (85, 7), (86, 7), (106, 7)], [17], TCH, false, false⟩
def an6 : AnnG := (.seq .leaf (.join ⟨[], [], []⟩ (.seq .leaf (.cond (.seq .leaf .leaf) .leaf)) (.seq .leaf (.seq (.seq .leaf (.cond (.seq .leaf .leaf) .leaf)) (.seq .leaf (.seq .leaf (.seq (.seq .leaf (.blk (.loop ⟨[(9, .sl), (10, .sl), (41, .int .i64)], [(7, 7, 0)], [(7, [(.sl), (.int .i64), (.int .i64)])]⟩ (.seq .leaf (.seq (.cond .leaf .leaf) (.seq (.blk (.seq .leaf (.seq .leaf (.seq (.seq .leaf (.cond .leaf .leaf)) (.seq .leaf (.seq (.seq .leaf (.cond (.seq .leaf .leaf) .leaf)) (.seq .leaf (.tree 9 (.quiet 0 (.quiet 1 (.quiet 4 (.quiet 5 (.quiet 6 (.quiet 7 (.eff 2 (.eff 3 (.eff 8 .fin .fin) (.eff 8 (.eff 3 .fin .fin) .fin)) (.eff 8 (.eff 2 (.eff 3 .fin .fin) .fin) .fin)))))))))))))))) .leaf)))))) (.seq (.seq .leaf (.cond (.seq .leaf .leaf) .leaf)) (.seq .leaf (.seq .leaf (.seq .leaf (.seq .leaf (.seq .leaf (.join ⟨[(19, .int .i64)], [], []⟩ (.seq .leaf (.cond .leaf .leaf)) (.seq (.seq .leaf (.cond (.seq .leaf .leaf) .leaf)) (.seq .leaf (.join ⟨[], [], []⟩ (.seq .leaf (.cond (.seq .leaf .leaf) .leaf)) (.seq .leaf (.seq .leaf (.seq .leaf .leaf))))))))))))))))))))
def F6 (la : Option Addr) (ll : Nat) (lc : Nat) (at0 : Int) (bit : Int) (g : G) (R : Value → G → Prop) : Prop :=
  ∀ J : G → Prop,
  (∀ g1 : G, ((CallsP Try.prog 22 #[(.int .i64 (-1 : Int))] g1 fun v g2 =>
  ∃ x00a : Option Addr, ∃ x00l : Nat, ∃ x00c : Nat, ∃ x01 : Int, ∃ x02 : Int, ∃ x1 : Int, v = (.tuple ⟨[(.agg ⟨[(.slice x00a x00l x00c), (.int .i64 x01), (.int .i64 x02)]⟩), (.int .i64 x1)]⟩) ∧ ifB (!eqI x1 (0 : Int))
  (∀ g3 : G, Ex g2 g3 →
  R (.bool false) g3)
  (∃ Inv : Nat → Option Addr → Nat → Nat → Option Addr → Nat → Nat → Int → Option Addr → Nat → Nat → Int → Int → G → Prop, (∀ g4 : G, Ex g2 g4 →
  (∃ m0 : Nat, Inv m0 none 0 0 none 0 0 (0 : Int) x00a x00l x00c x01 x02 g4)) ∧
  ∀ m : Nat, ∀ beforea : Option Addr, ∀ beforel : Nat, ∀ beforec : Nat, ∀ endsa : Option Addr, ∀ endsl : Nat, ∀ endsc : Nat, ∀ v_1 : Int, ∀ s0a : Option Addr, ∀ s0l : Nat, ∀ s0c : Nat, ∀ s1 : Int, ∀ s2 : Int, ∀ g5 : G, Le g2 g5 → Inv m beforea beforel beforec endsa endsl endsc v_1 s0a s0l s0c s1 s2 g5 →
  ifB (ltI v_1 ((ll : Nat) : Int))
  ((0 ≤ v_1 ∧ v_1 < ((ll : Nat) : Int)) ∧ derefP la fun ad => ∃ x0 : ByteArray, ∃ x1a : Option Addr, ∃ x1l : Nat, ∃ x1c : Nat, ∃ x2 : Bool, g5.w.cell? (Addr.add ad (Int.toNat v_1 * 3)) = some (.string x0) ∧ g5.w.cell? (Addr.add (Addr.add ad (Int.toNat v_1 * 3)) 1) = some (.slice x1a x1l x1c) ∧ g5.w.cell? (Addr.add (Addr.add ad (Int.toNat v_1 * 3)) 2) = some (.bool x2) ∧ ∀ g6 : G, Ex g5 g6 →
  (CallsP Try.prog 31 #[(.agg ⟨[(.slice s0a s0l s0c), (.int .i64 s1), (.int .i64 s2)]⟩), (.agg ⟨[(.string x0), (.slice x1a x1l x1c), (.bool x2)]⟩)] g6 fun v g7 =>
  ∃ x00a_1 : Option Addr, ∃ x00l_1 : Nat, ∃ x00c_1 : Nat, ∃ x01_1 : Int, ∃ x02_1 : Int, ∃ x1_1 : Int, v = (.tuple ⟨[(.agg ⟨[(.slice x00a_1 x00l_1 x00c_1), (.int .i64 x01_1), (.int .i64 x02_1)]⟩), (.int .i64 x1_1)]⟩) ∧ ifB (!eqI x1_1 (0 : Int))
  (InI64 (v_1 + (1 : Int)) ∧ ∀ g8 : G, Ex g7 g8 →
  (∃ m_1 : Nat, m_1 < m ∧ Inv m_1 beforea beforel beforec endsa endsl endsc (v_1 + (1 : Int)) s0a s0l s0c s1 s2 g8))
  (∀ g9 : G, Ex g7 g9 →
  (CallsP Try.prog 27 #[(.agg ⟨[(.slice s0a s0l s0c), (.int .i64 s1), (.int .i64 s2)]⟩)] g9 fun v g10 =>
  ∃ x0a : Option Addr, ∃ x0l : Nat, ∃ x0c : Nat, ∃ x1_2 : Int, v = (.tuple ⟨[(.slice x0a x0l x0c), (.int .i64 x1_2)]⟩) ∧ ifB (!eqI x1_2 (0 : Int))
  (∀ g11 : G, Ex g10 g11 →
  R (.bool false) g11)
  (∀ g12 : G, Ex g10 g12 →
  (∀ g13 : G, NewL g12 g13 36 [(.slice x0a x0l x0c)] →
  (∃ beforea_1 : Option Addr, ∃ beforel_1 : Nat, ∃ beforec_1 : Nat, ∃ w1 : World, Sem.run Try.prog (Builtin.append_ #[51, 51] 51 #[(.slice beforea beforel beforec), (.slice (some ⟨g12.w.heap.size, 0, none⟩) 1 1)]) g13.w = .ok (.slice beforea_1 beforel_1 beforec_1) w1 ∧ ∃ g14 : G, g14.w = w1 ∧ Stp g.w.heap.size nobody g13 g14 ∧ SameB g12 g14 ∧ ∀ g15 : G, NewL g14 g15 3 [(.int .i64 ((x00l_1 : Nat) : Int))] →
  ∃ endsa_1 : Option Addr, ∃ endsl_1 : Nat, ∃ endsc_1 : Nat, ∃ w2 : World, Sem.run Try.prog (Builtin.append_ #[52, 52] 52 #[(.slice endsa endsl endsc), (.slice (some ⟨g14.w.heap.size, 0, none⟩) 1 1)]) g15.w = .ok (.slice endsa_1 endsl_1 endsc_1) w2 ∧ ∃ g16 : G, g16.w = w2 ∧ Stp g.w.heap.size nobody g15 g16 ∧ InI64 (v_1 + (1 : Int)) ∧ (∃ m_1 : Nat, m_1 < m ∧ Inv m_1 beforea_1 beforel_1 beforec_1 endsa_1 endsl_1 endsc_1 (v_1 + (1 : Int)) x00a_1 x00l_1 x00c_1 x01_1 x02_1 g16)) ∧ (∀ g17 : G, NewL g13 g17 3 [(.int .i64 ((x00l_1 : Nat) : Int))] →
  ∃ beforea_2 : Option Addr, ∃ beforel_2 : Nat, ∃ beforec_2 : Nat, ∃ w3 : World, Sem.run Try.prog (Builtin.append_ #[51, 51] 51 #[(.slice beforea beforel beforec), (.slice (some ⟨g12.w.heap.size, 0, none⟩) 1 1)]) g17.w = .ok (.slice beforea_2 beforel_2 beforec_2) w3 ∧ ∃ g18 : G, g18.w = w3 ∧ Stp g.w.heap.size nobody g17 g18 ∧ SameB g12 g18 ∧ ∃ endsa_2 : Option Addr, ∃ endsl_2 : Nat, ∃ endsc_2 : Nat, ∃ w4 : World, Sem.run Try.prog (Builtin.append_ #[52, 52] 52 #[(.slice endsa endsl endsc), (.slice (some ⟨g13.w.heap.size, 0, none⟩) 1 1)]) g18.w = .ok (.slice endsa_2 endsl_2 endsc_2) w4 ∧ ∃ g19 : G, g19.w = w4 ∧ Stp g.w.heap.size nobody g18 g19 ∧ InI64 (v_1 + (1 : Int)) ∧ (∃ m_1 : Nat, m_1 < m ∧ Inv m_1 beforea_2 beforel_2 beforec_2 endsa_2 endsl_2 endsc_2 (v_1 + (1 : Int)) x00a_1 x00l_1 x00c_1 x01_1 x02_1 g19))) ∧ (∀ g20 : G, NewL g12 g20 3 [(.int .i64 ((x00l_1 : Nat) : Int))] →
  ∀ g21 : G, NewL g20 g21 36 [(.slice x0a x0l x0c)] →
  ∃ beforea_3 : Option Addr, ∃ beforel_3 : Nat, ∃ beforec_3 : Nat, ∃ w5 : World, Sem.run Try.prog (Builtin.append_ #[51, 51] 51 #[(.slice beforea beforel beforec), (.slice (some ⟨g20.w.heap.size, 0, none⟩) 1 1)]) g21.w = .ok (.slice beforea_3 beforel_3 beforec_3) w5 ∧ ∃ g22 : G, g22.w = w5 ∧ Stp g.w.heap.size nobody g21 g22 ∧ SameB g12 g22 ∧ ∃ endsa_3 : Option Addr, ∃ endsl_3 : Nat, ∃ endsc_3 : Nat, ∃ w6 : World, Sem.run Try.prog (Builtin.append_ #[52, 52] 52 #[(.slice endsa endsl endsc), (.slice (some ⟨g12.w.heap.size, 0, none⟩) 1 1)]) g22.w = .ok (.slice endsa_3 endsl_3 endsc_3) w6 ∧ ∃ g23 : G, g23.w = w6 ∧ Stp g.w.heap.size nobody g22 g23 ∧ InI64 (v_1 + (1 : Int)) ∧ (∃ m_1 : Nat, m_1 < m ∧ Inv m_1 beforea_3 beforel_3 beforec_3 endsa_3 endsl_3 endsc_3 (v_1 + (1 : Int)) x00a_1 x00l_1 x00c_1 x01_1 x02_1 g23)))))))
  (ifB (eqI ((s0l : Nat) : Int) (0 : Int))
  (∀ g24 : G, Ex g5 g24 →
  R (.bool true) g24)
  (InI64 at0 ∧ ((s0l : Nat) : Int) ≠ 0 ∧ ∀ g25 : G, NewD g5 g25 3 [(.int .i64 (0 : Int))] →
  stOk g25.w ⟨g5.w.heap.size, 0, none⟩ 1 ∧ ¬ g25.X (Addr.block ⟨g5.w.heap.size, 0, none⟩) ∧ mutAt g25 ⟨g5.w.heap.size, 0, none⟩ 1 ∧ ((Addr.block ⟨g5.w.heap.size, 0, none⟩) < g.w.heap.size → nobody (Addr.block ⟨g5.w.heap.size, 0, none⟩)) ∧ ∀ g26 : G, StG true g25 ⟨g5.w.heap.size, 0, none⟩ [(.int .i64 (Int.tmod at0 ((s0l : Nat) : Int)))] g26 →
  (CallsP Try.prog 32 #[(.slice s0a s0l s0c)] g26 fun v g27 =>
  ∃ xa : Option Addr, ∃ xl : Nat, ∃ xc : Nat, v = (.slice xa xl xc) ∧ ∀ g28 : G, Ex g27 g28 →
  ∃ k : Int, g28.w.cell? ⟨g5.w.heap.size, 0, none⟩ = some (.int .i64 k) ∧ (0 ≤ k ∧ k < ((xl : Nat) : Int)) ∧ derefP xa fun ad_1 => ∃ x : Int, g28.w.cell? (Addr.add ad_1 (Int.toNat k * 1)) = some (.int .u8 x) ∧ (8 : Int) ≠ 0 ∧ 0 ≤ (Int.tmod bit (8 : Int)) ∧ (0 ≤ k ∧ k < ((xl : Nat) : Int)) ∧ derefP xa fun ad_2 => stOk g28.w (Addr.add ad_2 (Int.toNat k * 1)) 1 ∧ ¬ g28.X (Addr.block (Addr.add ad_2 (Int.toNat k * 1))) ∧ mutAt g28 (Addr.add ad_2 (Int.toNat k * 1)) 1 ∧ ((Addr.block (Addr.add ad_2 (Int.toNat k * 1))) < g.w.heap.size → nobody (Addr.block (Addr.add ad_2 (Int.toNat k * 1)))) ∧ ∀ g29 : G, StG false g28 (Addr.add ad_2 (Int.toNat k * 1)) [(.int .u8 (bits BinOp.xor IntKind.u8 x (shlI IntKind.u8 (1 : Int) (Int.tmod bit (8 : Int)))))] g29 →
  (CallsP Try.prog 33 #[(.slice endsa endsl endsc), (.func (.func 34) #[] ⟨[(.pointer (some ⟨g5.w.heap.size, 0, none⟩))]⟩)] g29 fun v g30 =>
  ∃ i : Int, v = (.int .i64 i) ∧ ∀ J_1 : Int → G → Prop,
  (∀ start : Int, ∀ g31 : G, ((0 ≤ start ∧ start ≤ ((xl : Nat) : Int)) ∧ (CallsP Try.prog 29 #[(.slice (slAddr xa xc (Int.toNat start) 1) (xl - (Int.toNat start)) (xc - (Int.toNat start)))] g31 fun v g32 =>
  ∃ x_1 : Int, v = (.int .i64 x_1) ∧ ifB (ltI (0 : Int) x_1)
  (∀ g33 : G, Ex g32 g33 →
  R (.bool true) g33)
  ((CallsP Try.prog 27 #[(.agg ⟨[(.slice xa xl xc), (.int .i64 s1), (.int .i64 s2)]⟩)] g32 fun v g34 =>
  ∃ x0a_1 : Option Addr, ∃ x0l_1 : Nat, ∃ x0c_1 : Nat, ∃ x1_3 : Int, v = (.tuple ⟨[(.slice x0a_1 x0l_1 x0c_1), (.int .i64 x1_3)]⟩) ∧ ∀ J_2 : G → Prop,
  (∀ g35 : G, (∀ g36 : G, NewL g35 g36 5 [(.int .u8 (110 : Int)), (.int .u8 (101 : Int)), (.int .u8 (119 : Int))] →
  ∃ xa_1 : Option Addr, ∃ xl_1 : Nat, ∃ xc_1 : Nat, ∃ w7 : World, Sem.run Try.prog (convert 22 22 (.slice (some ⟨g35.w.heap.size, 0, none⟩) 3 3)) g36.w = .ok (.slice xa_1 xl_1 xc_1) w7 ∧ ∃ g37 : G, g37.w = w7 ∧ Stp g.w.heap.size nobody g36 g37 ∧ (CallsP Try.prog 12 #[(.agg ⟨[(.slice xa xl xc), (.int .i64 s1), (.int .i64 s2)]⟩), (.string (bs [122])), (.slice xa_1 xl_1 xc_1)] g37 fun v g38 =>
  ∃ x00a_2 : Option Addr, ∃ x00l_2 : Nat, ∃ x00c_2 : Nat, ∃ x01_2 : Int, ∃ x02_2 : Int, ∃ x1_4 : Int, v = (.tuple ⟨[(.agg ⟨[(.slice x00a_2 x00l_2 x00c_2), (.int .i64 x01_2), (.int .i64 x02_2)]⟩), (.int .i64 x1_4)]⟩) ∧ ∀ g39 : G, Ex g38 g39 →
  (CallsP Try.prog 35 #[(.agg ⟨[(.slice x00a_2 x00l_2 x00c_2), (.int .i64 x01_2), (.int .i64 x02_2)]⟩), (.string (bs [122]))] g39 fun v g40 =>
  ∃ x0a_2 : Option Addr, ∃ x0l_2 : Nat, ∃ x0c_2 : Nat, ∃ x1_5 : Int, v = (.tuple ⟨[(.slice x0a_2 x0l_2 x0c_2), (.int .i64 x1_5)]⟩) ∧ ifB (eqI x1_4 (0 : Int))
  (ifB (eqI x1_5 (0 : Int))
  (∃ x_2 : ByteArray, ∃ w8 : World, Sem.run Try.prog (convert 22 9 (.slice x0a_2 x0l_2 x0c_2)) g40.w = .ok (.string x_2) w8 ∧ ∃ g41 : G, g41.w = w8 ∧ Stp g.w.heap.size nobody g40 g41 ∧ ∀ g42 : G, Ex g41 g42 →
  R (.bool (strEq x_2 (bs [110, 101, 119]))) g42)
  (∀ g43 : G, Ex g40 g43 →
  R (.bool false) g43))
  (∀ g44 : G, Ex g40 g44 →
  R (.bool false) g44)))) → J_2 g35) →
  ifB (!eqI x1_3 (0 : Int))
  (∀ g45 : G, Ex g34 g45 →
  R (.bool false) g45)
  (ifB (ltI i (0 : Int))
  (∀ g46 : G, Ex g34 g46 →
  R (.bool false) g46)
  ((0 ≤ i ∧ i < ((beforel : Nat) : Int)) ∧ derefP beforea fun ad_3 => ∃ xa_2 : Option Addr, ∃ xl_2 : Nat, ∃ xc_2 : Nat, g34.w.cell? (Addr.add ad_3 (Int.toNat i * 1)) = some (.slice xa_2 xl_2 xc_2) ∧ (CallsP Try.prog 28 #[(.slice x0a_1 x0l_1 x0c_1), (.slice xa_2 xl_2 xc_2)] g34 fun v g47 =>
  ∃ x_3 : Bool, v = (.bool x_3) ∧ ifB (!x_3)
  (∀ g48 : G, Ex g47 g48 →
  R (.bool false) g48)
  (J_2 g47)))))))) → J_1 start g31) →
  ifB (ltI (0 : Int) i)
  (InI64 (i - (1 : Int)) ∧ (0 ≤ (i - (1 : Int)) ∧ (i - (1 : Int)) < ((endsl : Nat) : Int)) ∧ derefP endsa fun ad_4 => ∃ start_1 : Int, g30.w.cell? (Addr.add ad_4 (Int.toNat (i - (1 : Int)) * 1)) = some (.int .i64 start_1) ∧ J_1 start_1 g30)
  (J_1 (0 : Int) g30)))))))) → J g1) →
  (CallsP Try.prog 10 #[] g fun v g49 =>
  ∃ x_4 : Bool, v = (.bool x_4) ∧ ifB (!x_4)
  ((CallsP Try.prog 10 #[] g49 fun v g50 =>
  ∃ x_5 : Bool, v = (.bool x_5) ∧ ∀ g51 : G, Ex g50 g51 →
  R (.bool x_5) g51))
  ((CallsP Try.prog 30 #[(.slice la ll lc)] g49 fun v g52 =>
  ∃ x_6 : Bool, v = (.bool x_6) ∧ ifB (!x_6)
  ((CallsP Try.prog 10 #[] g52 fun v g53 =>
  ∃ x_7 : Bool, v = (.bool x_7) ∧ ∀ g54 : G, Ex g53 g54 →
  R (.bool x_7) g54))
  (J g52))))
theorem F6_eq (la : Option Addr) (ll : Nat) (lc : Nat) (at0 : Int) (bit : Int) (g : G) (R : Value → G → Prop) : fnG cfg6 155 [.tmp 6] c6 an6 [(.slice la ll lc), (.int .u16 at0), (.int .u8 bit)] g nobody R = F6 la ll lc at0 bit g R := by kernel_rfl
theorem call6 (la : Option Addr) (ll : Nat) (lc : Nat) (at0 : Int) (bit : Int) (g : G) (R : Value → G → Prop) (hF : F6 la ll lc at0 bit g R) : CallsG Try.prog 6 #[(.slice la ll lc), (.int .u16 at0), (.int .u8 bit)] g nobody R :=
  fn_soundG (c := cfg6) TTok FNSok mixed Try.func6 (show Try.f6.body = some c6 by kernel_rfl) (show Try.f6.ntmps = 155 by kernel_rfl) (show Try.f6.results.toList = [.tmp 6] by kernel_rfl) rfl ((F6_eq la ll lc at0 bit g R).mpr hF)

/- 7 pilaster/pilasterlaw53.StoreReads -/
noncomputable def c7 : Code := match Try.f7.body with
  | some c => c
  | none => .skip
noncomputable def cfg7 : Cfg := ⟨Try.prog, TT, FNS, [2, 11], [(2, 2), (11, 11)], [], TCH, false, false⟩
def an7 : AnnG := (.seq .leaf (.join ⟨[], [], []⟩ (.seq .leaf (.cond (.seq .leaf .leaf) .leaf)) (.seq .leaf (.seq .leaf (.seq .leaf (.seq .leaf (.seq (.seq .leaf (.cond (.seq .leaf .leaf) .leaf)) (.seq .leaf (.join ⟨[], [], []⟩ (.seq (.tree 27 (.quiet 0 (.quiet 1 (.quiet 2 (.quiet 3 (.quiet 4 (.quiet 5 (.quiet 6 (.quiet 7 (.quiet 8 (.quiet 9 (.quiet 10 (.quiet 11 (.quiet 12 (.eff 13 (.quiet 14 (.quiet 15 (.quiet 16 (.quiet 17 (.quiet 18 (.quiet 19 (.quiet 20 (.quiet 21 (.quiet 22 (.quiet 23 (.quiet 24 (.quiet 25 (.eff 26 .fin .fin))))))))))))) .fin))))))))))))))) (.cond (.seq .leaf .leaf) .leaf)) (.seq (.seq .leaf (.blk (.loop ⟨[(120, .int .i64)], [], []⟩ (.seq .leaf (.seq (.cond .leaf .leaf) (.seq (.blk (.seq .leaf (.seq (.tree 9 (.quiet 0 (.quiet 1 (.quiet 2 (.quiet 3 (.quiet 4 (.quiet 5 (.quiet 6 (.quiet 7 (.quiet 8 .fin)))))))))) (.cond (.seq .leaf .leaf) .leaf)))) .leaf)))))) (.seq (.seq .leaf (.cond (.seq .leaf .leaf) .leaf)) (.seq .leaf (.seq (.seq .leaf (.cond (.seq .leaf .leaf) .leaf)) (.seq .leaf .leaf))))))))))))))
def F7 (s0a : Option Addr) (s0l : Nat) (s0c : Nat) (s1 : Int) (s2 : Int) (key : ByteArray) (g : G) (R : Value → G → Prop) : Prop :=
  ∀ J : G → Prop,
  (∀ g1 : G, ((CallsP Try.prog 35 #[(.agg ⟨[(.slice s0a s0l s0c), (.int .i64 s1), (.int .i64 s2)]⟩), (.string key)] g1 fun v g2 =>
  ∃ x0a : Option Addr, ∃ x0l : Nat, ∃ x0c : Nat, ∃ x1 : Int, v = (.tuple ⟨[(.slice x0a x0l x0c), (.int .i64 x1)]⟩) ∧ (CallsP Try.prog 36 #[(.agg ⟨[(.slice s0a s0l s0c), (.int .i64 s1), (.int .i64 s2)]⟩)] g2 fun v g3 =>
  ∃ x0a_1 : Option Addr, ∃ x0l_1 : Nat, ∃ x0c_1 : Nat, ∃ x1_1 : Int, v = (.tuple ⟨[(.slice x0a_1 x0l_1 x0c_1), (.int .i64 x1_1)]⟩) ∧ (CallsP Try.prog 27 #[(.agg ⟨[(.slice s0a s0l s0c), (.int .i64 s1), (.int .i64 s2)]⟩)] g3 fun v g4 =>
  ∃ x0a_2 : Option Addr, ∃ x0l_2 : Nat, ∃ x0c_2 : Nat, ∃ x1_2 : Int, v = (.tuple ⟨[(.slice x0a_2 x0l_2 x0c_2), (.int .i64 x1_2)]⟩) ∧ (CallsP Try.prog 26 #[(.agg ⟨[(.slice s0a s0l s0c), (.int .i64 s1), (.int .i64 s2)]⟩)] g4 fun v g5 =>
  ∃ x00a : Option Addr, ∃ x00l : Nat, ∃ x00c : Nat, ∃ x01 : Int, ∃ x02 : Int, ∃ x1_3 : Int, v = (.tuple ⟨[(.agg ⟨[(.slice x00a x00l x00c), (.int .i64 x01), (.int .i64 x02)]⟩), (.int .i64 x1_3)]⟩) ∧ ∀ g6 : G, Ex g5 g6 →
  (CallsP Try.prog 14 #[(.agg ⟨[(.slice s0a s0l s0c), (.int .i64 s1), (.int .i64 s2)]⟩)] g6 fun v g7 =>
  ∃ x : Bool, v = (.bool x) ∧ ifB (!x)
  (ifB (eqI ((x0l : Nat) : Int) (0 : Int))
  (ifB (eqI x1 (1 : Int))
  (ifB (eqI ((x0l_1 : Nat) : Int) (0 : Int))
  (ifB (eqI x1_1 (1 : Int))
  (ifB (eqI ((x0l_2 : Nat) : Int) (0 : Int))
  (ifB (eqI x1_2 (1 : Int))
  ((CallsP Try.prog 15 #[(.agg ⟨[(.slice x00a x00l x00c), (.int .i64 x01), (.int .i64 x02)]⟩)] g7 fun v g8 =>
  ∃ x_1 : Bool, v = (.bool x_1) ∧ ifB x_1
  (∀ g9 : G, Ex g8 g9 →
  R (.bool (eqI x1_3 (1 : Int))) g9)
  (∀ g10 : G, Ex g8 g10 →
  R (.bool false) g10)))
  (∀ g11 : G, Ex g7 g11 →
  R (.bool false) g11))
  (∀ g12 : G, Ex g7 g12 →
  R (.bool false) g12))
  (∀ g13 : G, Ex g7 g13 →
  R (.bool false) g13))
  (∀ g14 : G, Ex g7 g14 →
  R (.bool false) g14))
  (∀ g15 : G, Ex g7 g15 →
  R (.bool false) g15))
  (∀ g16 : G, Ex g7 g16 →
  R (.bool false) g16))
  ((CallsP Try.prog 21 #[(.agg ⟨[(.slice s0a s0l s0c), (.int .i64 s1), (.int .i64 s2)]⟩)] g7 fun v g17 =>
  ∃ wanta : Option Addr, ∃ wantl : Nat, ∃ wantc : Nat, v = (.slice wanta wantl wantc) ∧ ∀ J_1 : G → Prop,
  (∀ g18 : G, (∃ Inv : Nat → Int → G → Prop, ((∃ m0 : Nat, Inv m0 (0 : Int) g18)) ∧
  ∀ m : Nat, ∀ v_1 : Int, ∀ g19 : G, Le g18 g19 → Inv m v_1 g19 →
  ifB (ltI v_1 ((x0l_1 : Nat) : Int))
  (∀ g20 : G, Ex g19 g20 →
  (0 ≤ v_1 ∧ v_1 < ((x0l_1 : Nat) : Int)) ∧ derefP x0a_1 fun ad => ∃ x_2 : ByteArray, g20.w.cell? (Addr.add ad (Int.toNat v_1 * 1)) = some (.string x_2) ∧ (0 ≤ v_1 ∧ v_1 < ((wantl : Nat) : Int)) ∧ derefP wanta fun ad_1 => ∃ x_3 : ByteArray, g20.w.cell? (Addr.add ad_1 (Int.toNat v_1 * 2)) = some (.string x_3) ∧ ifB (!strEq x_2 x_3)
  (∀ g21 : G, Ex g20 g21 →
  R (.bool false) g21)
  (InI64 (v_1 + (1 : Int)) ∧ (∃ m_1 : Nat, m_1 < m ∧ Inv m_1 (v_1 + (1 : Int)) g20)))
  ((CallsP Try.prog 16 #[(.string key)] g19 fun v g22 =>
  ∃ x_4 : Bool, v = (.bool x_4) ∧ ifB (!x_4)
  (ifB (eqI ((x0l : Nat) : Int) (0 : Int))
  (∀ g23 : G, Ex g22 g23 →
  R (.bool (eqI x1 (2 : Int))) g23)
  (∀ g24 : G, Ex g22 g24 →
  R (.bool false) g24))
  ((CallsP Try.prog 20 #[(.slice wanta wantl wantc), (.string key)] g22 fun v g25 =>
  ∃ i : Int, v = (.int .i64 i) ∧ ifB (ltI i (0 : Int))
  (ifB (eqI ((x0l : Nat) : Int) (0 : Int))
  (∀ g26 : G, Ex g25 g26 →
  R (.bool (eqI x1 (8 : Int))) g26)
  (∀ g27 : G, Ex g25 g27 →
  R (.bool false) g27))
  ((0 ≤ i ∧ i < ((wantl : Nat) : Int)) ∧ derefP wanta fun ad_2 => ∃ xa : Option Addr, ∃ xl : Nat, ∃ xc : Nat, g25.w.cell? (Addr.add (Addr.add ad_2 (Int.toNat i * 2)) 1) = some (.slice xa xl xc) ∧ (CallsP Try.prog 38 #[(.slice x0a x0l x0c), (.slice xa xl xc)] g25 fun v g28 =>
  ∃ x_5 : Bool, v = (.bool x_5) ∧ ifB x_5
  (∀ g29 : G, Ex g28 g29 →
  R (.bool (eqI x1 (0 : Int))) g29)
  (∀ g30 : G, Ex g28 g30 →
  R (.bool false) g30)))))))) → J_1 g18) →
  ∀ g31 : G, Ex g17 g31 →
  ifB (!eqI x1_1 (0 : Int))
  (∀ g32 : G, Ex g31 g32 →
  R (.bool false) g32)
  (ifB (!eqI x1_2 (0 : Int))
  (∀ g33 : G, Ex g31 g33 →
  R (.bool false) g33)
  (ifB (!eqI x1_3 (0 : Int))
  (∀ g34 : G, Ex g31 g34 →
  R (.bool false) g34)
  ((CallsP Try.prog 28 #[(.slice x0a_2 x0l_2 x0c_2), (.slice wanta wantl wantc)] g31 fun v g35 =>
  ∃ x_6 : Bool, v = (.bool x_6) ∧ ifB (!x_6)
  (∀ g36 : G, Ex g35 g36 →
  R (.bool false) g36)
  (ifB (!eqI ((x0l_1 : Nat) : Int) ((wantl : Nat) : Int))
  (∀ g37 : G, Ex g35 g37 →
  R (.bool false) g37)
  ((CallsP Try.prog 37 #[(.agg ⟨[(.slice s0a s0l s0c), (.int .i64 s1), (.int .i64 s2)]⟩)] g35 fun v g38 =>
  ∃ x0a_3 : Option Addr, ∃ x0l_3 : Nat, ∃ x0c_3 : Nat, ∃ x1_4 : Int, ∃ x2 : Int, v = (.agg ⟨[(.slice x0a_3 x0l_3 x0c_3), (.int .i64 x1_4), (.int .i64 x2)]⟩) ∧ (CallsP Try.prog 19 #[(.agg ⟨[(.slice x00a x00l x00c), (.int .i64 x01), (.int .i64 x02)]⟩), (.agg ⟨[(.slice x0a_3 x0l_3 x0c_3), (.int .i64 x1_4), (.int .i64 x2)]⟩)] g38 fun v g39 =>
  ∃ x_7 : Bool, v = (.bool x_7) ∧ ifB (!x_7)
  (∀ g40 : G, Ex g39 g40 →
  R (.bool false) g40)
  (J_1 g39))))))))))))))))) → J g1) →
  ∀ g41 : G, Ex g g41 →
  (CallsP Try.prog 10 #[] g41 fun v g42 =>
  ∃ x_8 : Bool, v = (.bool x_8) ∧ ifB (!x_8)
  ((CallsP Try.prog 10 #[] g42 fun v g43 =>
  ∃ x_9 : Bool, v = (.bool x_9) ∧ ∀ g44 : G, Ex g43 g44 →
  R (.bool x_9) g44))
  ((CallsP Try.prog 11 #[(.agg ⟨[(.slice s0a s0l s0c), (.int .i64 s1), (.int .i64 s2)]⟩)] g42 fun v g45 =>
  ∃ x_10 : Bool, v = (.bool x_10) ∧ ifB (!x_10)
  ((CallsP Try.prog 10 #[] g45 fun v g46 =>
  ∃ x_11 : Bool, v = (.bool x_11) ∧ ∀ g47 : G, Ex g46 g47 →
  R (.bool x_11) g47))
  (ifB (ltI (1000 : Int) ((key.size : Nat) : Int))
  ((CallsP Try.prog 10 #[] g45 fun v g48 =>
  ∃ x_12 : Bool, v = (.bool x_12) ∧ ∀ g49 : G, Ex g48 g49 →
  R (.bool x_12) g49))
  (J g45)))))
theorem F7_eq (s0a : Option Addr) (s0l : Nat) (s0c : Nat) (s1 : Int) (s2 : Int) (key : ByteArray) (g : G) (R : Value → G → Prop) : fnG cfg7 167 [.tmp 4] c7 an7 [(.agg ⟨[(.slice s0a s0l s0c), (.int .i64 s1), (.int .i64 s2)]⟩), (.string key)] g nobody R = F7 s0a s0l s0c s1 s2 key g R := by kernel_rfl
theorem call7 (s0a : Option Addr) (s0l : Nat) (s0c : Nat) (s1 : Int) (s2 : Int) (key : ByteArray) (g : G) (R : Value → G → Prop) (hF : F7 s0a s0l s0c s1 s2 key g R) : CallsG Try.prog 7 #[(.agg ⟨[(.slice s0a s0l s0c), (.int .i64 s1), (.int .i64 s2)]⟩), (.string key)] g nobody R :=
  fn_soundG (c := cfg7) TTok FNSok mixed Try.func7 (show Try.f7.body = some c7 by kernel_rfl) (show Try.f7.ntmps = 167 by kernel_rfl) (show Try.f7.results.toList = [.tmp 4] by kernel_rfl) rfl ((F7_eq s0a s0l s0c s1 s2 key g R).mpr hF)

/- 8 pilaster/pilasterlaw53.StoreCrashed -/
noncomputable def c8 : Code := match Try.f8.body with
  | some c => c
  | none => .skip
noncomputable def cfg8 : Cfg := ⟨Try.prog, TT, FNS, [7, 9, 11, 16, 17, 19, 21, 25], [(7, 7), (9, 9), (11, 11), (16, 16), (17, 17), (19, 19), (21, 21), (25, 25), (96, 9), (98, 9), (143, 25), (149, 7), (154, 7), (162, 7), (167, 25), (169, 25)], [], TCH, false, false⟩
def an8 : AnnG := (.seq .leaf (.join ⟨[], [], []⟩ (.seq .leaf (.cond (.seq .leaf .leaf) .leaf)) (.seq .leaf (.seq .leaf (.join ⟨[], [], []⟩ (.seq .leaf (.cond (.seq .leaf .leaf) .leaf)) (.seq .leaf (.join ⟨[(13, .sl), (14, .sl)], [(9, 9, 0)], [(9, [(.sl), (.int .i64), (.int .i64)])]⟩ (.seq .leaf (.blk (.loop ⟨[(13, .sl), (14, .sl), (59, .int .i64)], [(9, 9, 0), (11, 11, 0)], [(9, [(.sl), (.int .i64), (.int .i64)]), (11, [(.sl), (.int .i64), (.int .i64)])]⟩ (.seq .leaf (.seq (.cond .leaf .leaf) (.seq (.blk (.seq .leaf (.seq .leaf (.seq .leaf (.join ⟨[], [], []⟩ (.seq .leaf (.cond (.seq (.seq .leaf (.cond (.seq .leaf .leaf) .leaf)) .leaf) .leaf)) (.seq (.seq .leaf (.cond (.seq .leaf .leaf) .leaf)) (.seq .leaf (.seq (.seq .leaf (.seq .leaf (.cond (.seq .leaf .leaf) .leaf))) (.seq (.seq .leaf (.cond .leaf .leaf)) (.seq (.seq .leaf (.cond (.seq .leaf .leaf) .leaf)) (.tree 3 (.quiet 0 (.quiet 1 (.quiet 2 .fin)))))))))))))) .leaf)))))) (.seq .leaf (.seq .leaf (.join ⟨[], [], []⟩ (.seq .leaf (.cond (.seq .leaf .leaf) .leaf)) (.seq .leaf (.seq (.seq .leaf (.cond (.seq .leaf .leaf) .leaf)) (.seq .leaf (.seq (.seq .leaf (.cond (.seq .leaf .leaf) .leaf)) (.seq .leaf .leaf)))))))))))))))
def F8 (la : Option Addr) (ll : Nat) (lc : Nat) (after : Int) (keep : Int) (more0 : ByteArray) (more1a : Option Addr) (more1l : Nat) (more1c : Nat) (more2 : Bool) (g : G) (R : Value → G → Prop) : Prop :=
  ∀ J : G → Prop,
  (∀ g1 : G, (InI64 after ∧ (CallsP Try.prog 22 #[(.int .i64 after)] g1 fun v g2 =>
  ∃ x00a : Option Addr, ∃ x00l : Nat, ∃ x00c : Nat, ∃ x01 : Int, ∃ x02 : Int, ∃ x1 : Int, v = (.tuple ⟨[(.agg ⟨[(.slice x00a x00l x00c), (.int .i64 x01), (.int .i64 x02)]⟩), (.int .i64 x1)]⟩) ∧ ∀ g3 : G, Ex g2 g3 →
  (CallsP Try.prog 22 #[(.int .i64 (-1 : Int))] g3 fun v g4 =>
  ∃ x00a_1 : Option Addr, ∃ x00l_1 : Nat, ∃ x00c_1 : Nat, ∃ x01_1 : Int, ∃ x02_1 : Int, ∃ x1_1 : Int, v = (.tuple ⟨[(.agg ⟨[(.slice x00a_1 x00l_1 x00c_1), (.int .i64 x01_1), (.int .i64 x02_1)]⟩), (.int .i64 x1_1)]⟩) ∧ ∀ J_1 : G → Prop,
  (∀ g5 : G, (∀ J_2 : Option Addr → Nat → Nat → Option Addr → Nat → Nat → Option Addr → Nat → Nat → Int → Int → G → Prop,
  (∀ olda : Option Addr, ∀ oldl : Nat, ∀ oldc : Nat, ∀ witha : Option Addr, ∀ withl : Nat, ∀ withc : Nat, ∀ s0a : Option Addr, ∀ s0l : Nat, ∀ s0c : Nat, ∀ s1 : Int, ∀ s2 : Int, ∀ g6 : G, (InI64 keep ∧ (CallsP Try.prog 23 #[(.agg ⟨[(.slice s0a s0l s0c), (.int .i64 s1), (.int .i64 s2)]⟩), (.int .i64 keep)] g6 fun v g7 =>
  ∃ x00a_2 : Option Addr, ∃ x00l_2 : Nat, ∃ x00c_2 : Nat, ∃ x01_2 : Int, ∃ x02_2 : Int, ∃ x1_2 : Int, v = (.tuple ⟨[(.agg ⟨[(.slice x00a_2 x00l_2 x00c_2), (.int .i64 x01_2), (.int .i64 x02_2)]⟩), (.int .i64 x1_2)]⟩) ∧ ∀ g8 : G, Ex g7 g8 →
  (CallsP Try.prog 27 #[(.agg ⟨[(.slice x00a_2 x00l_2 x00c_2), (.int .i64 x01_2), (.int .i64 x02_2)]⟩)] g8 fun v g9 =>
  ∃ x0a : Option Addr, ∃ x0l : Nat, ∃ x0c : Nat, ∃ x1_3 : Int, v = (.tuple ⟨[(.slice x0a x0l x0c), (.int .i64 x1_3)]⟩) ∧ ∀ J_3 : G → Prop,
  (∀ g10 : G, ((CallsP Try.prog 31 #[(.agg ⟨[(.slice x00a_2 x00l_2 x00c_2), (.int .i64 x01_2), (.int .i64 x02_2)]⟩), (.agg ⟨[(.string more0), (.slice more1a more1l more1c), (.bool more2)]⟩)] g10 fun v g11 =>
  ∃ x00a_3 : Option Addr, ∃ x00l_3 : Nat, ∃ x00c_3 : Nat, ∃ x01_3 : Int, ∃ x02_3 : Int, ∃ x1_4 : Int, v = (.tuple ⟨[(.agg ⟨[(.slice x00a_3 x00l_3 x00c_3), (.int .i64 x01_3), (.int .i64 x02_3)]⟩), (.int .i64 x1_4)]⟩) ∧ ifB (!eqI x1_4 (0 : Int))
  (∀ g12 : G, Ex g11 g12 →
  R (.bool (eqI ((x00l_3 : Nat) : Int) (0 : Int))) g12)
  (∀ g13 : G, Ex g11 g13 →
  (CallsP Try.prog 35 #[(.agg ⟨[(.slice x00a_3 x00l_3 x00c_3), (.int .i64 x01_3), (.int .i64 x02_3)]⟩), (.string more0)] g13 fun v g14 =>
  ∃ x0a_1 : Option Addr, ∃ x0l_1 : Nat, ∃ x0c_1 : Nat, ∃ x1_5 : Int, v = (.tuple ⟨[(.slice x0a_1 x0l_1 x0c_1), (.int .i64 x1_5)]⟩) ∧ ifB more2
  (∀ g15 : G, Ex g14 g15 →
  R (.bool (eqI x1_5 (8 : Int))) g15)
  (ifB (eqI x1_5 (0 : Int))
  ((CallsP Try.prog 38 #[(.slice x0a_1 x0l_1 x0c_1), (.slice more1a more1l more1c)] g14 fun v g16 =>
  ∃ x : Bool, v = (.bool x) ∧ ifB x
  (∀ g17 : G, Ex g16 g17 →
  R (.bool (eqI x01_3 ((x00l_3 : Nat) : Int))) g17)
  (∀ g18 : G, Ex g16 g18 →
  R (.bool false) g18)))
  (∀ g19 : G, Ex g14 g19 →
  R (.bool false) g19)))))) → J_3 g10) →
  ifB (!eqI x1_2 (0 : Int))
  (∀ g20 : G, Ex g9 g20 →
  R (.bool false) g20)
  (ifB (!eqI x1_3 (0 : Int))
  (∀ g21 : G, Ex g9 g21 →
  R (.bool false) g21)
  ((CallsP Try.prog 28 #[(.slice x0a x0l x0c), (.slice olda oldl oldc)] g9 fun v g22 =>
  ∃ x_1 : Bool, v = (.bool x_1) ∧ ifB (!x_1)
  ((CallsP Try.prog 28 #[(.slice x0a x0l x0c), (.slice witha withl withc)] g22 fun v g23 =>
  ∃ x_2 : Bool, v = (.bool x_2) ∧ ifB (!x_2)
  (∀ g24 : G, Ex g23 g24 →
  R (.bool false) g24)
  (J_3 g23)))
  (J_3 g22))))))) → J_2 olda oldl oldc witha withl withc s0a s0l s0c s1 s2 g6) →
  ∃ Inv : Nat → Option Addr → Nat → Nat → Option Addr → Nat → Nat → Int → Option Addr → Nat → Nat → Int → Int → Option Addr → Nat → Nat → Int → Int → G → Prop, ((∃ m0 : Nat, Inv m0 none 0 0 none 0 0 (0 : Int) x00a x00l x00c x01 x02 x00a_1 x00l_1 x00c_1 x01_1 x02_1 g5)) ∧
  ∀ m : Nat, ∀ olda_1 : Option Addr, ∀ oldl_1 : Nat, ∀ oldc_1 : Nat, ∀ witha_1 : Option Addr, ∀ withl_1 : Nat, ∀ withc_1 : Nat, ∀ v_1 : Int, ∀ s0a_1 : Option Addr, ∀ s0l_1 : Nat, ∀ s0c_1 : Nat, ∀ s1_1 : Int, ∀ s2_1 : Int, ∀ whole0a : Option Addr, ∀ whole0l : Nat, ∀ whole0c : Nat, ∀ whole1 : Int, ∀ whole2 : Int, ∀ g25 : G, Le g5 g25 → Inv m olda_1 oldl_1 oldc_1 witha_1 withl_1 withc_1 v_1 s0a_1 s0l_1 s0c_1 s1_1 s2_1 whole0a whole0l whole0c whole1 whole2 g25 →
  ifB (ltI v_1 ((ll : Nat) : Int))
  ((0 ≤ v_1 ∧ v_1 < ((ll : Nat) : Int)) ∧ derefP la fun ad => ∃ x0 : ByteArray, ∃ x1a : Option Addr, ∃ x1l : Nat, ∃ x1c : Nat, ∃ x2 : Bool, g25.w.cell? (Addr.add ad (Int.toNat v_1 * 3)) = some (.string x0) ∧ g25.w.cell? (Addr.add (Addr.add ad (Int.toNat v_1 * 3)) 1) = some (.slice x1a x1l x1c) ∧ g25.w.cell? (Addr.add (Addr.add ad (Int.toNat v_1 * 3)) 2) = some (.bool x2) ∧ ∀ g26 : G, Ex g25 g26 →
  (CallsP Try.prog 31 #[(.agg ⟨[(.slice s0a_1 s0l_1 s0c_1), (.int .i64 s1_1), (.int .i64 s2_1)]⟩), (.agg ⟨[(.string x0), (.slice x1a x1l x1c), (.bool x2)]⟩)] g26 fun v g27 =>
  ∃ x00a_4 : Option Addr, ∃ x00l_4 : Nat, ∃ x00c_4 : Nat, ∃ x01_4 : Int, ∃ x02_4 : Int, ∃ x1_6 : Int, v = (.tuple ⟨[(.agg ⟨[(.slice x00a_4 x00l_4 x00c_4), (.int .i64 x01_4), (.int .i64 x02_4)]⟩), (.int .i64 x1_6)]⟩) ∧ ∀ g28 : G, Ex g27 g28 →
  (CallsP Try.prog 31 #[(.agg ⟨[(.slice whole0a whole0l whole0c), (.int .i64 whole1), (.int .i64 whole2)]⟩), (.agg ⟨[(.string x0), (.slice x1a x1l x1c), (.bool x2)]⟩)] g28 fun v g29 =>
  ∃ x00a_5 : Option Addr, ∃ x00l_5 : Nat, ∃ x00c_5 : Nat, ∃ x01_5 : Int, ∃ x02_5 : Int, ∃ x1_7 : Int, v = (.tuple ⟨[(.agg ⟨[(.slice x00a_5 x00l_5 x00c_5), (.int .i64 x01_5), (.int .i64 x02_5)]⟩), (.int .i64 x1_7)]⟩) ∧ ∀ J_4 : G → Prop,
  (∀ g30 : G, (ifB (!eqI x1_7 (0 : Int))
  (∀ g31 : G, Ex g30 g31 →
  R (.bool false) g31)
  (∀ g32 : G, Ex g30 g32 →
  (CallsP Try.prog 27 #[(.agg ⟨[(.slice x00a_5 x00l_5 x00c_5), (.int .i64 x01_5), (.int .i64 x02_5)]⟩)] g32 fun v g33 =>
  ∃ x0a_2 : Option Addr, ∃ x0l_2 : Nat, ∃ x0c_2 : Nat, ∃ x1_8 : Int, v = (.tuple ⟨[(.slice x0a_2 x0l_2 x0c_2), (.int .i64 x1_8)]⟩) ∧ ifB (!eqI x1_8 (0 : Int))
  (∀ g34 : G, Ex g33 g34 →
  R (.bool false) g34)
  (ifB (eqI x1_6 (30 : Int))
  (J_2 olda_1 oldl_1 oldc_1 x0a_2 x0l_2 x0c_2 x00a_4 x00l_4 x00c_4 x01_4 x02_4 g33)
  (ifB (!eqI x01_4 ((x00l_4 : Nat) : Int))
  (∀ g35 : G, Ex g33 g35 →
  R (.bool false) g35)
  (∀ g36 : G, Ex g33 g36 →
  InI64 (v_1 + (1 : Int)) ∧ ∀ g37 : G, Ex g36 g37 →
  (∃ m_1 : Nat, m_1 < m ∧ Inv m_1 x0a_2 x0l_2 x0c_2 x0a_2 x0l_2 x0c_2 (v_1 + (1 : Int)) x00a_4 x00l_4 x00c_4 x01_4 x02_4 x00a_5 x00l_5 x00c_5 x01_5 x02_5 g37))))))) → J_4 g30) →
  ifB (!eqI x1_6 (0 : Int))
  (ifB (!eqI x1_6 (30 : Int))
  (ifB (!eqI x1_6 x1_7)
  (∀ g38 : G, Ex g29 g38 →
  R (.bool false) g38)
  (InI64 (v_1 + (1 : Int)) ∧ ∀ g39 : G, Ex g29 g39 →
  (∃ m_1 : Nat, m_1 < m ∧ Inv m_1 olda_1 oldl_1 oldc_1 witha_1 withl_1 withc_1 (v_1 + (1 : Int)) s0a_1 s0l_1 s0c_1 s1_1 s2_1 whole0a whole0l whole0c whole1 whole2 g39)))
  (∀ g40 : G, Ex g29 g40 →
  J_4 g40))
  (∀ g41 : G, Ex g29 g41 →
  J_4 g41))))
  (J_2 olda_1 oldl_1 oldc_1 witha_1 withl_1 withc_1 s0a_1 s0l_1 s0c_1 s1_1 s2_1 g25)) → J_1 g5) →
  ifB (!eqI x1 (0 : Int))
  (∀ g42 : G, Ex g4 g42 →
  R (.bool false) g42)
  (ifB (!eqI x1_1 (0 : Int))
  (∀ g43 : G, Ex g4 g43 →
  R (.bool false) g43)
  (∀ g44 : G, Ex g4 g44 →
  J_1 g44))))) → J g1) →
  ∀ g45 : G, Ex g g45 →
  (CallsP Try.prog 10 #[] g45 fun v g46 =>
  ∃ x_3 : Bool, v = (.bool x_3) ∧ ifB (!x_3)
  ((CallsP Try.prog 10 #[] g46 fun v g47 =>
  ∃ x_4 : Bool, v = (.bool x_4) ∧ ∀ g48 : G, Ex g47 g48 →
  R (.bool x_4) g48))
  ((CallsP Try.prog 30 #[(.slice la ll lc)] g46 fun v g49 =>
  ∃ x_5 : Bool, v = (.bool x_5) ∧ ifB (!x_5)
  ((CallsP Try.prog 10 #[] g49 fun v g50 =>
  ∃ x_6 : Bool, v = (.bool x_6) ∧ ∀ g51 : G, Ex g50 g51 →
  R (.bool x_6) g51))
  (∀ g52 : G, NewL g49 g52 54 [(.string more0), (.slice more1a more1l more1c), (.bool more2)] →
  (CallsP Try.prog 30 #[(.slice (some ⟨g49.w.heap.size, 0, none⟩) 1 1)] g52 fun v g53 =>
  ∃ x_7 : Bool, v = (.bool x_7) ∧ ifB (!x_7)
  ((CallsP Try.prog 10 #[] g53 fun v g54 =>
  ∃ x_8 : Bool, v = (.bool x_8) ∧ ∀ g55 : G, Ex g54 g55 →
  R (.bool x_8) g55))
  (J g53))))))
theorem F8_eq (la : Option Addr) (ll : Nat) (lc : Nat) (after : Int) (keep : Int) (more0 : ByteArray) (more1a : Option Addr) (more1l : Nat) (more1c : Nat) (more2 : Bool) (g : G) (R : Value → G → Prop) : fnG cfg8 174 [.tmp 8] c8 an8 [(.slice la ll lc), (.int .u16 after), (.int .u8 keep), (.agg ⟨[(.string more0), (.slice more1a more1l more1c), (.bool more2)]⟩)] g nobody R = F8 la ll lc after keep more0 more1a more1l more1c more2 g R := by kernel_rfl
theorem call8 (la : Option Addr) (ll : Nat) (lc : Nat) (after : Int) (keep : Int) (more0 : ByteArray) (more1a : Option Addr) (more1l : Nat) (more1c : Nat) (more2 : Bool) (g : G) (R : Value → G → Prop) (hF : F8 la ll lc after keep more0 more1a more1l more1c more2 g R) : CallsG Try.prog 8 #[(.slice la ll lc), (.int .u16 after), (.int .u8 keep), (.agg ⟨[(.string more0), (.slice more1a more1l more1c), (.bool more2)]⟩)] g nobody R :=
  fn_soundG (c := cfg8) TTok FNSok mixed Try.func8 (show Try.f8.body = some c8 by kernel_rfl) (show Try.f8.ntmps = 174 by kernel_rfl) (show Try.f8.results.toList = [.tmp 8] by kernel_rfl) rfl ((F8_eq la ll lc after keep more0 more1a more1l more1c more2 g R).mpr hF)

/- 9 pilaster/pilasterlaw53.StoreMap -/
noncomputable def c9 : Code := match Try.f9.body with
  | some c => c
  | none => .skip
noncomputable def cfg9 : Cfg := ⟨Try.prog, TT, FNS, [5, 9, 10], [(5, 5), (9, 9), (10, 10), (50, 9), (56, 9), (58, 9), (62, 9), (67, 9), (75, 9), (87, 9), (90, 9)], [], TCH, false, false⟩
def an9 : AnnG := (.seq .leaf (.join ⟨[], [], []⟩ (.seq .leaf (.cond (.seq .leaf .leaf) .leaf)) (.seq .leaf (.seq (.seq .leaf (.cond (.seq .leaf .leaf) .leaf)) (.seq .leaf (.seq (.seq .leaf (.blk (.loop ⟨[(37, .int .i64)], [(5, 5, 0)], [(5, [(.sl), (.int .i64), (.int .i64)])]⟩ (.seq .leaf (.seq (.cond .leaf .leaf) (.seq (.blk (.seq .leaf (.seq .leaf (.seq .leaf (.join ⟨[], [], []⟩ (.blk (.join ⟨[(61, .bool)], [], []⟩ .leaf (.cond (.seq (.seq .leaf (.cond (.seq .leaf .leaf) .leaf)) .leaf) (.join ⟨[(74, .bool)], [], []⟩ .leaf (.cond (.seq (.seq .leaf (.cond (.seq .leaf .leaf) .leaf)) .leaf) (.seq .leaf (.cond (.seq .leaf .leaf) (.seq .leaf (.cond .leaf .leaf))))))))) (.seq .leaf (.seq .leaf (.cond (.seq .leaf (.seq .leaf (.cond (.seq .leaf .leaf) .leaf))) .leaf)))))))) .leaf)))))) (.seq .leaf (.join ⟨[], [], []⟩ (.seq .leaf (.cond (.seq .leaf .leaf) .leaf)) (.seq (.seq .leaf (.blk (.loop ⟨[(124, .int .i64)], [], []⟩ (.seq .leaf (.seq (.cond .leaf .leaf) (.seq (.blk (.seq .leaf (.seq .leaf (.seq .leaf (.cond (.seq .leaf .leaf) .leaf))))) .leaf)))))) (.seq .leaf .leaf))))))))))
def F9 (la : Option Addr) (ll : Nat) (lc : Nat) (compact : Int) (g : G) (R : Value → G → Prop) : Prop :=
  ∀ J : G → Prop,
  (∀ g1 : G, ((CallsP Try.prog 22 #[(.int .i64 (-1 : Int))] g1 fun v g2 =>
  ∃ x00a : Option Addr, ∃ x00l : Nat, ∃ x00c : Nat, ∃ x01 : Int, ∃ x02 : Int, ∃ x1 : Int, v = (.tuple ⟨[(.agg ⟨[(.slice x00a x00l x00c), (.int .i64 x01), (.int .i64 x02)]⟩), (.int .i64 x1)]⟩) ∧ ifB (!eqI x1 (0 : Int))
  (∀ g3 : G, Ex g2 g3 →
  R (.bool false) g3)
  (∀ g4 : G, Ex g2 g4 →
  ∀ g5 : G, NewM g4 g5 →
  ∃ Inv : Nat → Int → Option Addr → Nat → Nat → Int → Int → G → Prop, ((∃ m0 : Nat, Inv m0 (0 : Int) x00a x00l x00c x01 x02 g5)) ∧
  ∀ m : Nat, ∀ v_1 : Int, ∀ s0a : Option Addr, ∀ s0l : Nat, ∀ s0c : Nat, ∀ s1 : Int, ∀ s2 : Int, ∀ g6 : G, Le g5 g6 → Inv m v_1 s0a s0l s0c s1 s2 g6 →
  ifB (ltI v_1 ((ll : Nat) : Int))
  ((0 ≤ v_1 ∧ v_1 < ((ll : Nat) : Int)) ∧ derefP la fun ad => ∃ x0 : ByteArray, ∃ x1a : Option Addr, ∃ x1l : Nat, ∃ x1c : Nat, ∃ x2 : Bool, g6.w.cell? (Addr.add ad (Int.toNat v_1 * 3)) = some (.string x0) ∧ g6.w.cell? (Addr.add (Addr.add ad (Int.toNat v_1 * 3)) 1) = some (.slice x1a x1l x1c) ∧ g6.w.cell? (Addr.add (Addr.add ad (Int.toNat v_1 * 3)) 2) = some (.bool x2) ∧ ∀ g7 : G, Ex g6 g7 →
  (CallsP Try.prog 31 #[(.agg ⟨[(.slice s0a s0l s0c), (.int .i64 s1), (.int .i64 s2)]⟩), (.agg ⟨[(.string x0), (.slice x1a x1l x1c), (.bool x2)]⟩)] g7 fun v g8 =>
  ∃ x00a_1 : Option Addr, ∃ x00l_1 : Nat, ∃ x00c_1 : Nat, ∃ x01_1 : Int, ∃ x02_1 : Int, ∃ x1_1 : Int, v = (.tuple ⟨[(.agg ⟨[(.slice x00a_1 x00l_1 x00c_1), (.int .i64 x01_1), (.int .i64 x02_1)]⟩), (.int .i64 x1_1)]⟩) ∧ ∀ g9 : G, Ex g8 g9 →
  ∃ x0_1 : ByteArray, ∃ x1_2 : Bool, ∃ w1 : World, Sem.run Try.prog (Instr.lookup 71 (.map (some g4.w.heap.size)) (.string x0) true) g9.w = .ok (.tuple ⟨[(.string x0_1), (.bool x1_2)]⟩) w1 ∧ ∃ g10 : G, g10.w = w1 ∧ Stp g.w.heap.size nobody g9 g10 ∧ ∀ J_1 : G → Prop,
  (∀ g11 : G, ((8 : Int) ≠ 0 ∧ InI64 compact ∧ (8 : Int) ≠ 0 ∧ ifB (eqI (Int.tmod v_1 (8 : Int)) (Int.tmod compact (8 : Int)))
  (∀ g12 : G, Ex g11 g12 →
  (CallsP Try.prog 26 #[(.agg ⟨[(.slice x00a_1 x00l_1 x00c_1), (.int .i64 x01_1), (.int .i64 x02_1)]⟩)] g12 fun v g13 =>
  ∃ x00a_2 : Option Addr, ∃ x00l_2 : Nat, ∃ x00c_2 : Nat, ∃ x01_2 : Int, ∃ x02_2 : Int, ∃ x1_3 : Int, v = (.tuple ⟨[(.agg ⟨[(.slice x00a_2 x00l_2 x00c_2), (.int .i64 x01_2), (.int .i64 x02_2)]⟩), (.int .i64 x1_3)]⟩) ∧ ifB (!eqI x1_3 (0 : Int))
  (∀ g14 : G, Ex g13 g14 →
  R (.bool false) g14)
  (InI64 (v_1 + (1 : Int)) ∧ ∀ g15 : G, Ex g13 g15 →
  (∃ m_1 : Nat, m_1 < m ∧ Inv m_1 (v_1 + (1 : Int)) x00a_2 x00l_2 x00c_2 x01_2 x02_2 g15))))
  (InI64 (v_1 + (1 : Int)) ∧ ∀ g16 : G, Ex g11 g16 →
  (∃ m_1 : Nat, m_1 < m ∧ Inv m_1 (v_1 + (1 : Int)) x00a_1 x00l_1 x00c_1 x01_1 x02_1 g16))) → J_1 g11) →
  ∀ J_2 : Bool → G → Prop,
  (∀ v_2 : Bool, ∀ g17 : G, (ifB v_2
  (ifB (!eqI x1_1 (2 : Int))
  (∀ g18 : G, Ex g17 g18 →
  R (.bool false) g18)
  (InI64 (v_1 + (1 : Int)) ∧ (∃ m_1 : Nat, m_1 < m ∧ Inv m_1 (v_1 + (1 : Int)) s0a s0l s0c s1 s2 g17)))
  (∀ J_3 : Bool → G → Prop,
  (∀ v_3 : Bool, ∀ g19 : G, (ifB v_3
  (ifB (!eqI x1_1 (8 : Int))
  (∀ g20 : G, Ex g19 g20 →
  R (.bool false) g20)
  (InI64 (v_1 + (1 : Int)) ∧ (∃ m_1 : Nat, m_1 < m ∧ Inv m_1 (v_1 + (1 : Int)) s0a s0l s0c s1 s2 g19)))
  (ifB (!eqI x1_1 (0 : Int))
  (∀ g21 : G, Ex g19 g21 →
  R (.bool false) g21)
  (ifB x2
  (∃ w2 : World, Sem.run Try.prog (Builtin.delete_ #[71, 9] 0 #[(.map (some g4.w.heap.size)), (.string x0)]) g19.w = .ok (.tuple ⟨[]⟩) w2 ∧ ∃ g22 : G, g22.w = w2 ∧ Stp g.w.heap.size nobody g19 g22 ∧ J_1 g22)
  (∃ x : ByteArray, ∃ w3 : World, Sem.run Try.prog (convert 22 9 (.slice x1a x1l x1c)) g19.w = .ok (.string x) w3 ∧ ∃ g23 : G, g23.w = w3 ∧ Stp g.w.heap.size nobody g19 g23 ∧ ∃ w4 : World, Sem.run Try.prog (Instr.mapUpdate 71 (.map (some g4.w.heap.size)) (.string x0) (.string x)) g23.w = .ok () w4 ∧ ∃ g24 : G, g24.w = w4 ∧ Stp g.w.heap.size nobody g23 g24 ∧ J_1 g24)))) → J_3 v_3 g19) →
  ifB x2
  (J_3 (!x1_2) g17)
  (J_3 false g17))) → J_2 v_2 g17) →
  ifB (ltI ((x0.size : Nat) : Int) (1 : Int))
  (J_2 true g10)
  (J_2 (ltI (100 : Int) ((x0.size : Nat) : Int)) g10)))
  ((CallsP Try.prog 36 #[(.agg ⟨[(.slice s0a s0l s0c), (.int .i64 s1), (.int .i64 s2)]⟩)] g6 fun v g25 =>
  ∃ x0a : Option Addr, ∃ x0l : Nat, ∃ x0c : Nat, ∃ x1_4 : Int, v = (.tuple ⟨[(.slice x0a x0l x0c), (.int .i64 x1_4)]⟩) ∧ ∀ J_4 : G → Prop,
  (∀ g26 : G, (∃ Inv_1 : Nat → Int → G → Prop, ((∃ m0 : Nat, Inv_1 m0 (0 : Int) g26)) ∧
  ∀ m_2 : Nat, ∀ v_4 : Int, ∀ g27 : G, Le g26 g27 → Inv_1 m_2 v_4 g27 →
  ifB (ltI v_4 ((x0l : Nat) : Int))
  ((0 ≤ v_4 ∧ v_4 < ((x0l : Nat) : Int)) ∧ derefP x0a fun ad_1 => ∃ k : ByteArray, g27.w.cell? (Addr.add ad_1 (Int.toNat v_4 * 1)) = some (.string k) ∧ (CallsP Try.prog 35 #[(.agg ⟨[(.slice s0a s0l s0c), (.int .i64 s1), (.int .i64 s2)]⟩), (.string k)] g27 fun v g28 =>
  ∃ x0a_1 : Option Addr, ∃ x0l_1 : Nat, ∃ x0c_1 : Nat, ∃ x1_5 : Int, v = (.tuple ⟨[(.slice x0a_1 x0l_1 x0c_1), (.int .i64 x1_5)]⟩) ∧ ifB (!eqI x1_5 (0 : Int))
  (∀ g29 : G, Ex g28 g29 →
  R (.bool false) g29)
  (∃ x_1 : ByteArray, ∃ w5 : World, Sem.run Try.prog (convert 22 9 (.slice x0a_1 x0l_1 x0c_1)) g28.w = .ok (.string x_1) w5 ∧ ∃ g30 : G, g30.w = w5 ∧ Stp g.w.heap.size nobody g28 g30 ∧ ∃ x_2 : ByteArray, ∃ w6 : World, Sem.run Try.prog (Instr.lookup 71 (.map (some g4.w.heap.size)) (.string k) false) g30.w = .ok (.string x_2) w6 ∧ ∃ g31 : G, g31.w = w6 ∧ Stp g.w.heap.size nobody g30 g31 ∧ ifB (!strEq x_1 x_2)
  (∀ g32 : G, Ex g31 g32 →
  R (.bool false) g32)
  (InI64 (v_4 + (1 : Int)) ∧ (∃ m_3 : Nat, m_3 < m_2 ∧ Inv_1 m_3 (v_4 + (1 : Int)) g31)))))
  (∀ g33 : G, Ex g27 g33 →
  R (.bool true) g33)) → J_4 g26) →
  ifB (!eqI x1_4 (0 : Int))
  (∀ g34 : G, Ex g25 g34 →
  R (.bool false) g34)
  ((CallsP Try.prog 41 #[(.map (some g4.w.heap.size))] g25 fun v g35 =>
  ∃ xf : FuncId, ∃ xc : Array Value, v = (.func (.func xf) #[] xc) ∧ (CallsP Try.prog 40 #[(.func (.func xf) #[] xc)] g35 fun v g36 =>
  ∃ xa : Option Addr, ∃ xl : Nat, ∃ xc_1 : Nat, v = (.slice xa xl xc_1) ∧ (CallsP Try.prog 39 #[(.slice x0a x0l x0c), (.slice xa xl xc_1)] g36 fun v g37 =>
  ∃ x_3 : Bool, v = (.bool x_3) ∧ ifB (!x_3)
  (∀ g38 : G, Ex g37 g38 →
  R (.bool false) g38)
  (J_4 g37)))))))))) → J g1) →
  (CallsP Try.prog 10 #[] g fun v g39 =>
  ∃ x_4 : Bool, v = (.bool x_4) ∧ ifB (!x_4)
  ((CallsP Try.prog 10 #[] g39 fun v g40 =>
  ∃ x_5 : Bool, v = (.bool x_5) ∧ ∀ g41 : G, Ex g40 g41 →
  R (.bool x_5) g41))
  ((CallsP Try.prog 30 #[(.slice la ll lc)] g39 fun v g42 =>
  ∃ x_6 : Bool, v = (.bool x_6) ∧ ifB (!x_6)
  ((CallsP Try.prog 10 #[] g42 fun v g43 =>
  ∃ x_7 : Bool, v = (.bool x_7) ∧ ∀ g44 : G, Ex g43 g44 →
  R (.bool x_7) g44))
  (J g42))))
theorem F9_eq (la : Option Addr) (ll : Nat) (lc : Nat) (compact : Int) (g : G) (R : Value → G → Prop) : fnG cfg9 145 [.tmp 4] c9 an9 [(.slice la ll lc), (.int .u8 compact)] g nobody R = F9 la ll lc compact g R := by kernel_rfl
theorem call9 (la : Option Addr) (ll : Nat) (lc : Nat) (compact : Int) (g : G) (R : Value → G → Prop) (hF : F9 la ll lc compact g R) : CallsG Try.prog 9 #[(.slice la ll lc), (.int .u8 compact)] g nobody R :=
  fn_soundG (c := cfg9) TTok FNSok mixed Try.func9 (show Try.f9.body = some c9 by kernel_rfl) (show Try.f9.ntmps = 145 by kernel_rfl) (show Try.f9.results.toList = [.tmp 4] by kernel_rfl) rfl ((F9_eq la ll lc compact g R).mpr hF)

/- 10 pilaster/pilasterlaw53.awake -/
noncomputable def c10 : Code := match Try.f10.body with
  | some c => c
  | none => .skip
noncomputable def cfg10 : Cfg := ⟨Try.prog, TT, FNS, [1], [(1, 1), (17, 1), (40, 1)], [], TCH, false, false⟩
def an10 : AnnG := (.seq .leaf (.seq .leaf (.seq .leaf (.seq .leaf (.seq .leaf (.seq .leaf .leaf))))))
def F10 (g : G) (R : Value → G → Prop) : Prop :=
  (CallsP Try.prog 22 #[(.int .i64 (-1 : Int))] g fun v g1 =>
  ∃ x00a : Option Addr, ∃ x00l : Nat, ∃ x00c : Nat, ∃ x01 : Int, ∃ x02 : Int, ∃ x1 : Int, v = (.tuple ⟨[(.agg ⟨[(.slice x00a x00l x00c), (.int .i64 x01), (.int .i64 x02)]⟩), (.int .i64 x1)]⟩) ∧ ∀ g2 : G, Ex g1 g2 →
  ∀ g3 : G, NewL g2 g3 5 [(.int .u8 (120 : Int)), (.int .u8 (121 : Int))] →
  ∃ xa : Option Addr, ∃ xl : Nat, ∃ xc : Nat, ∃ w1 : World, Sem.run Try.prog (convert 22 22 (.slice (some ⟨g2.w.heap.size, 0, none⟩) 2 2)) g3.w = .ok (.slice xa xl xc) w1 ∧ ∃ g4 : G, g4.w = w1 ∧ Stp g.w.heap.size nobody g3 g4 ∧ (CallsP Try.prog 12 #[(.agg ⟨[(.slice x00a x00l x00c), (.int .i64 x01), (.int .i64 x02)]⟩), (.string (bs [97])), (.slice xa xl xc)] g4 fun v g5 =>
  ∃ x00a_1 : Option Addr, ∃ x00l_1 : Nat, ∃ x00c_1 : Nat, ∃ x01_1 : Int, ∃ x02_1 : Int, ∃ x1_1 : Int, v = (.tuple ⟨[(.agg ⟨[(.slice x00a_1 x00l_1 x00c_1), (.int .i64 x01_1), (.int .i64 x02_1)]⟩), (.int .i64 x1_1)]⟩) ∧ ∀ g6 : G, Ex g5 g6 →
  (CallsP Try.prog 13 #[(.agg ⟨[(.slice x00a_1 x00l_1 x00c_1), (.int .i64 x01_1), (.int .i64 x02_1)]⟩), (.string (bs [97]))] g6 fun v g7 =>
  ∃ x00a_2 : Option Addr, ∃ x00l_2 : Nat, ∃ x00c_2 : Nat, ∃ x01_2 : Int, ∃ x02_2 : Int, ∃ x1_2 : Int, v = (.tuple ⟨[(.agg ⟨[(.slice x00a_2 x00l_2 x00c_2), (.int .i64 x01_2), (.int .i64 x02_2)]⟩), (.int .i64 x1_2)]⟩) ∧ ifB (eqI x1 (0 : Int))
  (ifB (eqI x1_1 (0 : Int))
  (ifB (eqI x1_2 (0 : Int))
  (ifB (eqI ((x00l_1 : Nat) : Int) (14 : Int))
  (ifB (eqI ((x00l_2 : Nat) : Int) (26 : Int))
  (∀ g8 : G, Ex g7 g8 →
  ∀ g9 : G, NewL g8 g9 5 [(.int .u8 (49 : Int)), (.int .u8 (50 : Int)), (.int .u8 (51 : Int)), (.int .u8 (52 : Int)), (.int .u8 (53 : Int)), (.int .u8 (54 : Int)), (.int .u8 (55 : Int)), (.int .u8 (56 : Int)), (.int .u8 (57 : Int))] →
  ∃ xa_1 : Option Addr, ∃ xl_1 : Nat, ∃ xc_1 : Nat, ∃ w2 : World, Sem.run Try.prog (convert 22 22 (.slice (some ⟨g8.w.heap.size, 0, none⟩) 9 9)) g9.w = .ok (.slice xa_1 xl_1 xc_1) w2 ∧ ∃ g10 : G, g10.w = w2 ∧ Stp g.w.heap.size nobody g9 g10 ∧ (CallsP Try.prog 42 #[(.slice xa_1 xl_1 xc_1)] g10 fun v g11 =>
  ∃ x : Int, v = (.int .i64 x) ∧ ∀ g12 : G, Ex g11 g12 →
  R (.bool (eqI x (3421780262 : Int))) g12))
  (∀ g13 : G, Ex g7 g13 →
  R (.bool false) g13))
  (∀ g14 : G, Ex g7 g14 →
  R (.bool false) g14))
  (∀ g15 : G, Ex g7 g15 →
  R (.bool false) g15))
  (∀ g16 : G, Ex g7 g16 →
  R (.bool false) g16))
  (∀ g17 : G, Ex g7 g17 →
  R (.bool false) g17))))
theorem F10_eq (g : G) (R : Value → G → Prop) : fnG cfg10 51 [.tmp 0] c10 an10 [] g nobody R = F10 g R := by kernel_rfl
theorem call10 (g : G) (R : Value → G → Prop) (hF : F10 g R) : CallsG Try.prog 10 #[] g nobody R :=
  fn_soundG (c := cfg10) TTok FNSok mixed Try.func10 (show Try.f10.body = some c10 by kernel_rfl) (show Try.f10.ntmps = 51 by kernel_rfl) (show Try.f10.results.toList = [.tmp 0] by kernel_rfl) rfl ((F10_eq g R).mpr hF)

/- 11 pilaster/pilasterlaw53.fits -/
noncomputable def c11 : Code := match Try.f11.body with
  | some c => c
  | none => .skip
noncomputable def cfg11 : Cfg := ⟨Try.prog, TT, FNS, [1], [(1, 1), (3, 1), (8, 1), (13, 1)], [], TCH, false, false⟩
def an11 : AnnG := (.seq .leaf (.seq .leaf .leaf))
def F11 (s0a : Option Addr) (s0l : Nat) (s0c : Nat) (s1 : Int) (s2 : Int) (g : G) (R : Value → G → Prop) : Prop :=
  ifB (leI ((s0l : Nat) : Int) (3000 : Int))
  (∀ g1 : G, Ex g g1 →
  R (.bool true) g1)
  (ifB (ltI (1048576 : Int) ((s0l : Nat) : Int))
  (∀ g2 : G, Ex g g2 →
  R (.bool (ltI ((s0l : Nat) : Int) (1048676 : Int))) g2)
  (∀ g3 : G, Ex g g3 →
  R (.bool false) g3))
theorem F11_eq (s0a : Option Addr) (s0l : Nat) (s0c : Nat) (s1 : Int) (s2 : Int) (g : G) (R : Value → G → Prop) : fnG cfg11 19 [.tmp 2] c11 an11 [(.agg ⟨[(.slice s0a s0l s0c), (.int .i64 s1), (.int .i64 s2)]⟩)] g nobody R = F11 s0a s0l s0c s1 s2 g R := by kernel_rfl
theorem call11 (s0a : Option Addr) (s0l : Nat) (s0c : Nat) (s1 : Int) (s2 : Int) (g : G) (R : Value → G → Prop) (hF : F11 s0a s0l s0c s1 s2 g R) : CallsG Try.prog 11 #[(.agg ⟨[(.slice s0a s0l s0c), (.int .i64 s1), (.int .i64 s2)]⟩)] g nobody R :=
  fn_soundG (c := cfg11) TTok FNSok mixed Try.func11 (show Try.f11.body = some c11 by kernel_rfl) (show Try.f11.ntmps = 19 by kernel_rfl) (show Try.f11.results.toList = [.tmp 2] by kernel_rfl) rfl ((F11_eq s0a s0l s0c s1 s2 g R).mpr hF)

/- 12 pilaster/store.Put -/
noncomputable def c12 : Code := match Try.f12.body with
  | some c => c
  | none => .skip
noncomputable def cfg12 : Cfg := ⟨Try.prog, TT, FNS, [3, 6], [(3, 3), (6, 6)], [], TCH, false, false⟩
def an12 : AnnG := (.seq .leaf (.seq (.blk (.seq .leaf (.cond (.seq .leaf .leaf) (.seq .leaf (.cond (.seq .leaf .leaf) (.seq .leaf (.cond (.seq .leaf .leaf) .leaf))))))) (.seq .leaf (.seq (.tree 8 (.quiet 0 (.quiet 1 (.quiet 2 (.quiet 3 (.eff 4 (.eff 5 (.quiet 6 (.quiet 7 .fin)) .fin) .fin)))))) .leaf))))
def F12 (s0a : Option Addr) (s0l : Nat) (s0c : Nat) (s1 : Int) (s2 : Int) (k : ByteArray) (dataa : Option Addr) (datal : Nat) (datac : Nat) (g : G) (R : Value → G → Prop) : Prop :=
  ∀ g1 : G, Ex g g1 →
  (CallsP Try.prog 24 #[(.agg ⟨[(.slice s0a s0l s0c), (.int .i64 s1), (.int .i64 s2)]⟩)] g1 fun v g2 =>
  ∃ x : Bool, v = (.bool x) ∧ ifB (!x)
  (∀ g3 : G, Ex g2 g3 →
  R (.tuple ⟨[(.agg ⟨[(.slice none 0 0), (.int .i64 (0 : Int)), (.int .i64 (0 : Int))]⟩), (.int .i64 (1 : Int))]⟩) g3)
  ((CallsP Try.prog 43 #[(.string k)] g2 fun v g4 =>
  ∃ x_1 : Bool, v = (.bool x_1) ∧ ifB (!x_1)
  (∀ g5 : G, Ex g4 g5 →
  R (.tuple ⟨[(.agg ⟨[(.slice none 0 0), (.int .i64 (0 : Int)), (.int .i64 (0 : Int))]⟩), (.int .i64 (2 : Int))]⟩) g5)
  (ifB (ltI (1048576 : Int) ((datal : Nat) : Int))
  (∀ g6 : G, Ex g4 g6 →
  R (.tuple ⟨[(.agg ⟨[(.slice none 0 0), (.int .i64 (0 : Int)), (.int .i64 (0 : Int))]⟩), (.int .i64 (5 : Int))]⟩) g6)
  ((CallsP Try.prog 44 #[(.agg ⟨[(.slice s0a s0l s0c), (.int .i64 s1), (.int .i64 s2)]⟩)] g4 fun v g7 =>
  ∃ x0 : Option Nat, ∃ x1 : Int, v = (.tuple ⟨[(.map x0), (.int .i64 x1)]⟩) ∧ ∀ g8 : G, Ex g7 g8 →
  (CallsP Try.prog 46 #[(.int .u8 (1 : Int)), (.string k), (.slice dataa datal datac)] g8 fun v g9 =>
  ∃ xa : Option Addr, ∃ xl : Nat, ∃ xc : Nat, v = (.slice xa xl xc) ∧ (CallsP Try.prog 45 #[(.agg ⟨[(.slice s0a s0l s0c), (.int .i64 s1), (.int .i64 s2)]⟩), (.int .i64 x1), (.slice xa xl xc)] g9 fun v g10 =>
  ∃ x00a : Option Addr, ∃ x00l : Nat, ∃ x00c : Nat, ∃ x01 : Int, ∃ x02 : Int, ∃ x1_1 : Int, v = (.tuple ⟨[(.agg ⟨[(.slice x00a x00l x00c), (.int .i64 x01), (.int .i64 x02)]⟩), (.int .i64 x1_1)]⟩) ∧ ∀ g11 : G, Ex g10 g11 →
  R (.tuple ⟨[(.agg ⟨[(.slice x00a x00l x00c), (.int .i64 x01), (.int .i64 x02)]⟩), (.int .i64 x1_1)]⟩) g11))))))))
theorem F12_eq (s0a : Option Addr) (s0l : Nat) (s0c : Nat) (s1 : Int) (s2 : Int) (k : ByteArray) (dataa : Option Addr) (datal : Nat) (datac : Nat) (g : G) (R : Value → G → Prop) : fnG cfg12 38 [.cell 6 24, .tmp 7] c12 an12 [(.agg ⟨[(.slice s0a s0l s0c), (.int .i64 s1), (.int .i64 s2)]⟩), (.string k), (.slice dataa datal datac)] g nobody R = F12 s0a s0l s0c s1 s2 k dataa datal datac g R := by kernel_rfl
theorem call12 (s0a : Option Addr) (s0l : Nat) (s0c : Nat) (s1 : Int) (s2 : Int) (k : ByteArray) (dataa : Option Addr) (datal : Nat) (datac : Nat) (g : G) (R : Value → G → Prop) (hF : F12 s0a s0l s0c s1 s2 k dataa datal datac g R) : CallsG Try.prog 12 #[(.agg ⟨[(.slice s0a s0l s0c), (.int .i64 s1), (.int .i64 s2)]⟩), (.string k), (.slice dataa datal datac)] g nobody R :=
  fn_soundG (c := cfg12) TTok FNSok mixed Try.func12 (show Try.f12.body = some c12 by kernel_rfl) (show Try.f12.ntmps = 38 by kernel_rfl) (show Try.f12.results.toList = [.cell 6 24, .tmp 7] by kernel_rfl) rfl ((F12_eq s0a s0l s0c s1 s2 k dataa datal datac g R).mpr hF)

/- 13 pilaster/store.Delete -/
noncomputable def c13 : Code := match Try.f13.body with
  | some c => c
  | none => .skip
noncomputable def cfg13 : Cfg := ⟨Try.prog, TT, FNS, [2, 4], [(2, 2), (4, 4)], [], TCH, false, false⟩
def an13 : AnnG := (.seq .leaf (.seq (.blk (.seq .leaf (.cond (.seq .leaf .leaf) (.seq .leaf (.cond (.seq .leaf .leaf) .leaf))))) (.seq .leaf (.seq (.seq .leaf (.seq .leaf (.cond (.seq .leaf .leaf) .leaf))) (.seq (.tree 7 (.quiet 0 (.quiet 1 (.quiet 2 (.eff 3 (.eff 4 (.quiet 5 (.quiet 6 .fin)) .fin) .fin))))) .leaf)))))
def F13 (s0a : Option Addr) (s0l : Nat) (s0c : Nat) (s1 : Int) (s2 : Int) (k : ByteArray) (g : G) (R : Value → G → Prop) : Prop :=
  ∀ g1 : G, Ex g g1 →
  (CallsP Try.prog 24 #[(.agg ⟨[(.slice s0a s0l s0c), (.int .i64 s1), (.int .i64 s2)]⟩)] g1 fun v g2 =>
  ∃ x : Bool, v = (.bool x) ∧ ifB (!x)
  (∀ g3 : G, Ex g2 g3 →
  R (.tuple ⟨[(.agg ⟨[(.slice none 0 0), (.int .i64 (0 : Int)), (.int .i64 (0 : Int))]⟩), (.int .i64 (1 : Int))]⟩) g3)
  ((CallsP Try.prog 43 #[(.string k)] g2 fun v g4 =>
  ∃ x_1 : Bool, v = (.bool x_1) ∧ ifB (!x_1)
  (∀ g5 : G, Ex g4 g5 →
  R (.tuple ⟨[(.agg ⟨[(.slice none 0 0), (.int .i64 (0 : Int)), (.int .i64 (0 : Int))]⟩), (.int .i64 (2 : Int))]⟩) g5)
  ((CallsP Try.prog 44 #[(.agg ⟨[(.slice s0a s0l s0c), (.int .i64 s1), (.int .i64 s2)]⟩)] g4 fun v g6 =>
  ∃ x0 : Option Nat, ∃ x1 : Int, v = (.tuple ⟨[(.map x0), (.int .i64 x1)]⟩) ∧ ∃ x0a : Option Addr, ∃ x0l : Nat, ∃ x0c : Nat, ∃ x1_1 : Bool, ∃ w1 : World, Sem.run Try.prog (Instr.lookup 79 (.map x0) (.string k) true) g6.w = .ok (.tuple ⟨[(.slice x0a x0l x0c), (.bool x1_1)]⟩) w1 ∧ ∃ g7 : G, g7.w = w1 ∧ Stp g.w.heap.size nobody g6 g7 ∧ ifB (!x1_1)
  (∀ g8 : G, Ex g7 g8 →
  R (.tuple ⟨[(.agg ⟨[(.slice none 0 0), (.int .i64 (0 : Int)), (.int .i64 (0 : Int))]⟩), (.int .i64 (8 : Int))]⟩) g8)
  (∀ g9 : G, Ex g7 g9 →
  (CallsP Try.prog 46 #[(.int .u8 (2 : Int)), (.string k), (.slice none 0 0)] g9 fun v g10 =>
  ∃ xa : Option Addr, ∃ xl : Nat, ∃ xc : Nat, v = (.slice xa xl xc) ∧ (CallsP Try.prog 45 #[(.agg ⟨[(.slice s0a s0l s0c), (.int .i64 s1), (.int .i64 s2)]⟩), (.int .i64 x1), (.slice xa xl xc)] g10 fun v g11 =>
  ∃ x00a : Option Addr, ∃ x00l : Nat, ∃ x00c : Nat, ∃ x01 : Int, ∃ x02 : Int, ∃ x1_2 : Int, v = (.tuple ⟨[(.agg ⟨[(.slice x00a x00l x00c), (.int .i64 x01), (.int .i64 x02)]⟩), (.int .i64 x1_2)]⟩) ∧ ∀ g12 : G, Ex g11 g12 →
  R (.tuple ⟨[(.agg ⟨[(.slice x00a x00l x00c), (.int .i64 x01), (.int .i64 x02)]⟩), (.int .i64 x1_2)]⟩) g12))))))))
theorem F13_eq (s0a : Option Addr) (s0l : Nat) (s0c : Nat) (s1 : Int) (s2 : Int) (k : ByteArray) (g : G) (R : Value → G → Prop) : fnG cfg13 41 [.cell 4 24, .tmp 5] c13 an13 [(.agg ⟨[(.slice s0a s0l s0c), (.int .i64 s1), (.int .i64 s2)]⟩), (.string k)] g nobody R = F13 s0a s0l s0c s1 s2 k g R := by kernel_rfl
theorem call13 (s0a : Option Addr) (s0l : Nat) (s0c : Nat) (s1 : Int) (s2 : Int) (k : ByteArray) (g : G) (R : Value → G → Prop) (hF : F13 s0a s0l s0c s1 s2 k g R) : CallsG Try.prog 13 #[(.agg ⟨[(.slice s0a s0l s0c), (.int .i64 s1), (.int .i64 s2)]⟩), (.string k)] g nobody R :=
  fn_soundG (c := cfg13) TTok FNSok mixed Try.func13 (show Try.f13.body = some c13 by kernel_rfl) (show Try.f13.ntmps = 41 by kernel_rfl) (show Try.f13.results.toList = [.cell 4 24, .tmp 5] by kernel_rfl) rfl ((F13_eq s0a s0l s0c s1 s2 k g R).mpr hF)

/- 14 pilaster/pilasterref53.Valid -/
noncomputable def c14 : Code := match Try.f14.body with
  | some c => c
  | none => .skip
noncomputable def cfg14 : Cfg := ⟨Try.prog, TT, FNS, [1], [(1, 1), (3, 1), (8, 1), (13, 1), (15, 1), (21, 1), (26, 1)], [], TCH, false, false⟩
def an14 : AnnG := (.seq .leaf (.seq .leaf .leaf))
def F14 (s0a : Option Addr) (s0l : Nat) (s0c : Nat) (s1 : Int) (s2 : Int) (g : G) (R : Value → G → Prop) : Prop :=
  ifB (leI ((s0l : Nat) : Int) (1048576 : Int))
  (ifB (leI (0 : Int) s1)
  (ifB (leI s1 ((s0l : Nat) : Int))
  (ifB (leI (-1 : Int) s2)
  (∀ g1 : G, Ex g g1 →
  R (.bool (leI s2 (1048576 : Int))) g1)
  (∀ g2 : G, Ex g g2 →
  R (.bool false) g2))
  (∀ g3 : G, Ex g g3 →
  R (.bool false) g3))
  (∀ g4 : G, Ex g g4 →
  R (.bool false) g4))
  (∀ g5 : G, Ex g g5 →
  R (.bool false) g5)
theorem F14_eq (s0a : Option Addr) (s0l : Nat) (s0c : Nat) (s1 : Int) (s2 : Int) (g : G) (R : Value → G → Prop) : fnG cfg14 30 [.tmp 2] c14 an14 [(.agg ⟨[(.slice s0a s0l s0c), (.int .i64 s1), (.int .i64 s2)]⟩)] g nobody R = F14 s0a s0l s0c s1 s2 g R := by kernel_rfl
theorem call14 (s0a : Option Addr) (s0l : Nat) (s0c : Nat) (s1 : Int) (s2 : Int) (g : G) (R : Value → G → Prop) (hF : F14 s0a s0l s0c s1 s2 g R) : CallsG Try.prog 14 #[(.agg ⟨[(.slice s0a s0l s0c), (.int .i64 s1), (.int .i64 s2)]⟩)] g nobody R :=
  fn_soundG (c := cfg14) TTok FNSok mixed Try.func14 (show Try.f14.body = some c14 by kernel_rfl) (show Try.f14.ntmps = 30 by kernel_rfl) (show Try.f14.results.toList = [.tmp 2] by kernel_rfl) rfl ((F14_eq s0a s0l s0c s1 s2 g R).mpr hF)

/- 15 pilaster/pilasterlaw53.none -/
noncomputable def c15 : Code := match Try.f15.body with
  | some c => c
  | none => .skip
noncomputable def cfg15 : Cfg := ⟨Try.prog, TT, FNS, [1], [(1, 1)], [], TCH, false, false⟩
def an15 : AnnG := (.seq .leaf (.seq .leaf .leaf))
def F15 (s0a : Option Addr) (s0l : Nat) (s0c : Nat) (s1 : Int) (s2 : Int) (g : G) (R : Value → G → Prop) : Prop :=
  ∀ g1 : G, Ex g g1 →
  (CallsP Try.prog 19 #[(.agg ⟨[(.slice s0a s0l s0c), (.int .i64 s1), (.int .i64 s2)]⟩), (.agg ⟨[(.slice none 0 0), (.int .i64 (0 : Int)), (.int .i64 (0 : Int))]⟩)] g1 fun v g2 =>
  ∃ x : Bool, v = (.bool x) ∧ ∀ g3 : G, Ex g2 g3 →
  R (.bool x) g3)
theorem F15_eq (s0a : Option Addr) (s0l : Nat) (s0c : Nat) (s1 : Int) (s2 : Int) (g : G) (R : Value → G → Prop) : fnG cfg15 6 [.tmp 2] c15 an15 [(.agg ⟨[(.slice s0a s0l s0c), (.int .i64 s1), (.int .i64 s2)]⟩)] g nobody R = F15 s0a s0l s0c s1 s2 g R := by kernel_rfl
theorem call15 (s0a : Option Addr) (s0l : Nat) (s0c : Nat) (s1 : Int) (s2 : Int) (g : G) (R : Value → G → Prop) (hF : F15 s0a s0l s0c s1 s2 g R) : CallsG Try.prog 15 #[(.agg ⟨[(.slice s0a s0l s0c), (.int .i64 s1), (.int .i64 s2)]⟩)] g nobody R :=
  fn_soundG (c := cfg15) TTok FNSok mixed Try.func15 (show Try.f15.body = some c15 by kernel_rfl) (show Try.f15.ntmps = 6 by kernel_rfl) (show Try.f15.results.toList = [.tmp 2] by kernel_rfl) rfl ((F15_eq s0a s0l s0c s1 s2 g R).mpr hF)

/- 16 pilaster/pilasterref53.Key -/
noncomputable def c16 : Code := match Try.f16.body with
  | some c => c
  | none => .skip
noncomputable def cfg16 : Cfg := ⟨Try.prog, TT, FNS, [], [], [], TCH, false, false⟩
def an16 : AnnG := (.seq .leaf (.seq .leaf .leaf))
def F16 (s : ByteArray) (g : G) (R : Value → G → Prop) : Prop :=
  ifB (leI (1 : Int) ((s.size : Nat) : Int))
  (∀ g1 : G, Ex g g1 →
  R (.bool (leI ((s.size : Nat) : Int) (100 : Int))) g1)
  (∀ g2 : G, Ex g g2 →
  R (.bool false) g2)
theorem F16_eq (s : ByteArray) (g : G) (R : Value → G → Prop) : fnG cfg16 11 [.tmp 2] c16 an16 [(.string s)] g nobody R = F16 s g R := by kernel_rfl
theorem call16 (s : ByteArray) (g : G) (R : Value → G → Prop) (hF : F16 s g R) : CallsG Try.prog 16 #[(.string s)] g nobody R :=
  fn_soundG (c := cfg16) TTok FNSok mixed Try.func16 (show Try.f16.body = some c16 by kernel_rfl) (show Try.f16.ntmps = 11 by kernel_rfl) (show Try.f16.results.toList = [.tmp 2] by kernel_rfl) rfl ((F16_eq s g R).mpr hF)

/- 17 pilaster/pilasterref53.Write -/
noncomputable def c17 : Code := match Try.f17.body with
  | some c => c
  | none => .skip
noncomputable def cfg17 : Cfg := ⟨Try.prog, TT, FNS, [2, 4, 7], [(2, 2), (4, 4), (7, 7), (9, 2), (19, 2), (24, 2), (28, 2), (37, 7), (41, 7), (49, 7), (50, 7), (54, 7), (55, 7), (59, 7), (62, 7)], [], TCH, false, false⟩
def an17 : AnnG := (.seq .leaf (.seq .leaf (.seq (.seq .leaf (.cond (.seq .leaf .leaf) .leaf)) (.join ⟨[], [(7, 7, 0)], [(7, [(.sl), (.int .i64), (.int .i64)])]⟩ (.tree 14 (.quiet 1 (.quiet 2 (.quiet 3 (.quiet 4 (.quiet 6 (.quiet 7 (.quiet 8 (.quiet 9 (.quiet 10 (.quiet 11 (.eff 0 (.eff 5 (.eff 12 (.eff 13 .fin .fin) (.eff 13 (.eff 12 .fin .fin) .fin)) (.eff 13 (.eff 5 (.eff 12 .fin .fin) .fin) .fin)) (.eff 13 (.eff 0 (.eff 5 (.eff 12 .fin .fin) .fin) .fin) .fin))))))))))))) (.seq (.seq .leaf (.blk (.loop ⟨[(8, .int .i64)], [(4, 4, 0), (7, 7, 0)], [(4, [(.sl), (.int .i64), (.int .i64)]), (7, [(.sl), (.int .i64), (.int .i64)])]⟩ (.seq (.seq .leaf (.cond .leaf .leaf)) (.seq (.blk (.seq (.seq .leaf (.cond (.seq .leaf .leaf) .leaf)) (.seq (.tree 7 (.quiet 0 (.quiet 1 (.quiet 2 (.quiet 3 (.quiet 4 (.quiet 5 (.eff 6 .fin .fin)))))))) .leaf))) .leaf))))) (.seq (.seq .leaf (.cond (.seq .leaf .leaf) .leaf)) (.seq .leaf (.seq .leaf .leaf))))))))
def F17 (s0a : Option Addr) (s0l : Nat) (s0c : Nat) (s1 : Int) (s2 : Int) (recorda : Option Addr) (recordl : Nat) (recordc : Nat) (g : G) (R : Value → G → Prop) : Prop :=
  ∀ g1 : G, Ex g g1 →
  (CallsP Try.prog 29 #[(.slice s0a s0l s0c)] g1 fun v g2 =>
  ∃ n : Int, v = (.int .i64 n) ∧ InI64 (n + ((recordl : Nat) : Int)) ∧ ifB (ltI (1048576 : Int) (n + ((recordl : Nat) : Int)))
  (∀ g3 : G, Ex g2 g3 →
  R (.tuple ⟨[(.agg ⟨[(.slice none 0 0), (.int .i64 (0 : Int)), (.int .i64 (0 : Int))]⟩), (.int .i64 (5 : Int))]⟩) g3)
  (∀ J : Option Addr → Nat → Nat → Int → Int → G → Prop,
  (∀ out0a : Option Addr, ∀ out0l : Nat, ∀ out0c : Nat, ∀ out1 : Int, ∀ out2 : Int, ∀ g4 : G, (∃ Inv : Nat → Int → Option Addr → Nat → Nat → Int → Int → Option Addr → Nat → Nat → Int → Int → G → Prop, ((∃ m0 : Nat, Inv m0 (0 : Int) none 0 0 (0 : Int) (0 : Int) out0a out0l out0c out1 out2 g4)) ∧
  ∀ m : Nat, ∀ i : Int, ∀ x0a : Option Addr, ∀ x0l : Nat, ∀ x0c : Nat, ∀ x1 : Int, ∀ x2 : Int, ∀ out0a_1 : Option Addr, ∀ out0l_1 : Nat, ∀ out0c_1 : Nat, ∀ out1_1 : Int, ∀ out2_1 : Int, ∀ g5 : G, Le g4 g5 → Inv m i x0a x0l x0c x1 x2 out0a_1 out0l_1 out0c_1 out1_1 out2_1 g5 →
  ifB (ltI i ((recordl : Nat) : Int))
  (ifB (eqI out2_1 (0 : Int))
  (∀ g6 : G, Ex g5 g6 →
  R (.tuple ⟨[(.agg ⟨[(.slice out0a_1 out0l_1 out0c_1), (.int .i64 out1_1), (.int .i64 out2_1)]⟩), (.int .i64 (30 : Int))]⟩) g6)
  (∀ g7 : G, Ex g5 g7 →
  (0 ≤ i ∧ i < ((recordl : Nat) : Int)) ∧ derefP recorda fun ad => ∃ x : Int, g7.w.cell? (Addr.add ad (Int.toNat i * 1)) = some (.int .u8 x) ∧ ∀ g8 : G, NewL g7 g8 5 [(.int .u8 x)] →
  ∃ xa : Option Addr, ∃ xl : Nat, ∃ xc : Nat, ∃ w1 : World, Sem.run Try.prog (Builtin.append_ #[22, 22] 22 #[(.slice out0a_1 out0l_1 out0c_1), (.slice (some ⟨g7.w.heap.size, 0, none⟩) 1 1)]) g8.w = .ok (.slice xa xl xc) w1 ∧ ∃ g9 : G, g9.w = w1 ∧ Stp g.w.heap.size nobody g8 g9 ∧ InI64 (out2_1 - (1 : Int)) ∧ InI64 (i + (1 : Int)) ∧ ∀ g10 : G, Ex g9 g10 →
  (∃ m_1 : Nat, m_1 < m ∧ Inv m_1 (i + (1 : Int)) x0a x0l x0c x1 x2 xa xl xc out1_1 (maxI (out2_1 - (1 : Int)) (-1 : Int)) g10)))
  (ifB (eqI out2_1 (0 : Int))
  (∀ g11 : G, Ex g5 g11 →
  R (.tuple ⟨[(.agg ⟨[(.slice out0a_1 out0l_1 out0c_1), (.int .i64 out1_1), (.int .i64 out2_1)]⟩), (.int .i64 (30 : Int))]⟩) g11)
  (∀ g12 : G, Ex g5 g12 →
  R (.tuple ⟨[(.agg ⟨[(.slice out0a_1 out0l_1 out0c_1), (.int .i64 ((out0l_1 : Nat) : Int)), (.int .i64 out2_1)]⟩), (.int .i64 (0 : Int))]⟩) g12))) → J out0a out0l out0c out1 out2 g4) →
  ∀ g13 : G, Ex g2 g13 →
  (0 ≤ n ∧ n ≤ ((s0c : Nat) : Int)) ∧ (∀ g14 : G, NewL g13 g14 5 [] →
  (∃ xa_1 : Option Addr, ∃ xl_1 : Nat, ∃ xc_1 : Nat, ∃ w2 : World, Sem.run Try.prog (Builtin.append_ #[22, 22] 22 #[(.slice (some ⟨g13.w.heap.size, 0, none⟩) 0 0), (.slice (slAddr s0a s0c 0 1) ((Int.toNat n) - 0) (s0c - 0))]) g14.w = .ok (.slice xa_1 xl_1 xc_1) w2 ∧ ∃ g15 : G, g15.w = w2 ∧ Stp g.w.heap.size nobody g14 g15 ∧ SameB g13 g15 ∧ (∀ g16 : G, Ex g15 g16 →
  J xa_1 xl_1 xc_1 (minI s1 n) s2 g16) ∧ (∀ g17 : G, Ex g15 g17 →
  ∀ g18 : G, Ex g17 g18 →
  J xa_1 xl_1 xc_1 (minI s1 n) s2 g18)) ∧ (∀ g19 : G, Ex g14 g19 →
  ∃ xa_2 : Option Addr, ∃ xl_2 : Nat, ∃ xc_2 : Nat, ∃ w3 : World, Sem.run Try.prog (Builtin.append_ #[22, 22] 22 #[(.slice (some ⟨g13.w.heap.size, 0, none⟩) 0 0), (.slice (slAddr s0a s0c 0 1) ((Int.toNat n) - 0) (s0c - 0))]) g19.w = .ok (.slice xa_2 xl_2 xc_2) w3 ∧ ∃ g20 : G, g20.w = w3 ∧ Stp g.w.heap.size nobody g19 g20 ∧ SameB g13 g20 ∧ ∀ g21 : G, Ex g20 g21 →
  J xa_2 xl_2 xc_2 (minI s1 n) s2 g21)) ∧ (∀ g22 : G, Ex g13 g22 →
  ∀ g23 : G, NewL g22 g23 5 [] →
  ∃ xa_3 : Option Addr, ∃ xl_3 : Nat, ∃ xc_3 : Nat, ∃ w4 : World, Sem.run Try.prog (Builtin.append_ #[22, 22] 22 #[(.slice (some ⟨g22.w.heap.size, 0, none⟩) 0 0), (.slice (slAddr s0a s0c 0 1) ((Int.toNat n) - 0) (s0c - 0))]) g23.w = .ok (.slice xa_3 xl_3 xc_3) w4 ∧ ∃ g24 : G, g24.w = w4 ∧ Stp g.w.heap.size nobody g23 g24 ∧ SameB g13 g24 ∧ ∀ g25 : G, Ex g24 g25 →
  J xa_3 xl_3 xc_3 (minI s1 n) s2 g25)))
theorem F17_eq (s0a : Option Addr) (s0l : Nat) (s0c : Nat) (s1 : Int) (s2 : Int) (recorda : Option Addr) (recordl : Nat) (recordc : Nat) (g : G) (R : Value → G → Prop) : fnG cfg17 64 [.cell 4 24, .tmp 5] c17 an17 [(.agg ⟨[(.slice s0a s0l s0c), (.int .i64 s1), (.int .i64 s2)]⟩), (.slice recorda recordl recordc)] g nobody R = F17 s0a s0l s0c s1 s2 recorda recordl recordc g R := by kernel_rfl
theorem call17 (s0a : Option Addr) (s0l : Nat) (s0c : Nat) (s1 : Int) (s2 : Int) (recorda : Option Addr) (recordl : Nat) (recordc : Nat) (g : G) (R : Value → G → Prop) (hF : F17 s0a s0l s0c s1 s2 recorda recordl recordc g R) : CallsG Try.prog 17 #[(.agg ⟨[(.slice s0a s0l s0c), (.int .i64 s1), (.int .i64 s2)]⟩), (.slice recorda recordl recordc)] g nobody R :=
  fn_soundG (c := cfg17) TTok FNSok mixed Try.func17 (show Try.f17.body = some c17 by kernel_rfl) (show Try.f17.ntmps = 64 by kernel_rfl) (show Try.f17.results.toList = [.cell 4 24, .tmp 5] by kernel_rfl) rfl ((F17_eq s0a s0l s0c s1 s2 recorda recordl recordc g R).mpr hF)

/- 18 pilaster/pilasterref53.Record -/
noncomputable def c18 : Code := match Try.f18.body with
  | some c => c
  | none => .skip
noncomputable def cfg18 : Cfg := ⟨Try.prog, TT, FNS, [], [], [], TCH, false, false⟩
def an18 : AnnG := (.seq .leaf (.seq .leaf (.seq .leaf (.seq .leaf (.seq .leaf (.seq .leaf .leaf))))))
def F18 (kind : Int) (key : ByteArray) (dataa : Option Addr) (datal : Nat) (datac : Nat) (g : G) (R : Value → G → Prop) : Prop :=
  ∀ g1 : G, NewL g g1 5 [(.int .u8 (IntKind.u8.wrap kind)), (.int .u8 (0 : Int)), (.int .u8 (IntKind.u8.wrap ((key.size : Nat) : Int)))] →
  ∃ xa : Option Addr, ∃ xl : Nat, ∃ xc : Nat, ∃ w1 : World, Sem.run Try.prog (convert 9 22 (.string key)) g1.w = .ok (.slice xa xl xc) w1 ∧ ∃ g2 : G, g2.w = w1 ∧ Stp g.w.heap.size nobody g1 g2 ∧ ∃ ca : Option Addr, ∃ cl : Nat, ∃ cc : Nat, ∃ w2 : World, Sem.run Try.prog (Builtin.append_ #[22, 22] 22 #[(.slice (some ⟨g.w.heap.size, 0, none⟩) 3 3), (.slice xa xl xc)]) g2.w = .ok (.slice ca cl cc) w2 ∧ ∃ g3 : G, g3.w = w2 ∧ Stp g.w.heap.size nobody g2 g3 ∧ ∃ ca_1 : Option Addr, ∃ cl_1 : Nat, ∃ cc_1 : Nat, ∃ w3 : World, Sem.run Try.prog (Builtin.append_ #[22, 22] 22 #[(.slice ca cl cc), (.slice dataa datal datac)]) g3.w = .ok (.slice ca_1 cl_1 cc_1) w3 ∧ ∃ g4 : G, g4.w = w3 ∧ Stp g.w.heap.size nobody g3 g4 ∧ (CallsP Try.prog 47 #[(.int .i64 ((cl_1 : Nat) : Int))] g4 fun v g5 =>
  ∃ xa_1 : Option Addr, ∃ xl_1 : Nat, ∃ xc_1 : Nat, v = (.slice xa_1 xl_1 xc_1) ∧ ∃ outa : Option Addr, ∃ outl : Nat, ∃ outc : Nat, ∃ w4 : World, Sem.run Try.prog (Builtin.append_ #[22, 22] 22 #[(.slice xa_1 xl_1 xc_1), (.slice ca_1 cl_1 cc_1)]) g5.w = .ok (.slice outa outl outc) w4 ∧ ∃ g6 : G, g6.w = w4 ∧ Stp g.w.heap.size nobody g5 g6 ∧ (CallsP Try.prog 42 #[(.slice outa outl outc)] g6 fun v g7 =>
  ∃ x : Int, v = (.int .i64 x) ∧ (CallsP Try.prog 47 #[(.int .i64 x)] g7 fun v g8 =>
  ∃ xa_2 : Option Addr, ∃ xl_2 : Nat, ∃ xc_2 : Nat, v = (.slice xa_2 xl_2 xc_2) ∧ ∃ xa_3 : Option Addr, ∃ xl_3 : Nat, ∃ xc_3 : Nat, ∃ w5 : World, Sem.run Try.prog (Builtin.append_ #[22, 22] 22 #[(.slice outa outl outc), (.slice xa_2 xl_2 xc_2)]) g8.w = .ok (.slice xa_3 xl_3 xc_3) w5 ∧ ∃ g9 : G, g9.w = w5 ∧ Stp g.w.heap.size nobody g8 g9 ∧ ∀ g10 : G, Ex g9 g10 →
  R (.slice xa_3 xl_3 xc_3) g10)))
theorem F18_eq (kind : Int) (key : ByteArray) (dataa : Option Addr) (datal : Nat) (datac : Nat) (g : G) (R : Value → G → Prop) : fnG cfg18 32 [.tmp 6] c18 an18 [(.int .i64 kind), (.string key), (.slice dataa datal datac)] g nobody R = F18 kind key dataa datal datac g R := by kernel_rfl
theorem call18 (kind : Int) (key : ByteArray) (dataa : Option Addr) (datal : Nat) (datac : Nat) (g : G) (R : Value → G → Prop) (hF : F18 kind key dataa datal datac g R) : CallsG Try.prog 18 #[(.int .i64 kind), (.string key), (.slice dataa datal datac)] g nobody R :=
  fn_soundG (c := cfg18) TTok FNSok mixed Try.func18 (show Try.f18.body = some c18 by kernel_rfl) (show Try.f18.ntmps = 32 by kernel_rfl) (show Try.f18.results.toList = [.tmp 6] by kernel_rfl) rfl ((F18_eq kind key dataa datal datac g R).mpr hF)

/- 19 pilaster/pilasterref53.Same -/
noncomputable def c19 : Code := match Try.f19.body with
  | some c => c
  | none => .skip
noncomputable def cfg19 : Cfg := ⟨Try.prog, TT, FNS, [2, 3], [(2, 2), (3, 3), (5, 2), (7, 3), (11, 2), (13, 3), (18, 2), (20, 3)], [], TCH, false, false⟩
def an19 : AnnG := (.seq .leaf (.seq .leaf .leaf))
def F19 (a0a : Option Addr) (a0l : Nat) (a0c : Nat) (a1 : Int) (a2 : Int) (b0a : Option Addr) (b0l : Nat) (b0c : Nat) (b1 : Int) (b2 : Int) (g : G) (R : Value → G → Prop) : Prop :=
  ∀ g1 : G, Ex g g1 →
  (CallsP Try.prog 38 #[(.slice a0a a0l a0c), (.slice b0a b0l b0c)] g1 fun v g2 =>
  ∃ x : Bool, v = (.bool x) ∧ ifB x
  (ifB (eqI a1 b1)
  (∀ g3 : G, Ex g2 g3 →
  R (.bool (eqI a2 b2)) g3)
  (∀ g4 : G, Ex g2 g4 →
  R (.bool false) g4))
  (∀ g5 : G, Ex g2 g5 →
  R (.bool false) g5))
theorem F19_eq (a0a : Option Addr) (a0l : Nat) (a0c : Nat) (a1 : Int) (a2 : Int) (b0a : Option Addr) (b0l : Nat) (b0c : Nat) (b1 : Int) (b2 : Int) (g : G) (R : Value → G → Prop) : fnG cfg19 24 [.tmp 4] c19 an19 [(.agg ⟨[(.slice a0a a0l a0c), (.int .i64 a1), (.int .i64 a2)]⟩), (.agg ⟨[(.slice b0a b0l b0c), (.int .i64 b1), (.int .i64 b2)]⟩)] g nobody R = F19 a0a a0l a0c a1 a2 b0a b0l b0c b1 b2 g R := by kernel_rfl
theorem call19 (a0a : Option Addr) (a0l : Nat) (a0c : Nat) (a1 : Int) (a2 : Int) (b0a : Option Addr) (b0l : Nat) (b0c : Nat) (b1 : Int) (b2 : Int) (g : G) (R : Value → G → Prop) (hF : F19 a0a a0l a0c a1 a2 b0a b0l b0c b1 b2 g R) : CallsG Try.prog 19 #[(.agg ⟨[(.slice a0a a0l a0c), (.int .i64 a1), (.int .i64 a2)]⟩), (.agg ⟨[(.slice b0a b0l b0c), (.int .i64 b1), (.int .i64 b2)]⟩)] g nobody R :=
  fn_soundG (c := cfg19) TTok FNSok mixed Try.func19 (show Try.f19.body = some c19 by kernel_rfl) (show Try.f19.ntmps = 24 by kernel_rfl) (show Try.f19.results.toList = [.tmp 4] by kernel_rfl) rfl ((F19_eq a0a a0l a0c a1 a2 b0a b0l b0c b1 b2 g R).mpr hF)

/- 20 pilaster/pilasterref53.Find -/
noncomputable def c20 : Code := match Try.f20.body with
  | some c => c
  | none => .skip
noncomputable def cfg20 : Cfg := ⟨Try.prog, TT, FNS, [], [], [], TCH, false, false⟩
def an20 : AnnG := (.seq .leaf (.seq (.seq .leaf (.blk (.loop ⟨[(5, .int .i64)], [], []⟩ (.seq (.seq .leaf (.cond .leaf .leaf)) (.seq (.blk (.seq .leaf (.cond (.seq .leaf .leaf) .leaf))) .leaf))))) (.seq .leaf .leaf)))
def F20 (la : Option Addr) (ll : Nat) (lc : Nat) (key : ByteArray) (g : G) (R : Value → G → Prop) : Prop :=
  ∃ Inv : Nat → Int → G → Prop, ((∃ m0 : Nat, Inv m0 (0 : Int) g)) ∧
  ∀ m : Nat, ∀ i : Int, ∀ g1 : G, Le g g1 → Inv m i g1 →
  ifB (ltI i ((ll : Nat) : Int))
  ((0 ≤ i ∧ i < ((ll : Nat) : Int)) ∧ derefP la fun ad => ∃ x : ByteArray, g1.w.cell? (Addr.add ad (Int.toNat i * 2)) = some (.string x) ∧ ifB (strEq x key)
  (∀ g2 : G, Ex g1 g2 →
  R (.int .i64 i) g2)
  (InI64 (i + (1 : Int)) ∧ (∃ m_1 : Nat, m_1 < m ∧ Inv m_1 (i + (1 : Int)) g1)))
  (∀ g3 : G, Ex g1 g3 →
  R (.int .i64 (-1 : Int)) g3)
theorem F20_eq (la : Option Addr) (ll : Nat) (lc : Nat) (key : ByteArray) (g : G) (R : Value → G → Prop) : fnG cfg20 20 [.tmp 4] c20 an20 [(.slice la ll lc), (.string key)] g nobody R = F20 la ll lc key g R := by kernel_rfl
theorem call20 (la : Option Addr) (ll : Nat) (lc : Nat) (key : ByteArray) (g : G) (R : Value → G → Prop) (hF : F20 la ll lc key g R) : CallsG Try.prog 20 #[(.slice la ll lc), (.string key)] g nobody R :=
  fn_soundG (c := cfg20) TTok FNSok mixed Try.func20 (show Try.f20.body = some c20 by kernel_rfl) (show Try.f20.ntmps = 20 by kernel_rfl) (show Try.f20.results.toList = [.tmp 4] by kernel_rfl) rfl ((F20_eq la ll lc key g R).mpr hF)

/- 21 pilaster/pilasterref53.Entries -/
noncomputable def c21 : Code := match Try.f21.body with
  | some c => c
  | none => .skip
noncomputable def cfg21 : Cfg := ⟨Try.prog, TT, FNS, [1, 5], [(1, 1), (5, 5), (10, 1), (14, 1), (19, 5), (24, 5), (36, 5), (46, 5), (51, 5), (53, 5), (63, 5), (76, 5), (81, 5), (83, 5)], [], TCH, false, false⟩
def an21 : AnnG := (.seq .leaf (.seq .leaf (.seq .leaf (.seq (.blk (.loop ⟨[(3, .sl), (4, .int .i64)], [], []⟩ (.seq (.seq .leaf (.cond .leaf .leaf)) (.blk (.seq .leaf (.seq (.seq .leaf (.cond (.seq .leaf .leaf) .leaf)) (.seq .leaf (.seq .leaf (.seq .leaf (.seq (.seq .leaf (.blk (.loop ⟨[(6, .sl), (7, .bool), (8, .int .i64)], [], []⟩ (.seq (.seq .leaf (.cond .leaf .leaf)) (.seq (.blk (.join ⟨[(6, .sl), (7, .bool)], [], []⟩ (.join ⟨[(49, .bool)], [], []⟩ (.tree 15 (.quiet 0 (.quiet 1 (.quiet 2 (.quiet 3 (.quiet 4 (.quiet 5 (.quiet 6 (.quiet 7 (.quiet 8 (.quiet 9 (.quiet 10 (.quiet 11 (.quiet 12 (.quiet 13 (.quiet 14 .fin)))))))))))))))) (.cond (.seq .leaf .leaf) .leaf)) (.seq (.tree 7 (.quiet 0 (.quiet 1 (.quiet 2 (.quiet 3 (.quiet 4 (.quiet 5 (.quiet 6 .fin)))))))) (.cond .leaf .leaf)))) .leaf))))) (.seq (.join ⟨[(79, .bool)], [], []⟩ .leaf (.cond .leaf .leaf)) .leaf))))))))))) (.seq .leaf .leaf)))))
def F21 (s0a : Option Addr) (s0l : Nat) (s0c : Nat) (s1 : Int) (s2 : Int) (g : G) (R : Value → G → Prop) : Prop :=
  ∃ Inv : Nat → Option Addr → Nat → Nat → Int → G → Prop, (∀ g1 : G, Ex g g1 →
  (∃ m0 : Nat, Inv m0 none 0 0 (0 : Int) g1)) ∧
  ∀ m : Nat, ∀ outa : Option Addr, ∀ outl : Nat, ∀ outc : Nat, ∀ at0 : Int, ∀ g2 : G, Le g g2 → Inv m outa outl outc at0 g2 →
  ifB (ltI at0 ((s0l : Nat) : Int))
  ((0 ≤ at0 ∧ at0 ≤ ((s0l : Nat) : Int)) ∧ (CallsP Try.prog 48 #[(.slice (slAddr s0a s0c (Int.toNat at0) 1) (s0l - (Int.toNat at0)) (s0c - (Int.toNat at0)))] g2 fun v g3 =>
  ∃ x0 : Int, ∃ x1 : ByteArray, ∃ x2a : Option Addr, ∃ x2l : Nat, ∃ x2c : Nat, ∃ x3 : Int, v = (.agg ⟨[(.int .i64 x0), (.string x1), (.slice x2a x2l x2c), (.int .i64 x3)]⟩) ∧ ifB (eqI x3 (0 : Int))
  (∀ g4 : G, Ex g3 g4 →
  R (.slice outa outl outc) g4)
  (InI64 (at0 + x3) ∧ ∃ Inv_1 : Nat → Option Addr → Nat → Nat → Bool → Int → G → Prop, (∀ g5 : G, Ex g3 g5 →
  (∃ m0 : Nat, Inv_1 m0 none 0 0 false (0 : Int) g5)) ∧
  ∀ m_2 : Nat, ∀ nexta : Option Addr, ∀ nextl : Nat, ∀ nextc : Nat, ∀ done : Bool, ∀ i : Int, ∀ g6 : G, Le g3 g6 → Inv_1 m_2 nexta nextl nextc done i g6 →
  ifB (ltI i ((outl : Nat) : Int))
  (∀ J : Option Addr → Nat → Nat → Bool → G → Prop,
  (∀ nexta_1 : Option Addr, ∀ nextl_1 : Nat, ∀ nextc_1 : Nat, ∀ done_1 : Bool, ∀ g7 : G, (∀ g8 : G, Ex g7 g8 →
  (0 ≤ i ∧ i < ((outl : Nat) : Int)) ∧ derefP outa fun ad => ∃ x : ByteArray, g8.w.cell? (Addr.add ad (Int.toNat i * 2)) = some (.string x) ∧ ifB (!strEq x x1)
  ((0 ≤ i ∧ i < ((outl : Nat) : Int)) ∧ derefP outa fun ad_1 => ∃ x0_1 : ByteArray, ∃ x1a : Option Addr, ∃ x1l : Nat, ∃ x1c : Nat, g8.w.cell? (Addr.add ad_1 (Int.toNat i * 2)) = some (.string x0_1) ∧ g8.w.cell? (Addr.add (Addr.add ad_1 (Int.toNat i * 2)) 1) = some (.slice x1a x1l x1c) ∧ ∀ g9 : G, NewL g8 g9 67 [(.string x0_1), (.slice x1a x1l x1c)] →
  ∃ nexta_2 : Option Addr, ∃ nextl_2 : Nat, ∃ nextc_2 : Nat, ∃ w1 : World, Sem.run Try.prog (Builtin.append_ #[36, 36] 36 #[(.slice nexta_1 nextl_1 nextc_1), (.slice (some ⟨g8.w.heap.size, 0, none⟩) 1 1)]) g9.w = .ok (.slice nexta_2 nextl_2 nextc_2) w1 ∧ ∃ g10 : G, g10.w = w1 ∧ Stp g.w.heap.size nobody g9 g10 ∧ InI64 (i + (1 : Int)) ∧ (∃ m_3 : Nat, m_3 < m_2 ∧ Inv_1 m_3 nexta_2 nextl_2 nextc_2 done_1 (i + (1 : Int)) g10))
  (InI64 (i + (1 : Int)) ∧ (∃ m_3 : Nat, m_3 < m_2 ∧ Inv_1 m_3 nexta_1 nextl_1 nextc_1 done_1 (i + (1 : Int)) g8))) → J nexta_1 nextl_1 nextc_1 done_1 g7) →
  ∀ J_1 : Bool → G → Prop,
  (∀ v_1 : Bool, ∀ g11 : G, (ifB v_1
  (∀ g12 : G, NewL g11 g12 67 [(.string x1), (.slice x2a x2l x2c)] →
  ∃ nexta_3 : Option Addr, ∃ nextl_3 : Nat, ∃ nextc_3 : Nat, ∃ w2 : World, Sem.run Try.prog (Builtin.append_ #[36, 36] 36 #[(.slice nexta nextl nextc), (.slice (some ⟨g11.w.heap.size, 0, none⟩) 1 1)]) g12.w = .ok (.slice nexta_3 nextl_3 nextc_3) w2 ∧ ∃ g13 : G, g13.w = w2 ∧ Stp g.w.heap.size nobody g12 g13 ∧ J nexta_3 nextl_3 nextc_3 true g13)
  (J nexta nextl nextc done g11)) → J_1 v_1 g11) →
  ∀ g14 : G, Ex g6 g14 →
  ifB (!done)
  (ifB (eqI x0 (1 : Int))
  ((0 ≤ i ∧ i < ((outl : Nat) : Int)) ∧ derefP outa fun ad_2 => ∃ x_1 : ByteArray, g14.w.cell? (Addr.add ad_2 (Int.toNat i * 2)) = some (.string x_1) ∧ J_1 (!strLt x_1 x1) g14)
  (J_1 false g14))
  (J_1 false g14))
  (∀ J_2 : Bool → G → Prop,
  (∀ v_2 : Bool, ∀ g15 : G, (ifB v_2
  (∀ g16 : G, NewL g15 g16 67 [(.string x1), (.slice x2a x2l x2c)] →
  ∃ nexta_4 : Option Addr, ∃ nextl_4 : Nat, ∃ nextc_4 : Nat, ∃ w3 : World, Sem.run Try.prog (Builtin.append_ #[36, 36] 36 #[(.slice nexta nextl nextc), (.slice (some ⟨g15.w.heap.size, 0, none⟩) 1 1)]) g16.w = .ok (.slice nexta_4 nextl_4 nextc_4) w3 ∧ ∃ g17 : G, g17.w = w3 ∧ Stp g.w.heap.size nobody g16 g17 ∧ (∃ m_1 : Nat, m_1 < m ∧ Inv m_1 nexta_4 nextl_4 nextc_4 (at0 + x3) g17))
  ((∃ m_1 : Nat, m_1 < m ∧ Inv m_1 nexta nextl nextc (at0 + x3) g15))) → J_2 v_2 g15) →
  ifB (!done)
  (J_2 (eqI x0 (1 : Int)) g6)
  (J_2 false g6)))))
  (∀ g18 : G, Ex g2 g18 →
  R (.slice outa outl outc) g18)
theorem F21_eq (s0a : Option Addr) (s0l : Nat) (s0c : Nat) (s1 : Int) (s2 : Int) (g : G) (R : Value → G → Prop) : fnG cfg21 90 [.tmp 2] c21 an21 [(.agg ⟨[(.slice s0a s0l s0c), (.int .i64 s1), (.int .i64 s2)]⟩)] g nobody R = F21 s0a s0l s0c s1 s2 g R := by kernel_rfl
theorem call21 (s0a : Option Addr) (s0l : Nat) (s0c : Nat) (s1 : Int) (s2 : Int) (g : G) (R : Value → G → Prop) (hF : F21 s0a s0l s0c s1 s2 g R) : CallsG Try.prog 21 #[(.agg ⟨[(.slice s0a s0l s0c), (.int .i64 s1), (.int .i64 s2)]⟩)] g nobody R :=
  fn_soundG (c := cfg21) TTok FNSok mixed Try.func21 (show Try.f21.body = some c21 by kernel_rfl) (show Try.f21.ntmps = 90 by kernel_rfl) (show Try.f21.results.toList = [.tmp 2] by kernel_rfl) rfl ((F21_eq s0a s0l s0c s1 s2 g R).mpr hF)

/- 22 pilaster/store.New -/
noncomputable def c22 : Code := match Try.f22.body with
  | some c => c
  | none => .skip
noncomputable def cfg22 : Cfg := ⟨Try.prog, TT, FNS, [2], [(2, 2)], [], TCH, false, false⟩
def an22 : AnnG := (.seq .leaf (.seq (.seq .leaf (.cond (.seq .leaf .leaf) .leaf)) (.seq .leaf .leaf)))
def F22 (after : Int) (g : G) (R : Value → G → Prop) : Prop :=
  ifB (ltI after (-1 : Int))
  (∀ g1 : G, Ex g g1 →
  ∀ g2 : G, Ex g1 g2 →
  R (.tuple ⟨[(.agg ⟨[(.slice none 0 0), (.int .i64 (0 : Int)), (.int .i64 (0 : Int))]⟩), (.int .i64 (2 : Int))]⟩) g2)
  (ifB (ltI (1048576 : Int) after)
  (∀ g3 : G, Ex g g3 →
  ∀ g4 : G, Ex g3 g4 →
  R (.tuple ⟨[(.agg ⟨[(.slice none 0 0), (.int .i64 (0 : Int)), (.int .i64 (0 : Int))]⟩), (.int .i64 (2 : Int))]⟩) g4)
  (∀ g5 : G, Ex g g5 →
  ∀ g6 : G, Ex g5 g6 →
  R (.tuple ⟨[(.agg ⟨[(.slice none 0 0), (.int .i64 (0 : Int)), (.int .i64 after)]⟩), (.int .i64 (0 : Int))]⟩) g6))
theorem F22_eq (after : Int) (g : G) (R : Value → G → Prop) : fnG cfg22 13 [.cell 2 24, .tmp 3] c22 an22 [(.int .i64 after)] g nobody R = F22 after g R := by kernel_rfl
theorem call22 (after : Int) (g : G) (R : Value → G → Prop) (hF : F22 after g R) : CallsG Try.prog 22 #[(.int .i64 after)] g nobody R :=
  fn_soundG (c := cfg22) TTok FNSok mixed Try.func22 (show Try.f22.body = some c22 by kernel_rfl) (show Try.f22.ntmps = 13 by kernel_rfl) (show Try.f22.results.toList = [.cell 2 24, .tmp 3] by kernel_rfl) rfl ((F22_eq after g R).mpr hF)

/- 23 pilaster/store.Crash -/
noncomputable def c23 : Code := match Try.f23.body with
  | some c => c
  | none => .skip
noncomputable def cfg23 : Cfg := ⟨Try.prog, TT, FNS, [2, 4], [(2, 2), (4, 4), (14, 2), (17, 2), (20, 2), (25, 2)], [], TCH, false, false⟩
def an23 : AnnG := (.seq .leaf (.seq (.seq .leaf (.cond (.seq .leaf .leaf) .leaf)) (.seq (.seq .leaf (.cond (.seq .leaf .leaf) .leaf)) (.seq .leaf (.seq .leaf .leaf)))))
def F23 (s0a : Option Addr) (s0l : Nat) (s0c : Nat) (s1 : Int) (s2 : Int) (keep : Int) (g : G) (R : Value → G → Prop) : Prop :=
  ∀ g1 : G, Ex g g1 →
  (CallsP Try.prog 24 #[(.agg ⟨[(.slice s0a s0l s0c), (.int .i64 s1), (.int .i64 s2)]⟩)] g1 fun v g2 =>
  ∃ x : Bool, v = (.bool x) ∧ ifB (!x)
  (∀ g3 : G, Ex g2 g3 →
  R (.tuple ⟨[(.agg ⟨[(.slice none 0 0), (.int .i64 (0 : Int)), (.int .i64 (0 : Int))]⟩), (.int .i64 (1 : Int))]⟩) g3)
  (ifB (ltI keep (0 : Int))
  (∀ g4 : G, Ex g2 g4 →
  R (.tuple ⟨[(.agg ⟨[(.slice none 0 0), (.int .i64 (0 : Int)), (.int .i64 (0 : Int))]⟩), (.int .i64 (2 : Int))]⟩) g4)
  (InI64 (((s0l : Nat) : Int) - s1) ∧ InI64 (s1 + (minI keep (((s0l : Nat) : Int) - s1))) ∧ (0 ≤ (s1 + (minI keep (((s0l : Nat) : Int) - s1))) ∧ (s1 + (minI keep (((s0l : Nat) : Int) - s1))) ≤ ((s0c : Nat) : Int)) ∧ (CallsP Try.prog 32 #[(.slice (slAddr s0a s0c 0 1) ((Int.toNat (s1 + (minI keep (((s0l : Nat) : Int) - s1)))) - 0) (s0c - 0))] g2 fun v g5 =>
  ∃ xa : Option Addr, ∃ xl : Nat, ∃ xc : Nat, v = (.slice xa xl xc) ∧ ∀ g6 : G, Ex g5 g6 →
  R (.tuple ⟨[(.agg ⟨[(.slice xa xl xc), (.int .i64 (s1 + (minI keep (((s0l : Nat) : Int) - s1)))), (.int .i64 (-1 : Int))]⟩), (.int .i64 (0 : Int))]⟩) g6))))
theorem F23_eq (s0a : Option Addr) (s0l : Nat) (s0c : Nat) (s1 : Int) (s2 : Int) (keep : Int) (g : G) (R : Value → G → Prop) : fnG cfg23 32 [.cell 4 24, .tmp 5] c23 an23 [(.agg ⟨[(.slice s0a s0l s0c), (.int .i64 s1), (.int .i64 s2)]⟩), (.int .i64 keep)] g nobody R = F23 s0a s0l s0c s1 s2 keep g R := by kernel_rfl
theorem call23 (s0a : Option Addr) (s0l : Nat) (s0c : Nat) (s1 : Int) (s2 : Int) (keep : Int) (g : G) (R : Value → G → Prop) (hF : F23 s0a s0l s0c s1 s2 keep g R) : CallsG Try.prog 23 #[(.agg ⟨[(.slice s0a s0l s0c), (.int .i64 s1), (.int .i64 s2)]⟩), (.int .i64 keep)] g nobody R :=
  fn_soundG (c := cfg23) TTok FNSok mixed Try.func23 (show Try.f23.body = some c23 by kernel_rfl) (show Try.f23.ntmps = 32 by kernel_rfl) (show Try.f23.results.toList = [.cell 4 24, .tmp 5] by kernel_rfl) rfl ((F23_eq s0a s0l s0c s1 s2 keep g R).mpr hF)

/- 24 pilaster/store.Valid -/
noncomputable def c24 : Code := match Try.f24.body with
  | some c => c
  | none => .skip
noncomputable def cfg24 : Cfg := ⟨Try.prog, TT, FNS, [1], [(1, 1), (3, 1), (8, 1), (13, 1), (15, 1), (21, 1), (26, 1)], [], TCH, false, false⟩
def an24 : AnnG := (.seq .leaf (.seq .leaf .leaf))
def F24 (s0a : Option Addr) (s0l : Nat) (s0c : Nat) (s1 : Int) (s2 : Int) (g : G) (R : Value → G → Prop) : Prop :=
  ifB (leI ((s0l : Nat) : Int) (1048576 : Int))
  (ifB (leI (0 : Int) s1)
  (ifB (leI s1 ((s0l : Nat) : Int))
  (ifB (leI (-1 : Int) s2)
  (∀ g1 : G, Ex g g1 →
  R (.bool (leI s2 (1048576 : Int))) g1)
  (∀ g2 : G, Ex g g2 →
  R (.bool false) g2))
  (∀ g3 : G, Ex g g3 →
  R (.bool false) g3))
  (∀ g4 : G, Ex g g4 →
  R (.bool false) g4))
  (∀ g5 : G, Ex g g5 →
  R (.bool false) g5)
theorem F24_eq (s0a : Option Addr) (s0l : Nat) (s0c : Nat) (s1 : Int) (s2 : Int) (g : G) (R : Value → G → Prop) : fnG cfg24 30 [.tmp 2] c24 an24 [(.agg ⟨[(.slice s0a s0l s0c), (.int .i64 s1), (.int .i64 s2)]⟩)] g nobody R = F24 s0a s0l s0c s1 s2 g R := by kernel_rfl
theorem call24 (s0a : Option Addr) (s0l : Nat) (s0c : Nat) (s1 : Int) (s2 : Int) (g : G) (R : Value → G → Prop) (hF : F24 s0a s0l s0c s1 s2 g R) : CallsG Try.prog 24 #[(.agg ⟨[(.slice s0a s0l s0c), (.int .i64 s1), (.int .i64 s2)]⟩)] g nobody R :=
  fn_soundG (c := cfg24) TTok FNSok mixed Try.func24 (show Try.f24.body = some c24 by kernel_rfl) (show Try.f24.ntmps = 30 by kernel_rfl) (show Try.f24.results.toList = [.tmp 2] by kernel_rfl) rfl ((F24_eq s0a s0l s0c s1 s2 g R).mpr hF)

/- 25 pilaster/pilasterref53.Crash -/
noncomputable def c25 : Code := match Try.f25.body with
  | some c => c
  | none => .skip
noncomputable def cfg25 : Cfg := ⟨Try.prog, TT, FNS, [2, 4], [(2, 2), (4, 4), (6, 2), (11, 2), (15, 2), (20, 2)], [], TCH, false, false⟩
def an25 : AnnG := (.seq .leaf (.seq .leaf (.join ⟨[(5, .int .i64)], [], []⟩ (.seq .leaf (.cond .leaf .leaf)) (.seq .leaf .leaf))))
def F25 (s0a : Option Addr) (s0l : Nat) (s0c : Nat) (s1 : Int) (s2 : Int) (keep : Int) (g : G) (R : Value → G → Prop) : Prop :=
  ∀ J : Int → G → Prop,
  (∀ n : Int, ∀ g1 : G, (∀ g2 : G, NewL g1 g2 5 [] →
  (0 ≤ n ∧ n ≤ ((s0c : Nat) : Int)) ∧ ∃ xa : Option Addr, ∃ xl : Nat, ∃ xc : Nat, ∃ w1 : World, Sem.run Try.prog (Builtin.append_ #[22, 22] 22 #[(.slice (some ⟨g1.w.heap.size, 0, none⟩) 0 0), (.slice (slAddr s0a s0c 0 1) ((Int.toNat n) - 0) (s0c - 0))]) g2.w = .ok (.slice xa xl xc) w1 ∧ ∃ g3 : G, g3.w = w1 ∧ Stp g.w.heap.size nobody g2 g3 ∧ ∀ g4 : G, Ex g3 g4 →
  R (.agg ⟨[(.slice xa xl xc), (.int .i64 n), (.int .i64 (-1 : Int))]⟩) g4) → J n g1) →
  InI64 (((s0l : Nat) : Int) - s1) ∧ ifB (ltI keep (((s0l : Nat) : Int) - s1))
  (InI64 (s1 + keep) ∧ ∀ g5 : G, Ex g g5 →
  J (s1 + keep) g5)
  (∀ g6 : G, Ex g g6 →
  J ((s0l : Nat) : Int) g6)
theorem F25_eq (s0a : Option Addr) (s0l : Nat) (s0c : Nat) (s1 : Int) (s2 : Int) (keep : Int) (g : G) (R : Value → G → Prop) : fnG cfg25 27 [.cell 4 24] c25 an25 [(.agg ⟨[(.slice s0a s0l s0c), (.int .i64 s1), (.int .i64 s2)]⟩), (.int .i64 keep)] g nobody R = F25 s0a s0l s0c s1 s2 keep g R := by kernel_rfl
theorem call25 (s0a : Option Addr) (s0l : Nat) (s0c : Nat) (s1 : Int) (s2 : Int) (keep : Int) (g : G) (R : Value → G → Prop) (hF : F25 s0a s0l s0c s1 s2 keep g R) : CallsG Try.prog 25 #[(.agg ⟨[(.slice s0a s0l s0c), (.int .i64 s1), (.int .i64 s2)]⟩), (.int .i64 keep)] g nobody R :=
  fn_soundG (c := cfg25) TTok FNSok mixed Try.func25 (show Try.f25.body = some c25 by kernel_rfl) (show Try.f25.ntmps = 27 by kernel_rfl) (show Try.f25.results.toList = [.cell 4 24] by kernel_rfl) rfl ((F25_eq s0a s0l s0c s1 s2 keep g R).mpr hF)

/- 26 pilaster/store.Compact -/
noncomputable def c26 : Code := match Try.f26.body with
  | some c => c
  | none => .skip
noncomputable def cfg26 : Cfg := ⟨Try.prog, TT, FNS, [1, 2, 6, 8], [(1, 1), (2, 2), (6, 6), (8, 8), (18, 1), (27, 6), (29, 8), (31, 8), (35, 6), (37, 6), (40, 6)], [], TCH, false, false⟩
def an26 : AnnG := (.seq .leaf (.seq .leaf (.seq (.seq .leaf (.cond (.seq .leaf .leaf) .leaf)) (.seq .leaf (.seq (.seq .leaf (.blk (.loop ⟨[(23, .int .i64)], [(6, 6, 0)], [(6, [(.sl), (.int .i64), (.int .i64)])]⟩ (.seq .leaf (.seq (.cond .leaf .leaf) (.seq (.blk (.seq .leaf (.tree 7 (.quiet 0 (.quiet 1 (.quiet 2 (.quiet 3 (.quiet 4 (.quiet 5 (.eff 6 .fin .fin)))))))))) .leaf)))))) (.seq .leaf (.seq .leaf .leaf)))))))
def F26 (s0a : Option Addr) (s0l : Nat) (s0c : Nat) (s1 : Int) (s2 : Int) (g : G) (R : Value → G → Prop) : Prop :=
  ∀ g1 : G, Ex g g1 →
  (CallsP Try.prog 27 #[(.agg ⟨[(.slice s0a s0l s0c), (.int .i64 s1), (.int .i64 s2)]⟩)] g1 fun v g2 =>
  ∃ x0a : Option Addr, ∃ x0l : Nat, ∃ x0c : Nat, ∃ x1 : Int, v = (.tuple ⟨[(.slice x0a x0l x0c), (.int .i64 x1)]⟩) ∧ ifB (!eqI x1 (0 : Int))
  (∀ g3 : G, Ex g2 g3 →
  R (.tuple ⟨[(.agg ⟨[(.slice none 0 0), (.int .i64 (0 : Int)), (.int .i64 (0 : Int))]⟩), (.int .i64 x1)]⟩) g3)
  (∃ Inv : Nat → Int → Option Addr → Nat → Nat → Int → Int → G → Prop, (∀ g4 : G, Ex g2 g4 →
  (∃ m0 : Nat, Inv m0 (0 : Int) none 0 0 (0 : Int) s2 g4)) ∧
  ∀ m : Nat, ∀ v_1 : Int, ∀ out0a : Option Addr, ∀ out0l : Nat, ∀ out0c : Nat, ∀ out1 : Int, ∀ out2 : Int, ∀ g5 : G, Le g2 g5 → Inv m v_1 out0a out0l out0c out1 out2 g5 →
  ifB (ltI v_1 ((x0l : Nat) : Int))
  ((0 ≤ v_1 ∧ v_1 < ((x0l : Nat) : Int)) ∧ derefP x0a fun ad => ∃ x0 : ByteArray, ∃ x1a : Option Addr, ∃ x1l : Nat, ∃ x1c : Nat, g5.w.cell? (Addr.add ad (Int.toNat v_1 * 2)) = some (.string x0) ∧ g5.w.cell? (Addr.add (Addr.add ad (Int.toNat v_1 * 2)) 1) = some (.slice x1a x1l x1c) ∧ ∀ g6 : G, Ex g5 g6 →
  (CallsP Try.prog 46 #[(.int .u8 (1 : Int)), (.string x0), (.slice x1a x1l x1c)] g6 fun v g7 =>
  ∃ xa : Option Addr, ∃ xl : Nat, ∃ xc : Nat, v = (.slice xa xl xc) ∧ ∃ xa_1 : Option Addr, ∃ xl_1 : Nat, ∃ xc_1 : Nat, ∃ w1 : World, Sem.run Try.prog (Builtin.append_ #[22, 22] 22 #[(.slice out0a out0l out0c), (.slice xa xl xc)]) g7.w = .ok (.slice xa_1 xl_1 xc_1) w1 ∧ ∃ g8 : G, g8.w = w1 ∧ Stp g.w.heap.size nobody g7 g8 ∧ InI64 (v_1 + (1 : Int)) ∧ ∀ g9 : G, Ex g8 g9 →
  (∃ m_1 : Nat, m_1 < m ∧ Inv m_1 (v_1 + (1 : Int)) xa_1 xl_1 xc_1 out1 out2 g9)))
  (∀ g10 : G, Ex g5 g10 →
  R (.tuple ⟨[(.agg ⟨[(.slice out0a out0l out0c), (.int .i64 ((out0l : Nat) : Int)), (.int .i64 out2)]⟩), (.int .i64 (0 : Int))]⟩) g10)))
theorem F26_eq (s0a : Option Addr) (s0l : Nat) (s0c : Nat) (s1 : Int) (s2 : Int) (g : G) (R : Value → G → Prop) : fnG cfg26 42 [.cell 2 24, .tmp 3] c26 an26 [(.agg ⟨[(.slice s0a s0l s0c), (.int .i64 s1), (.int .i64 s2)]⟩)] g nobody R = F26 s0a s0l s0c s1 s2 g R := by kernel_rfl
theorem call26 (s0a : Option Addr) (s0l : Nat) (s0c : Nat) (s1 : Int) (s2 : Int) (g : G) (R : Value → G → Prop) (hF : F26 s0a s0l s0c s1 s2 g R) : CallsG Try.prog 26 #[(.agg ⟨[(.slice s0a s0l s0c), (.int .i64 s1), (.int .i64 s2)]⟩)] g nobody R :=
  fn_soundG (c := cfg26) TTok FNSok mixed Try.func26 (show Try.f26.body = some c26 by kernel_rfl) (show Try.f26.ntmps = 42 by kernel_rfl) (show Try.f26.results.toList = [.cell 2 24, .tmp 3] by kernel_rfl) rfl ((F26_eq s0a s0l s0c s1 s2 g R).mpr hF)

/- 27 pilaster/store.Entries -/
noncomputable def c27 : Code := match Try.f27.body with
  | some c => c
  | none => .skip
noncomputable def cfg27 : Cfg := ⟨Try.prog, TT, FNS, [1], [(1, 1)], [], TCH, false, false⟩
def an27 : AnnG := (.seq .leaf (.seq .leaf (.seq (.seq .leaf (.cond (.seq .leaf .leaf) .leaf)) (.seq .leaf (.seq .leaf (.seq (.seq .leaf (.blk (.loop ⟨[(8, .sl), (26, .int .i64)], [], []⟩ (.seq .leaf (.seq (.cond .leaf .leaf) (.seq (.blk (.seq .leaf .leaf)) .leaf)))))) (.seq .leaf .leaf)))))))
def F27 (s0a : Option Addr) (s0l : Nat) (s0c : Nat) (s1 : Int) (s2 : Int) (g : G) (R : Value → G → Prop) : Prop :=
  ∀ g1 : G, Ex g g1 →
  (CallsP Try.prog 36 #[(.agg ⟨[(.slice s0a s0l s0c), (.int .i64 s1), (.int .i64 s2)]⟩)] g1 fun v g2 =>
  ∃ x0a : Option Addr, ∃ x0l : Nat, ∃ x0c : Nat, ∃ x1 : Int, v = (.tuple ⟨[(.slice x0a x0l x0c), (.int .i64 x1)]⟩) ∧ ifB (!eqI x1 (0 : Int))
  (∀ g3 : G, Ex g2 g3 →
  R (.tuple ⟨[(.slice none 0 0), (.int .i64 x1)]⟩) g3)
  ((CallsP Try.prog 44 #[(.agg ⟨[(.slice s0a s0l s0c), (.int .i64 s1), (.int .i64 s2)]⟩)] g2 fun v g4 =>
  ∃ x0 : Option Nat, ∃ x1_1 : Int, v = (.tuple ⟨[(.map x0), (.int .i64 x1_1)]⟩) ∧ ∃ Inv : Nat → Option Addr → Nat → Nat → Int → G → Prop, ((∃ m0 : Nat, Inv m0 none 0 0 (0 : Int) g4)) ∧
  ∀ m : Nat, ∀ outa : Option Addr, ∀ outl : Nat, ∀ outc : Nat, ∀ v_1 : Int, ∀ g5 : G, Le g4 g5 → Inv m outa outl outc v_1 g5 →
  ifB (ltI v_1 ((x0l : Nat) : Int))
  ((0 ≤ v_1 ∧ v_1 < ((x0l : Nat) : Int)) ∧ derefP x0a fun ad => ∃ k : ByteArray, g5.w.cell? (Addr.add ad (Int.toNat v_1 * 1)) = some (.string k) ∧ ∃ xa : Option Addr, ∃ xl : Nat, ∃ xc : Nat, ∃ w1 : World, Sem.run Try.prog (Instr.lookup 79 (.map x0) (.string k) false) g5.w = .ok (.slice xa xl xc) w1 ∧ ∃ g6 : G, g6.w = w1 ∧ Stp g.w.heap.size nobody g5 g6 ∧ (CallsP Try.prog 49 #[(.slice xa xl xc)] g6 fun v g7 =>
  ∃ xa_1 : Option Addr, ∃ xl_1 : Nat, ∃ xc_1 : Nat, v = (.slice xa_1 xl_1 xc_1) ∧ ∀ g8 : G, NewL g7 g8 67 [(.string k), (.slice xa_1 xl_1 xc_1)] →
  ∃ outa_1 : Option Addr, ∃ outl_1 : Nat, ∃ outc_1 : Nat, ∃ w2 : World, Sem.run Try.prog (Builtin.append_ #[36, 36] 36 #[(.slice outa outl outc), (.slice (some ⟨g7.w.heap.size, 0, none⟩) 1 1)]) g8.w = .ok (.slice outa_1 outl_1 outc_1) w2 ∧ ∃ g9 : G, g9.w = w2 ∧ Stp g.w.heap.size nobody g8 g9 ∧ InI64 (v_1 + (1 : Int)) ∧ (∃ m_1 : Nat, m_1 < m ∧ Inv m_1 outa_1 outl_1 outc_1 (v_1 + (1 : Int)) g9)))
  (∀ g10 : G, Ex g5 g10 →
  R (.tuple ⟨[(.slice outa outl outc), (.int .i64 (0 : Int))]⟩) g10))))
theorem F27_eq (s0a : Option Addr) (s0l : Nat) (s0c : Nat) (s1 : Int) (s2 : Int) (g : G) (R : Value → G → Prop) : fnG cfg27 41 [.tmp 2, .tmp 3] c27 an27 [(.agg ⟨[(.slice s0a s0l s0c), (.int .i64 s1), (.int .i64 s2)]⟩)] g nobody R = F27 s0a s0l s0c s1 s2 g R := by kernel_rfl
theorem call27 (s0a : Option Addr) (s0l : Nat) (s0c : Nat) (s1 : Int) (s2 : Int) (g : G) (R : Value → G → Prop) (hF : F27 s0a s0l s0c s1 s2 g R) : CallsG Try.prog 27 #[(.agg ⟨[(.slice s0a s0l s0c), (.int .i64 s1), (.int .i64 s2)]⟩)] g nobody R :=
  fn_soundG (c := cfg27) TTok FNSok mixed Try.func27 (show Try.f27.body = some c27 by kernel_rfl) (show Try.f27.ntmps = 41 by kernel_rfl) (show Try.f27.results.toList = [.tmp 2, .tmp 3] by kernel_rfl) rfl ((F27_eq s0a s0l s0c s1 s2 g R).mpr hF)

/- 28 pilaster/pilasterref53.SameEntries -/
noncomputable def c28 : Code := match Try.f28.body with
  | some c => c
  | none => .skip
noncomputable def cfg28 : Cfg := ⟨Try.prog, TT, FNS, [], [], [], TCH, false, false⟩
def an28 : AnnG := (.seq .leaf (.seq (.seq .leaf (.cond (.seq .leaf .leaf) .leaf)) (.seq (.seq .leaf (.blk (.loop ⟨[(5, .int .i64)], [], []⟩ (.seq (.seq .leaf (.cond .leaf .leaf)) (.seq (.blk (.seq (.tree 22 (.quiet 0 (.quiet 1 (.quiet 2 (.quiet 3 (.quiet 4 (.quiet 5 (.quiet 6 (.quiet 7 (.quiet 8 (.quiet 9 (.quiet 10 (.quiet 11 (.quiet 12 (.quiet 13 (.quiet 14 (.quiet 15 (.quiet 16 (.quiet 17 (.quiet 18 (.quiet 19 (.quiet 20 (.quiet 21 .fin))))))))))))))))))))))) (.cond (.seq .leaf .leaf) .leaf))) .leaf))))) (.seq .leaf .leaf))))
def F28 (aa : Option Addr) (al : Nat) (ac : Nat) (ba : Option Addr) (bl : Nat) (bc : Nat) (g : G) (R : Value → G → Prop) : Prop :=
  ifB (!eqI ((al : Nat) : Int) ((bl : Nat) : Int))
  (∀ g1 : G, Ex g g1 →
  R (.bool false) g1)
  (∃ Inv : Nat → Int → G → Prop, ((∃ m0 : Nat, Inv m0 (0 : Int) g)) ∧
  ∀ m : Nat, ∀ i : Int, ∀ g2 : G, Le g g2 → Inv m i g2 →
  ifB (ltI i ((al : Nat) : Int))
  (∀ g3 : G, Ex g2 g3 →
  (0 ≤ i ∧ i < ((al : Nat) : Int)) ∧ derefP aa fun ad => ∃ x : ByteArray, g3.w.cell? (Addr.add ad (Int.toNat i * 2)) = some (.string x) ∧ (0 ≤ i ∧ i < ((bl : Nat) : Int)) ∧ derefP ba fun ad_1 => ∃ x_1 : ByteArray, g3.w.cell? (Addr.add ad_1 (Int.toNat i * 2)) = some (.string x_1) ∧ ifB (!strEq x x_1)
  (∀ g4 : G, Ex g3 g4 →
  R (.bool false) g4)
  ((0 ≤ i ∧ i < ((al : Nat) : Int)) ∧ derefP aa fun ad_2 => ∃ xa : Option Addr, ∃ xl : Nat, ∃ xc : Nat, g3.w.cell? (Addr.add (Addr.add ad_2 (Int.toNat i * 2)) 1) = some (.slice xa xl xc) ∧ (0 ≤ i ∧ i < ((bl : Nat) : Int)) ∧ derefP ba fun ad_3 => ∃ xa_1 : Option Addr, ∃ xl_1 : Nat, ∃ xc_1 : Nat, g3.w.cell? (Addr.add (Addr.add ad_3 (Int.toNat i * 2)) 1) = some (.slice xa_1 xl_1 xc_1) ∧ (CallsP Try.prog 38 #[(.slice xa xl xc), (.slice xa_1 xl_1 xc_1)] g3 fun v g5 =>
  ∃ x_2 : Bool, v = (.bool x_2) ∧ ifB (!x_2)
  (∀ g6 : G, Ex g5 g6 →
  R (.bool false) g6)
  (InI64 (i + (1 : Int)) ∧ (∃ m_1 : Nat, m_1 < m ∧ Inv m_1 (i + (1 : Int)) g5)))))
  (∀ g7 : G, Ex g2 g7 →
  R (.bool true) g7))
theorem F28_eq (aa : Option Addr) (al : Nat) (ac : Nat) (ba : Option Addr) (bl : Nat) (bc : Nat) (g : G) (R : Value → G → Prop) : fnG cfg28 42 [.tmp 4] c28 an28 [(.slice aa al ac), (.slice ba bl bc)] g nobody R = F28 aa al ac ba bl bc g R := by kernel_rfl
theorem call28 (aa : Option Addr) (al : Nat) (ac : Nat) (ba : Option Addr) (bl : Nat) (bc : Nat) (g : G) (R : Value → G → Prop) (hF : F28 aa al ac ba bl bc g R) : CallsG Try.prog 28 #[(.slice aa al ac), (.slice ba bl bc)] g nobody R :=
  fn_soundG (c := cfg28) TTok FNSok mixed Try.func28 (show Try.f28.body = some c28 by kernel_rfl) (show Try.f28.ntmps = 42 by kernel_rfl) (show Try.f28.results.toList = [.tmp 4] by kernel_rfl) rfl ((F28_eq aa al ac ba bl bc g R).mpr hF)

/- 29 pilaster/pilasterref53.Length -/
noncomputable def c29 : Code := match Try.f29.body with
  | some c => c
  | none => .skip
noncomputable def cfg29 : Cfg := ⟨Try.prog, TT, FNS, [4], [(4, 4), (13, 4), (18, 4)], [], TCH, false, false⟩
def an29 : AnnG := (.seq .leaf (.seq .leaf (.seq (.blk (.loop ⟨[(3, .int .i64)], [], []⟩ (.seq (.seq .leaf (.cond .leaf .leaf)) (.blk (.seq .leaf (.seq (.seq .leaf (.cond (.seq .leaf .leaf) .leaf)) .leaf)))))) (.seq .leaf .leaf))))
def F29 (ba : Option Addr) (bl : Nat) (bc : Nat) (g : G) (R : Value → G → Prop) : Prop :=
  ∃ Inv : Nat → Int → G → Prop, ((∃ m0 : Nat, Inv m0 (0 : Int) g)) ∧
  ∀ m : Nat, ∀ at0 : Int, ∀ g1 : G, Le g g1 → Inv m at0 g1 →
  ifB (ltI at0 ((bl : Nat) : Int))
  ((0 ≤ at0 ∧ at0 ≤ ((bl : Nat) : Int)) ∧ (CallsP Try.prog 48 #[(.slice (slAddr ba bc (Int.toNat at0) 1) (bl - (Int.toNat at0)) (bc - (Int.toNat at0)))] g1 fun v g2 =>
  ∃ x0 : Int, ∃ x1 : ByteArray, ∃ x2a : Option Addr, ∃ x2l : Nat, ∃ x2c : Nat, ∃ x3 : Int, v = (.agg ⟨[(.int .i64 x0), (.string x1), (.slice x2a x2l x2c), (.int .i64 x3)]⟩) ∧ ifB (eqI x3 (0 : Int))
  (∀ g3 : G, Ex g2 g3 →
  R (.int .i64 at0) g3)
  (InI64 (at0 + x3) ∧ ∀ g4 : G, Ex g2 g4 →
  (∃ m_1 : Nat, m_1 < m ∧ Inv m_1 (at0 + x3) g4))))
  (∀ g5 : G, Ex g1 g5 →
  R (.int .i64 at0) g5)
theorem F29_eq (ba : Option Addr) (bl : Nat) (bc : Nat) (g : G) (R : Value → G → Prop) : fnG cfg29 22 [.tmp 2] c29 an29 [(.slice ba bl bc)] g nobody R = F29 ba bl bc g R := by kernel_rfl
theorem call29 (ba : Option Addr) (bl : Nat) (bc : Nat) (g : G) (R : Value → G → Prop) (hF : F29 ba bl bc g R) : CallsG Try.prog 29 #[(.slice ba bl bc)] g nobody R :=
  fn_soundG (c := cfg29) TTok FNSok mixed Try.func29 (show Try.f29.body = some c29 by kernel_rfl) (show Try.f29.ntmps = 22 by kernel_rfl) (show Try.f29.results.toList = [.tmp 2] by kernel_rfl) rfl ((F29_eq ba bl bc g R).mpr hF)

/- 30 pilaster/pilasterlaw53.short -/
noncomputable def c30 : Code := match Try.f30.body with
  | some c => c
  | none => .skip
noncomputable def cfg30 : Cfg := ⟨Try.prog, TT, FNS, [], [], [], TCH, false, false⟩
def an30 : AnnG := (.seq .leaf (.seq .leaf .leaf))
def F30 (la : Option Addr) (ll : Nat) (lc : Nat) (g : G) (R : Value → G → Prop) : Prop :=
  ifB (leI ((ll : Nat) : Int) (30 : Int))
  ((CallsP Try.prog 50 #[(.slice la ll lc), (.func (.func 51) #[] #[])] g fun v g1 =>
  ∃ x : Bool, v = (.bool x) ∧ ∀ g2 : G, Ex g1 g2 →
  R (.bool (!x)) g2))
  (∀ g3 : G, Ex g g3 →
  R (.bool false) g3)
theorem F30_eq (la : Option Addr) (ll : Nat) (lc : Nat) (g : G) (R : Value → G → Prop) : fnG cfg30 11 [.tmp 2] c30 an30 [(.slice la ll lc)] g nobody R = F30 la ll lc g R := by kernel_rfl
theorem call30 (la : Option Addr) (ll : Nat) (lc : Nat) (g : G) (R : Value → G → Prop) (hF : F30 la ll lc g R) : CallsG Try.prog 30 #[(.slice la ll lc)] g nobody R :=
  fn_soundG (c := cfg30) TTok FNSok mixed Try.func30 (show Try.f30.body = some c30 by kernel_rfl) (show Try.f30.ntmps = 11 by kernel_rfl) (show Try.f30.results.toList = [.tmp 2] by kernel_rfl) rfl ((F30_eq la ll lc g R).mpr hF)

/- 31 pilaster/pilasterlaw53.apply -/
noncomputable def c31 : Code := match Try.f31.body with
  | some c => c
  | none => .skip
noncomputable def cfg31 : Cfg := ⟨Try.prog, TT, FNS, [2, 3, 4], [(2, 2), (3, 3), (4, 4), (6, 3), (9, 3), (15, 3), (17, 3)], [], TCH, false, false⟩
def an31 : AnnG := (.seq .leaf (.seq (.seq .leaf (.cond (.seq .leaf .leaf) .leaf)) (.seq .leaf .leaf)))
def F31 (s0a : Option Addr) (s0l : Nat) (s0c : Nat) (s1 : Int) (s2 : Int) (x0 : ByteArray) (x1a : Option Addr) (x1l : Nat) (x1c : Nat) (x2 : Bool) (g : G) (R : Value → G → Prop) : Prop :=
  ifB x2
  (∀ g1 : G, Ex g g1 →
  (CallsP Try.prog 13 #[(.agg ⟨[(.slice s0a s0l s0c), (.int .i64 s1), (.int .i64 s2)]⟩), (.string x0)] g1 fun v g2 =>
  ∃ x00a : Option Addr, ∃ x00l : Nat, ∃ x00c : Nat, ∃ x01 : Int, ∃ x02 : Int, ∃ x1 : Int, v = (.tuple ⟨[(.agg ⟨[(.slice x00a x00l x00c), (.int .i64 x01), (.int .i64 x02)]⟩), (.int .i64 x1)]⟩) ∧ ∀ g3 : G, Ex g2 g3 →
  R (.tuple ⟨[(.agg ⟨[(.slice x00a x00l x00c), (.int .i64 x01), (.int .i64 x02)]⟩), (.int .i64 x1)]⟩) g3))
  (∀ g4 : G, Ex g g4 →
  (CallsP Try.prog 12 #[(.agg ⟨[(.slice s0a s0l s0c), (.int .i64 s1), (.int .i64 s2)]⟩), (.string x0), (.slice x1a x1l x1c)] g4 fun v g5 =>
  ∃ x00a_1 : Option Addr, ∃ x00l_1 : Nat, ∃ x00c_1 : Nat, ∃ x01_1 : Int, ∃ x02_1 : Int, ∃ x1_1 : Int, v = (.tuple ⟨[(.agg ⟨[(.slice x00a_1 x00l_1 x00c_1), (.int .i64 x01_1), (.int .i64 x02_1)]⟩), (.int .i64 x1_1)]⟩) ∧ ∀ g6 : G, Ex g5 g6 →
  R (.tuple ⟨[(.agg ⟨[(.slice x00a_1 x00l_1 x00c_1), (.int .i64 x01_1), (.int .i64 x02_1)]⟩), (.int .i64 x1_1)]⟩) g6))
theorem F31_eq (s0a : Option Addr) (s0l : Nat) (s0c : Nat) (s1 : Int) (s2 : Int) (x0 : ByteArray) (x1a : Option Addr) (x1l : Nat) (x1c : Nat) (x2 : Bool) (g : G) (R : Value → G → Prop) : fnG cfg31 22 [.cell 4 24, .tmp 5] c31 an31 [(.agg ⟨[(.slice s0a s0l s0c), (.int .i64 s1), (.int .i64 s2)]⟩), (.agg ⟨[(.string x0), (.slice x1a x1l x1c), (.bool x2)]⟩)] g nobody R = F31 s0a s0l s0c s1 s2 x0 x1a x1l x1c x2 g R := by kernel_rfl
theorem call31 (s0a : Option Addr) (s0l : Nat) (s0c : Nat) (s1 : Int) (s2 : Int) (x0 : ByteArray) (x1a : Option Addr) (x1l : Nat) (x1c : Nat) (x2 : Bool) (g : G) (R : Value → G → Prop) (hF : F31 s0a s0l s0c s1 s2 x0 x1a x1l x1c x2 g R) : CallsG Try.prog 31 #[(.agg ⟨[(.slice s0a s0l s0c), (.int .i64 s1), (.int .i64 s2)]⟩), (.agg ⟨[(.string x0), (.slice x1a x1l x1c), (.bool x2)]⟩)] g nobody R :=
  fn_soundG (c := cfg31) TTok FNSok mixed Try.func31 (show Try.f31.body = some c31 by kernel_rfl) (show Try.f31.ntmps = 22 by kernel_rfl) (show Try.f31.results.toList = [.cell 4 24, .tmp 5] by kernel_rfl) rfl ((F31_eq s0a s0l s0c s1 s2 x0 x1a x1l x1c x2 g R).mpr hF)

/- 32 slices.Clone[[]byte,byte] -/
noncomputable def c32 : Code := match Try.f32.body with
  | some c => c
  | none => .skip
noncomputable def cfg32 : Cfg := ⟨Try.prog, TT, FNS, [], [], [], TCH, false, false⟩
def an32 : AnnG := (.seq .leaf (.seq (.seq .leaf (.cond (.seq .leaf .leaf) .leaf)) (.seq .leaf .leaf)))
def F32 (sa : Option Addr) (sl : Nat) (sc : Nat) (g : G) (R : Value → G → Prop) : Prop :=
  ifB sa.isNone
  (∀ g1 : G, Ex g g1 →
  R (.slice none 0 0) g1)
  (∀ g2 : G, NewL g g2 5 [] →
  ∃ xa : Option Addr, ∃ xl : Nat, ∃ xc : Nat, ∃ w1 : World, Sem.run Try.prog (Builtin.append_ #[22, 22] 22 #[(.slice (some ⟨g.w.heap.size, 0, none⟩) 0 0), (.slice sa sl sc)]) g2.w = .ok (.slice xa xl xc) w1 ∧ ∃ g3 : G, g3.w = w1 ∧ Stp g.w.heap.size nobody g2 g3 ∧ ∀ g4 : G, Ex g3 g4 →
  R (.slice xa xl xc) g4)
theorem F32_eq (sa : Option Addr) (sl : Nat) (sc : Nat) (g : G) (R : Value → G → Prop) : fnG cfg32 8 [.tmp 2] c32 an32 [(.slice sa sl sc)] g nobody R = F32 sa sl sc g R := by kernel_rfl
theorem call32 (sa : Option Addr) (sl : Nat) (sc : Nat) (g : G) (R : Value → G → Prop) (hF : F32 sa sl sc g R) : CallsG Try.prog 32 #[(.slice sa sl sc)] g nobody R :=
  fn_soundG (c := cfg32) TTok FNSok mixed Try.func32 (show Try.f32.body = some c32 by kernel_rfl) (show Try.f32.ntmps = 8 by kernel_rfl) (show Try.f32.results.toList = [.tmp 2] by kernel_rfl) rfl ((F32_eq sa sl sc g R).mpr hF)

/- 33 slices.IndexFunc[[]int,int] -/
noncomputable def c33 : Code := match Try.f33.body with
  | some c => c
  | none => .skip
noncomputable def cfg33 : Cfg := ⟨Try.prog, TT, FNS, [], [], [], TCH, false, false⟩
def an33 : AnnG := (.seq .leaf (.seq (.seq .leaf (.blk (.loop ⟨[(8, .int .i64)], [], []⟩ (.seq .leaf (.seq (.cond .leaf .leaf) (.seq (.blk (.seq .leaf (.seq .leaf (.cond (.seq .leaf .leaf) .leaf)))) .leaf)))))) (.seq .leaf .leaf)))
def F33 (sa : Option Addr) (sl : Nat) (sc : Nat) (ff : FuncId) (fc : Array Value) (g : G) (R : Value → G → Prop) : Prop :=
  ∃ Inv : Nat → Int → G → Prop, ((∃ m0 : Nat, Inv m0 (0 : Int) g)) ∧
  ∀ m : Nat, ∀ v_1 : Int, ∀ g1 : G, Le g g1 → Inv m v_1 g1 →
  ifB (ltI v_1 ((sl : Nat) : Int))
  ((0 ≤ v_1 ∧ v_1 < ((sl : Nat) : Int)) ∧ derefP sa fun ad => ∃ x : Int, g1.w.cell? (Addr.add ad (Int.toNat v_1 * 1)) = some (.int .i64 x) ∧ Enters Try.prog ff ∧ (CallsP Try.prog ff ((⟨[(.int .i64 x)]⟩ : Array Value) ++ fc) g1 fun v g2 =>
  ∃ x_1 : Bool, v = (.bool x_1) ∧ ifB x_1
  (∀ g3 : G, Ex g2 g3 →
  R (.int .i64 v_1) g3)
  (InI64 (v_1 + (1 : Int)) ∧ (∃ m_1 : Nat, m_1 < m ∧ Inv m_1 (v_1 + (1 : Int)) g2))))
  (∀ g4 : G, Ex g1 g4 →
  R (.int .i64 (-1 : Int)) g4)
theorem F33_eq (sa : Option Addr) (sl : Nat) (sc : Nat) (ff : FuncId) (fc : Array Value) (g : G) (R : Value → G → Prop) : fnG cfg33 19 [.tmp 4] c33 an33 [(.slice sa sl sc), (.func (.func ff) #[] fc)] g nobody R = F33 sa sl sc ff fc g R := by kernel_rfl
theorem call33 (sa : Option Addr) (sl : Nat) (sc : Nat) (ff : FuncId) (fc : Array Value) (g : G) (R : Value → G → Prop) (hF : F33 sa sl sc ff fc g R) : CallsG Try.prog 33 #[(.slice sa sl sc), (.func (.func ff) #[] fc)] g nobody R :=
  fn_soundG (c := cfg33) TTok FNSok mixed Try.func33 (show Try.f33.body = some c33 by kernel_rfl) (show Try.f33.ntmps = 19 by kernel_rfl) (show Try.f33.results.toList = [.tmp 4] by kernel_rfl) rfl ((F33_eq sa sl sc ff fc g R).mpr hF)

/- 34 pilaster/pilasterlaw53.StoreTorn$1 -/
noncomputable def c34 : Code := match Try.f34.body with
  | some c => c
  | none => .skip
noncomputable def cfg34 : Cfg := ⟨Try.prog, TT, FNS, [], [], [], TCH, false, false⟩
def an34 : AnnG := (.seq .leaf (.seq .leaf .leaf))
def F34 (n : Int) (c0 : Option Addr) (g : G) (R : Value → G → Prop) : Prop :=
  derefP c0 fun ad => ∃ x : Int, g.w.cell? ad = some (.int .i64 x) ∧ ∀ g1 : G, Ex g g1 →
  R (.bool (ltI x n)) g1
theorem F34_eq (n : Int) (c0 : Option Addr) (g : G) (R : Value → G → Prop) : fnG cfg34 7 [.tmp 3] c34 an34 [(.int .i64 n), (.pointer c0)] g nobody R = F34 n c0 g R := by kernel_rfl
theorem call34 (n : Int) (c0 : Option Addr) (g : G) (R : Value → G → Prop) (hF : F34 n c0 g R) : CallsG Try.prog 34 #[(.int .i64 n), (.pointer c0)] g nobody R :=
  fn_soundG (c := cfg34) TTok FNSok mixed Try.func34 (show Try.f34.body = some c34 by kernel_rfl) (show Try.f34.ntmps = 7 by kernel_rfl) (show Try.f34.results.toList = [.tmp 3] by kernel_rfl) rfl ((F34_eq n c0 g R).mpr hF)

/- 35 pilaster/store.Get -/
noncomputable def c35 : Code := match Try.f35.body with
  | some c => c
  | none => .skip
noncomputable def cfg35 : Cfg := ⟨Try.prog, TT, FNS, [2], [(2, 2)], [], TCH, false, false⟩
def an35 : AnnG := (.seq .leaf (.seq (.blk (.seq .leaf (.cond (.seq .leaf .leaf) (.seq .leaf (.cond (.seq .leaf .leaf) .leaf))))) (.seq .leaf (.seq .leaf (.seq (.seq .leaf (.cond (.seq .leaf .leaf) .leaf)) (.seq .leaf .leaf))))))
def F35 (s0a : Option Addr) (s0l : Nat) (s0c : Nat) (s1 : Int) (s2 : Int) (k : ByteArray) (g : G) (R : Value → G → Prop) : Prop :=
  ∀ g1 : G, Ex g g1 →
  (CallsP Try.prog 24 #[(.agg ⟨[(.slice s0a s0l s0c), (.int .i64 s1), (.int .i64 s2)]⟩)] g1 fun v g2 =>
  ∃ x : Bool, v = (.bool x) ∧ ifB (!x)
  (∀ g3 : G, Ex g2 g3 →
  R (.tuple ⟨[(.slice none 0 0), (.int .i64 (1 : Int))]⟩) g3)
  ((CallsP Try.prog 43 #[(.string k)] g2 fun v g4 =>
  ∃ x_1 : Bool, v = (.bool x_1) ∧ ifB (!x_1)
  (∀ g5 : G, Ex g4 g5 →
  R (.tuple ⟨[(.slice none 0 0), (.int .i64 (2 : Int))]⟩) g5)
  ((CallsP Try.prog 44 #[(.agg ⟨[(.slice s0a s0l s0c), (.int .i64 s1), (.int .i64 s2)]⟩)] g4 fun v g6 =>
  ∃ x0 : Option Nat, ∃ x1 : Int, v = (.tuple ⟨[(.map x0), (.int .i64 x1)]⟩) ∧ ∃ x0a : Option Addr, ∃ x0l : Nat, ∃ x0c : Nat, ∃ x1_1 : Bool, ∃ w1 : World, Sem.run Try.prog (Instr.lookup 79 (.map x0) (.string k) true) g6.w = .ok (.tuple ⟨[(.slice x0a x0l x0c), (.bool x1_1)]⟩) w1 ∧ ∃ g7 : G, g7.w = w1 ∧ Stp g.w.heap.size nobody g6 g7 ∧ ifB (!x1_1)
  (∀ g8 : G, Ex g7 g8 →
  R (.tuple ⟨[(.slice none 0 0), (.int .i64 (8 : Int))]⟩) g8)
  ((CallsP Try.prog 49 #[(.slice x0a x0l x0c)] g7 fun v g9 =>
  ∃ xa : Option Addr, ∃ xl : Nat, ∃ xc : Nat, v = (.slice xa xl xc) ∧ ∀ g10 : G, Ex g9 g10 →
  R (.tuple ⟨[(.slice xa xl xc), (.int .i64 (0 : Int))]⟩) g10)))))))
theorem F35_eq (s0a : Option Addr) (s0l : Nat) (s0c : Nat) (s1 : Int) (s2 : Int) (k : ByteArray) (g : G) (R : Value → G → Prop) : fnG cfg35 33 [.tmp 4, .tmp 5] c35 an35 [(.agg ⟨[(.slice s0a s0l s0c), (.int .i64 s1), (.int .i64 s2)]⟩), (.string k)] g nobody R = F35 s0a s0l s0c s1 s2 k g R := by kernel_rfl
theorem call35 (s0a : Option Addr) (s0l : Nat) (s0c : Nat) (s1 : Int) (s2 : Int) (k : ByteArray) (g : G) (R : Value → G → Prop) (hF : F35 s0a s0l s0c s1 s2 k g R) : CallsG Try.prog 35 #[(.agg ⟨[(.slice s0a s0l s0c), (.int .i64 s1), (.int .i64 s2)]⟩), (.string k)] g nobody R :=
  fn_soundG (c := cfg35) TTok FNSok mixed Try.func35 (show Try.f35.body = some c35 by kernel_rfl) (show Try.f35.ntmps = 33 by kernel_rfl) (show Try.f35.results.toList = [.tmp 4, .tmp 5] by kernel_rfl) rfl ((F35_eq s0a s0l s0c s1 s2 k g R).mpr hF)

/- 36 pilaster/store.Keys -/
noncomputable def c36 : Code := match Try.f36.body with
  | some c => c
  | none => .skip
noncomputable def cfg36 : Cfg := ⟨Try.prog, TT, FNS, [1], [(1, 1)], [], TCH, false, false⟩
def an36 : AnnG := (.seq .leaf (.seq (.seq .leaf (.cond (.seq .leaf .leaf) .leaf)) (.seq .leaf (.seq .leaf .leaf))))
def F36 (s0a : Option Addr) (s0l : Nat) (s0c : Nat) (s1 : Int) (s2 : Int) (g : G) (R : Value → G → Prop) : Prop :=
  ∀ g1 : G, Ex g g1 →
  (CallsP Try.prog 24 #[(.agg ⟨[(.slice s0a s0l s0c), (.int .i64 s1), (.int .i64 s2)]⟩)] g1 fun v g2 =>
  ∃ x : Bool, v = (.bool x) ∧ ifB (!x)
  (∀ g3 : G, Ex g2 g3 →
  R (.tuple ⟨[(.slice none 0 0), (.int .i64 (1 : Int))]⟩) g3)
  ((CallsP Try.prog 44 #[(.agg ⟨[(.slice s0a s0l s0c), (.int .i64 s1), (.int .i64 s2)]⟩)] g2 fun v g4 =>
  ∃ x0 : Option Nat, ∃ x1 : Int, v = (.tuple ⟨[(.map x0), (.int .i64 x1)]⟩) ∧ (CallsP Try.prog 52 #[(.map x0)] g4 fun v g5 =>
  ∃ xf : FuncId, ∃ xc : Array Value, v = (.func (.func xf) #[] xc) ∧ (CallsP Try.prog 40 #[(.func (.func xf) #[] xc)] g5 fun v g6 =>
  ∃ xa : Option Addr, ∃ xl : Nat, ∃ xc_1 : Nat, v = (.slice xa xl xc_1) ∧ ∀ g7 : G, Ex g6 g7 →
  R (.tuple ⟨[(.slice xa xl xc_1), (.int .i64 (0 : Int))]⟩) g7)))))
theorem F36_eq (s0a : Option Addr) (s0l : Nat) (s0c : Nat) (s1 : Int) (s2 : Int) (g : G) (R : Value → G → Prop) : fnG cfg36 17 [.tmp 2, .tmp 3] c36 an36 [(.agg ⟨[(.slice s0a s0l s0c), (.int .i64 s1), (.int .i64 s2)]⟩)] g nobody R = F36 s0a s0l s0c s1 s2 g R := by kernel_rfl
theorem call36 (s0a : Option Addr) (s0l : Nat) (s0c : Nat) (s1 : Int) (s2 : Int) (g : G) (R : Value → G → Prop) (hF : F36 s0a s0l s0c s1 s2 g R) : CallsG Try.prog 36 #[(.agg ⟨[(.slice s0a s0l s0c), (.int .i64 s1), (.int .i64 s2)]⟩)] g nobody R :=
  fn_soundG (c := cfg36) TTok FNSok mixed Try.func36 (show Try.f36.body = some c36 by kernel_rfl) (show Try.f36.ntmps = 17 by kernel_rfl) (show Try.f36.results.toList = [.tmp 2, .tmp 3] by kernel_rfl) rfl ((F36_eq s0a s0l s0c s1 s2 g R).mpr hF)

/- 37 pilaster/pilasterref53.Compact -/
noncomputable def c37 : Code := match Try.f37.body with
  | some c => c
  | none => .skip
noncomputable def cfg37 : Cfg := ⟨Try.prog, TT, FNS, [1, 2, 4], [(1, 1), (2, 2), (4, 4), (8, 1), (17, 4), (31, 4), (32, 4), (35, 4)], [], TCH, false, false⟩
def an37 : AnnG := (.seq .leaf (.seq .leaf (.seq .leaf (.seq (.seq .leaf (.blk (.loop ⟨[(5, .int .i64)], [(4, 4, 0)], [(4, [(.sl), (.int .i64), (.int .i64)])]⟩ (.seq (.seq .leaf (.cond .leaf .leaf)) (.seq (.blk (.tree 13 (.quiet 0 (.quiet 1 (.quiet 2 (.quiet 3 (.quiet 4 (.quiet 5 (.quiet 6 (.quiet 7 (.quiet 8 (.quiet 9 (.quiet 10 (.quiet 11 (.eff 12 .fin .fin))))))))))))))) .leaf))))) (.seq .leaf (.seq .leaf .leaf))))))
def F37 (s0a : Option Addr) (s0l : Nat) (s0c : Nat) (s1 : Int) (s2 : Int) (g : G) (R : Value → G → Prop) : Prop :=
  ∀ g1 : G, Ex g g1 →
  (CallsP Try.prog 21 #[(.agg ⟨[(.slice s0a s0l s0c), (.int .i64 s1), (.int .i64 s2)]⟩)] g1 fun v g2 =>
  ∃ la : Option Addr, ∃ ll : Nat, ∃ lc : Nat, v = (.slice la ll lc) ∧ ∃ Inv : Nat → Int → Option Addr → Nat → Nat → Int → Int → G → Prop, (∀ g3 : G, Ex g2 g3 →
  (∃ m0 : Nat, Inv m0 (0 : Int) none 0 0 (0 : Int) s2 g3)) ∧
  ∀ m : Nat, ∀ i : Int, ∀ out0a : Option Addr, ∀ out0l : Nat, ∀ out0c : Nat, ∀ out1 : Int, ∀ out2 : Int, ∀ g4 : G, Le g2 g4 → Inv m i out0a out0l out0c out1 out2 g4 →
  ifB (ltI i ((ll : Nat) : Int))
  (∀ g5 : G, Ex g4 g5 →
  (0 ≤ i ∧ i < ((ll : Nat) : Int)) ∧ derefP la fun ad => ∃ x : ByteArray, g5.w.cell? (Addr.add ad (Int.toNat i * 2)) = some (.string x) ∧ (0 ≤ i ∧ i < ((ll : Nat) : Int)) ∧ derefP la fun ad_1 => ∃ xa : Option Addr, ∃ xl : Nat, ∃ xc : Nat, g5.w.cell? (Addr.add (Addr.add ad_1 (Int.toNat i * 2)) 1) = some (.slice xa xl xc) ∧ (CallsP Try.prog 18 #[(.int .i64 (1 : Int)), (.string x), (.slice xa xl xc)] g5 fun v g6 =>
  ∃ xa_1 : Option Addr, ∃ xl_1 : Nat, ∃ xc_1 : Nat, v = (.slice xa_1 xl_1 xc_1) ∧ ∃ xa_2 : Option Addr, ∃ xl_2 : Nat, ∃ xc_2 : Nat, ∃ w1 : World, Sem.run Try.prog (Builtin.append_ #[22, 22] 22 #[(.slice out0a out0l out0c), (.slice xa_1 xl_1 xc_1)]) g6.w = .ok (.slice xa_2 xl_2 xc_2) w1 ∧ ∃ g7 : G, g7.w = w1 ∧ Stp g.w.heap.size nobody g6 g7 ∧ InI64 (i + (1 : Int)) ∧ ∀ g8 : G, Ex g7 g8 →
  (∃ m_1 : Nat, m_1 < m ∧ Inv m_1 (i + (1 : Int)) xa_2 xl_2 xc_2 out1 out2 g8)))
  (∀ g9 : G, Ex g4 g9 →
  R (.agg ⟨[(.slice out0a out0l out0c), (.int .i64 ((out0l : Nat) : Int)), (.int .i64 out2)]⟩) g9))
theorem F37_eq (s0a : Option Addr) (s0l : Nat) (s0c : Nat) (s1 : Int) (s2 : Int) (g : G) (R : Value → G → Prop) : fnG cfg37 37 [.cell 2 24] c37 an37 [(.agg ⟨[(.slice s0a s0l s0c), (.int .i64 s1), (.int .i64 s2)]⟩)] g nobody R = F37 s0a s0l s0c s1 s2 g R := by kernel_rfl
theorem call37 (s0a : Option Addr) (s0l : Nat) (s0c : Nat) (s1 : Int) (s2 : Int) (g : G) (R : Value → G → Prop) (hF : F37 s0a s0l s0c s1 s2 g R) : CallsG Try.prog 37 #[(.agg ⟨[(.slice s0a s0l s0c), (.int .i64 s1), (.int .i64 s2)]⟩)] g nobody R :=
  fn_soundG (c := cfg37) TTok FNSok mixed Try.func37 (show Try.f37.body = some c37 by kernel_rfl) (show Try.f37.ntmps = 37 by kernel_rfl) (show Try.f37.results.toList = [.cell 2 24] by kernel_rfl) rfl ((F37_eq s0a s0l s0c s1 s2 g R).mpr hF)

/- 38 pilaster/pilasterref53.SameBytes -/
noncomputable def c38 : Code := match Try.f38.body with
  | some c => c
  | none => .skip
noncomputable def cfg38 : Cfg := ⟨Try.prog, TT, FNS, [], [], [], TCH, false, false⟩
def an38 : AnnG := (.seq .leaf (.seq .leaf .leaf))
def F38 (aa : Option Addr) (al : Nat) (ac : Nat) (ba : Option Addr) (bl : Nat) (bc : Nat) (g : G) (R : Value → G → Prop) : Prop :=
  ∃ x : ByteArray, ∃ w1 : World, Sem.run Try.prog (convert 22 9 (.slice aa al ac)) g.w = .ok (.string x) w1 ∧ ∃ g1 : G, g1.w = w1 ∧ Stp g.w.heap.size nobody g g1 ∧ ∃ x_1 : ByteArray, ∃ w2 : World, Sem.run Try.prog (convert 22 9 (.slice ba bl bc)) g1.w = .ok (.string x_1) w2 ∧ ∃ g2 : G, g2.w = w2 ∧ Stp g.w.heap.size nobody g1 g2 ∧ ∀ g3 : G, Ex g2 g3 →
  R (.bool (strEq x x_1)) g3
theorem F38_eq (aa : Option Addr) (al : Nat) (ac : Nat) (ba : Option Addr) (bl : Nat) (bc : Nat) (g : G) (R : Value → G → Prop) : fnG cfg38 10 [.tmp 4] c38 an38 [(.slice aa al ac), (.slice ba bl bc)] g nobody R = F38 aa al ac ba bl bc g R := by kernel_rfl
theorem call38 (aa : Option Addr) (al : Nat) (ac : Nat) (ba : Option Addr) (bl : Nat) (bc : Nat) (g : G) (R : Value → G → Prop) (hF : F38 aa al ac ba bl bc g R) : CallsG Try.prog 38 #[(.slice aa al ac), (.slice ba bl bc)] g nobody R :=
  fn_soundG (c := cfg38) TTok FNSok mixed Try.func38 (show Try.f38.body = some c38 by kernel_rfl) (show Try.f38.ntmps = 10 by kernel_rfl) (show Try.f38.results.toList = [.tmp 4] by kernel_rfl) rfl ((F38_eq aa al ac ba bl bc g R).mpr hF)

/- 39 slices.Equal[[]string,string] -/
noncomputable def c39 : Code := match Try.f39.body with
  | some c => c
  | none => .skip
noncomputable def cfg39 : Cfg := ⟨Try.prog, TT, FNS, [], [], [], TCH, false, false⟩
def an39 : AnnG := (.seq .leaf (.seq (.seq .leaf (.cond (.seq .leaf .leaf) .leaf)) (.seq (.seq .leaf (.blk (.loop ⟨[(13, .int .i64)], [], []⟩ (.seq .leaf (.seq (.cond .leaf .leaf) (.seq (.blk (.seq .leaf (.seq (.tree 8 (.quiet 0 (.quiet 1 (.quiet 2 (.quiet 3 (.quiet 4 (.quiet 5 (.quiet 6 (.quiet 7 .fin))))))))) (.cond (.seq .leaf .leaf) .leaf)))) .leaf)))))) (.seq .leaf .leaf))))
def F39 (s1a : Option Addr) (s1l : Nat) (s1c : Nat) (s2a : Option Addr) (s2l : Nat) (s2c : Nat) (g : G) (R : Value → G → Prop) : Prop :=
  ifB (!eqI ((s1l : Nat) : Int) ((s2l : Nat) : Int))
  (∀ g1 : G, Ex g g1 →
  R (.bool false) g1)
  (∃ Inv : Nat → Int → G → Prop, ((∃ m0 : Nat, Inv m0 (0 : Int) g)) ∧
  ∀ m : Nat, ∀ v_1 : Int, ∀ g2 : G, Le g g2 → Inv m v_1 g2 →
  ifB (ltI v_1 ((s1l : Nat) : Int))
  (∀ g3 : G, Ex g2 g3 →
  (0 ≤ v_1 ∧ v_1 < ((s1l : Nat) : Int)) ∧ derefP s1a fun ad => ∃ x : ByteArray, g3.w.cell? (Addr.add ad (Int.toNat v_1 * 1)) = some (.string x) ∧ (0 ≤ v_1 ∧ v_1 < ((s2l : Nat) : Int)) ∧ derefP s2a fun ad_1 => ∃ x_1 : ByteArray, g3.w.cell? (Addr.add ad_1 (Int.toNat v_1 * 1)) = some (.string x_1) ∧ ifB (!strEq x x_1)
  (∀ g4 : G, Ex g3 g4 →
  R (.bool false) g4)
  (InI64 (v_1 + (1 : Int)) ∧ (∃ m_1 : Nat, m_1 < m ∧ Inv m_1 (v_1 + (1 : Int)) g3)))
  (∀ g5 : G, Ex g2 g5 →
  R (.bool true) g5))
theorem F39_eq (s1a : Option Addr) (s1l : Nat) (s1c : Nat) (s2a : Option Addr) (s2l : Nat) (s2c : Nat) (g : G) (R : Value → G → Prop) : fnG cfg39 26 [.tmp 4] c39 an39 [(.slice s1a s1l s1c), (.slice s2a s2l s2c)] g nobody R = F39 s1a s1l s1c s2a s2l s2c g R := by kernel_rfl
theorem call39 (s1a : Option Addr) (s1l : Nat) (s1c : Nat) (s2a : Option Addr) (s2l : Nat) (s2c : Nat) (g : G) (R : Value → G → Prop) (hF : F39 s1a s1l s1c s2a s2l s2c g R) : CallsG Try.prog 39 #[(.slice s1a s1l s1c), (.slice s2a s2l s2c)] g nobody R :=
  fn_soundG (c := cfg39) TTok FNSok mixed Try.func39 (show Try.f39.body = some c39 by kernel_rfl) (show Try.f39.ntmps = 26 by kernel_rfl) (show Try.f39.results.toList = [.tmp 4] by kernel_rfl) rfl ((F39_eq s1a s1l s1c s2a s2l s2c g R).mpr hF)

/- 40 slices.Sorted[string] -/
noncomputable def c40 : Code := match Try.f40.body with
  | some c => c
  | none => .skip
noncomputable def cfg40 : Cfg := ⟨Try.prog, TT, FNS, [], [], [], TCH, false, false⟩
def an40 : AnnG := (.seq .leaf (.seq .leaf (.seq .leaf (.seq .leaf .leaf))))
def F40 (seqf : FuncId) (seqc : Array Value) (g : G) (R : Value → G → Prop) : Prop :=
  (CallsP Try.prog 53 #[(.func (.func seqf) #[] seqc)] g fun v g1 =>
  ∃ sa : Option Addr, ∃ sl : Nat, ∃ sc : Nat, v = (.slice sa sl sc) ∧ (CallsP Try.prog 54 #[(.slice sa sl sc)] g1 fun v g2 =>
  v = (.tuple ⟨[]⟩) ∧ ∀ g3 : G, Ex g2 g3 →
  R (.slice sa sl sc) g3))
theorem F40_eq (seqf : FuncId) (seqc : Array Value) (g : G) (R : Value → G → Prop) : fnG cfg40 9 [.tmp 2] c40 an40 [(.func (.func seqf) #[] seqc)] g nobody R = F40 seqf seqc g R := by kernel_rfl
theorem call40 (seqf : FuncId) (seqc : Array Value) (g : G) (R : Value → G → Prop) (hF : F40 seqf seqc g R) : CallsG Try.prog 40 #[(.func (.func seqf) #[] seqc)] g nobody R :=
  fn_soundG (c := cfg40) TTok FNSok mixed Try.func40 (show Try.f40.body = some c40 by kernel_rfl) (show Try.f40.ntmps = 9 by kernel_rfl) (show Try.f40.results.toList = [.tmp 2] by kernel_rfl) rfl ((F40_eq seqf seqc g R).mpr hF)

/- 41 maps.Keys[map[string]string,string,string] -/
noncomputable def c41 : Code := match Try.f41.body with
  | some c => c
  | none => .skip
noncomputable def cfg41 : Cfg := ⟨Try.prog, TT, FNS, [], [], [1], TCH, false, false⟩
def an41 : AnnG := (.seq .leaf (.seq .leaf .leaf))
def F41 (m : Option Nat) (g : G) (R : Value → G → Prop) : Prop :=
  ∀ g1 : G, NewL g g1 71 ([(.map m)] : List Value) →
  ∀ g2 : G, Ex g1 g2 →
  R (.func (.func 55) #[] ⟨[(.pointer (some ⟨g.w.heap.size, 0, none⟩))]⟩) g2
theorem F41_eq (m : Option Nat) (g : G) (R : Value → G → Prop) : fnG cfg41 4 [.tmp 2] c41 an41 [(.map m)] g nobody R = F41 m g R := by kernel_rfl
theorem call41 (m : Option Nat) (g : G) (R : Value → G → Prop) (hF : F41 m g R) : CallsG Try.prog 41 #[(.map m)] g nobody R :=
  fn_soundG (c := cfg41) TTok FNSok mixed Try.func41 (show Try.f41.body = some c41 by kernel_rfl) (show Try.f41.ntmps = 4 by kernel_rfl) (show Try.f41.results.toList = [.tmp 2] by kernel_rfl) rfl ((F41_eq m g R).mpr hF)

/- 42 pilaster/pilasterref53.Sum -/
noncomputable def c42 : Code := match Try.f42.body with
  | some c => c
  | none => .skip
noncomputable def cfg42 : Cfg := ⟨Try.prog, TT, FNS, [], [], [], TCH, false, false⟩
def an42 : AnnG := (.seq .leaf (.seq .leaf (.seq (.seq .leaf (.blk (.loop ⟨[(3, .int .i64), (4, .int .i64)], [], []⟩ (.seq (.seq .leaf (.cond .leaf .leaf)) (.seq (.blk (.seq .leaf (.seq .leaf (.blk (.loop ⟨[(3, .int .i64), (5, .int .i64)], [], []⟩ (.seq (.seq .leaf (.cond .leaf .leaf)) (.seq (.blk (.seq .leaf (.cond .leaf .leaf))) .leaf))))))) .leaf))))) (.seq .leaf .leaf))))
def F42 (ba : Option Addr) (bl : Nat) (bc : Nat) (g : G) (R : Value → G → Prop) : Prop :=
  ∃ Inv : Nat → Int → Int → G → Prop, ((∃ m0 : Nat, Inv m0 (4294967295 : Int) (0 : Int) g)) ∧
  ∀ m : Nat, ∀ c : Int, ∀ i : Int, ∀ g1 : G, Le g g1 → Inv m c i g1 →
  ifB (ltI i ((bl : Nat) : Int))
  ((0 ≤ i ∧ i < ((bl : Nat) : Int)) ∧ derefP ba fun ad => ∃ x : Int, g1.w.cell? (Addr.add ad (Int.toNat i * 1)) = some (.int .u8 x) ∧ InI64 x ∧ ∃ Inv_1 : Nat → Int → Int → G → Prop, ((∃ m0 : Nat, Inv_1 m0 (bits BinOp.xor IntKind.i64 c x) (0 : Int) g1)) ∧
  ∀ m_2 : Nat, ∀ c_1 : Int, ∀ k : Int, ∀ g2 : G, Le g1 g2 → Inv_1 m_2 c_1 k g2 →
  ifB (ltI k (8 : Int))
  ((2 : Int) ≠ 0 ∧ ifB (eqI (Int.tmod c_1 (2 : Int)) (1 : Int))
  ((2 : Int) ≠ 0 ∧ InI64 (Int.tdiv c_1 (2 : Int)) ∧ InI64 (k + (1 : Int)) ∧ (∃ m_3 : Nat, m_3 < m_2 ∧ Inv_1 m_3 (bits BinOp.xor IntKind.i64 (Int.tdiv c_1 (2 : Int)) (3988292384 : Int)) (k + (1 : Int)) g2))
  ((2 : Int) ≠ 0 ∧ InI64 (Int.tdiv c_1 (2 : Int)) ∧ InI64 (k + (1 : Int)) ∧ (∃ m_3 : Nat, m_3 < m_2 ∧ Inv_1 m_3 (Int.tdiv c_1 (2 : Int)) (k + (1 : Int)) g2)))
  (InI64 (i + (1 : Int)) ∧ (∃ m_1 : Nat, m_1 < m ∧ Inv m_1 c_1 (i + (1 : Int)) g2)))
  (∀ g3 : G, Ex g1 g3 →
  R (.int .i64 (bits BinOp.xor IntKind.i64 c (4294967295 : Int))) g3)
theorem F42_eq (ba : Option Addr) (bl : Nat) (bc : Nat) (g : G) (R : Value → G → Prop) : fnG cfg42 33 [.tmp 2] c42 an42 [(.slice ba bl bc)] g nobody R = F42 ba bl bc g R := by kernel_rfl
theorem call42 (ba : Option Addr) (bl : Nat) (bc : Nat) (g : G) (R : Value → G → Prop) (hF : F42 ba bl bc g R) : CallsG Try.prog 42 #[(.slice ba bl bc)] g nobody R :=
  fn_soundG (c := cfg42) TTok FNSok mixed Try.func42 (show Try.f42.body = some c42 by kernel_rfl) (show Try.f42.ntmps = 33 by kernel_rfl) (show Try.f42.results.toList = [.tmp 2] by kernel_rfl) rfl ((F42_eq ba bl bc g R).mpr hF)

/- 43 pilaster/store.key -/
noncomputable def c43 : Code := match Try.f43.body with
  | some c => c
  | none => .skip
noncomputable def cfg43 : Cfg := ⟨Try.prog, TT, FNS, [], [], [], TCH, false, false⟩
def an43 : AnnG := (.seq .leaf (.seq .leaf .leaf))
def F43 (s : ByteArray) (g : G) (R : Value → G → Prop) : Prop :=
  ifB (leI (1 : Int) ((s.size : Nat) : Int))
  (∀ g1 : G, Ex g g1 →
  R (.bool (leI ((s.size : Nat) : Int) (100 : Int))) g1)
  (∀ g2 : G, Ex g g2 →
  R (.bool false) g2)
theorem F43_eq (s : ByteArray) (g : G) (R : Value → G → Prop) : fnG cfg43 11 [.tmp 2] c43 an43 [(.string s)] g nobody R = F43 s g R := by kernel_rfl
theorem call43 (s : ByteArray) (g : G) (R : Value → G → Prop) (hF : F43 s g R) : CallsG Try.prog 43 #[(.string s)] g nobody R :=
  fn_soundG (c := cfg43) TTok FNSok mixed Try.func43 (show Try.f43.body = some c43 by kernel_rfl) (show Try.f43.ntmps = 11 by kernel_rfl) (show Try.f43.results.toList = [.tmp 2] by kernel_rfl) rfl ((F43_eq s g R).mpr hF)

/- 44 pilaster/store.read -/
noncomputable def c44 : Code := match Try.f44.body with
  | some c => c
  | none => .skip
noncomputable def cfg44 : Cfg := ⟨Try.prog, TT, FNS, [1], [(1, 1), (11, 1)], [], TCH, false, false⟩
def an44 : AnnG := (.seq .leaf (.seq .leaf (.seq .leaf (.blk (.loop ⟨[], [], []⟩ (.blk (.seq .leaf (.seq (.seq .leaf (.cond (.seq (.tree 6 (.quiet 0 (.quiet 1 (.quiet 2 (.quiet 3 (.quiet 4 (.quiet 5 .fin))))))) .leaf) .leaf)) (.seq .leaf (.seq .leaf (.seq .leaf (.cond .leaf .leaf))))))))))))
def F44 (s0a : Option Addr) (s0l : Nat) (s0c : Nat) (s1 : Int) (s2 : Int) (g : G) (R : Value → G → Prop) : Prop :=
  ∀ g1 : G, Ex g g1 →
  ∀ g2 : G, NewM g1 g2 →
  ∀ g3 : G, NewD g2 g3 95 ([(.slice s0a s0l s0c), (.int .i64 (0 : Int))] : List Value) →
  ∃ Inv : Nat → G → Prop, ((∃ m0 : Nat, Inv m0 g3)) ∧
  ∀ m : Nat, ∀ g4 : G, Le g3 g4 → Inv m g4 →
  ∃ M1 : Nat → Prop, (∀ b, b < g.w.heap.size → M1 b → nobody b) ∧ (CallsG Try.prog 56 #[(.pointer (some ⟨g2.w.heap.size, 0, none⟩))] g4 M1 fun v g5 =>
  ∃ x0a : Option Addr, ∃ x0l : Nat, ∃ x0c : Nat, ∃ x1 : Bool, v = (.tuple ⟨[(.slice x0a x0l x0c), (.bool x1)]⟩) ∧ ifB (!x1)
  (∀ g6 : G, Ex g5 g6 →
  ∃ x : Int, g6.w.cell? (Addr.add ⟨g2.w.heap.size, 0, none⟩ 1) = some (.int .i64 x) ∧ ∀ g7 : G, Ex g6 g7 →
  R (.tuple ⟨[(.map (some g1.w.heap.size)), (.int .i64 x)]⟩) g7)
  ((0 ≤ (3 : Int) ∧ (3 : Int) ≤ ((x0c : Nat) : Int)) ∧ (0 ≤ (1 : Int) ∧ (1 : Int) ≤ (((Int.toNat (3 : Int)) : Nat) : Int)) ∧ (CallsP Try.prog 57 #[(.slice (slAddr x0a x0c (Int.toNat (1 : Int)) 1) ((Int.toNat (3 : Int)) - (Int.toNat (1 : Int))) (x0c - (Int.toNat (1 : Int))))] g5 fun v g8 =>
  ∃ k : Int, v = (.int .i64 k) ∧ InI64 ((3 : Int) + k) ∧ (0 ≤ ((3 : Int) + k) ∧ ((3 : Int) + k) ≤ ((x0c : Nat) : Int)) ∧ (0 ≤ (3 : Int) ∧ (3 : Int) ≤ (((Int.toNat ((3 : Int) + k)) : Nat) : Int)) ∧ ∃ key : ByteArray, ∃ w1 : World, Sem.run Try.prog (convert 22 9 (.slice (slAddr x0a x0c (Int.toNat (3 : Int)) 1) ((Int.toNat ((3 : Int) + k)) - (Int.toNat (3 : Int))) (x0c - (Int.toNat (3 : Int))))) g8.w = .ok (.string key) w1 ∧ ∃ g9 : G, g9.w = w1 ∧ Stp g.w.heap.size nobody g8 g9 ∧ (0 ≤ (0 : Int) ∧ (0 : Int) < ((x0l : Nat) : Int)) ∧ derefP x0a fun ad => ∃ x_1 : Int, g9.w.cell? (Addr.add ad (Int.toNat (0 : Int) * 1)) = some (.int .u8 x_1) ∧ ifB (eqI x_1 (1 : Int))
  (InI64 ((3 : Int) + k) ∧ (0 ≤ ((3 : Int) + k) ∧ ((3 : Int) + k) ≤ ((x0l : Nat) : Int)) ∧ ∃ w2 : World, Sem.run Try.prog (Instr.mapUpdate 79 (.map (some g1.w.heap.size)) (.string key) (.slice (slAddr x0a x0c (Int.toNat ((3 : Int) + k)) 1) (x0l - (Int.toNat ((3 : Int) + k))) (x0c - (Int.toNat ((3 : Int) + k))))) g9.w = .ok () w2 ∧ ∃ g10 : G, g10.w = w2 ∧ Stp g.w.heap.size nobody g9 g10 ∧ (∃ m_1 : Nat, m_1 < m ∧ Inv m_1 g10))
  (∃ w3 : World, Sem.run Try.prog (Builtin.delete_ #[79, 9] 0 #[(.map (some g1.w.heap.size)), (.string key)]) g9.w = .ok (.tuple ⟨[]⟩) w3 ∧ ∃ g11 : G, g11.w = w3 ∧ Stp g.w.heap.size nobody g9 g11 ∧ (∃ m_1 : Nat, m_1 < m ∧ Inv m_1 g11)))))
theorem F44_eq (s0a : Option Addr) (s0l : Nat) (s0c : Nat) (s1 : Int) (s2 : Int) (g : G) (R : Value → G → Prop) : fnG cfg44 47 [.tmp 2, .tmp 3] c44 an44 [(.agg ⟨[(.slice s0a s0l s0c), (.int .i64 s1), (.int .i64 s2)]⟩)] g nobody R = F44 s0a s0l s0c s1 s2 g R := by kernel_rfl
theorem call44 (s0a : Option Addr) (s0l : Nat) (s0c : Nat) (s1 : Int) (s2 : Int) (g : G) (R : Value → G → Prop) (hF : F44 s0a s0l s0c s1 s2 g R) : CallsG Try.prog 44 #[(.agg ⟨[(.slice s0a s0l s0c), (.int .i64 s1), (.int .i64 s2)]⟩)] g nobody R :=
  fn_soundG (c := cfg44) TTok FNSok mixed Try.func44 (show Try.f44.body = some c44 by kernel_rfl) (show Try.f44.ntmps = 47 by kernel_rfl) (show Try.f44.results.toList = [.tmp 2, .tmp 3] by kernel_rfl) rfl ((F44_eq s0a s0l s0c s1 s2 g R).mpr hF)

/- 45 pilaster/store.appended -/
noncomputable def c45 : Code := match Try.f45.body with
  | some c => c
  | none => .skip
noncomputable def cfg45 : Cfg := ⟨Try.prog, TT, FNS, [3, 6], [(3, 3), (6, 6), (21, 3), (30, 3)], [], TCH, false, false⟩
def an45 : AnnG := (.seq .leaf (.seq (.seq .leaf (.cond (.seq .leaf .leaf) .leaf)) (.seq .leaf (.seq .leaf (.seq .leaf (.seq (.seq .leaf (.blk (.loop ⟨[(39, .int .i64)], [(6, 6, 0)], [(6, [(.sl), (.int .i64), (.int .i64)])]⟩ (.seq .leaf (.seq (.cond .leaf .leaf) (.seq (.blk (.seq .leaf (.seq .leaf (.cond (.seq .leaf .leaf) .leaf)))) .leaf)))))) (.seq (.seq .leaf (.cond (.seq .leaf .leaf) .leaf)) (.seq .leaf (.seq .leaf .leaf)))))))))
def F45 (s0a : Option Addr) (s0l : Nat) (s0c : Nat) (s1 : Int) (s2 : Int) (end0 : Int) (ba : Option Addr) (bl : Nat) (bc : Nat) (g : G) (R : Value → G → Prop) : Prop :=
  InI64 (end0 + ((bl : Nat) : Int)) ∧ ifB (ltI (1048576 : Int) (end0 + ((bl : Nat) : Int)))
  (∀ g1 : G, Ex g g1 →
  ∀ g2 : G, Ex g1 g2 →
  R (.tuple ⟨[(.agg ⟨[(.slice none 0 0), (.int .i64 (0 : Int)), (.int .i64 (0 : Int))]⟩), (.int .i64 (5 : Int))]⟩) g2)
  (∀ g3 : G, Ex g g3 →
  ∀ g4 : G, NewD g3 g4 99 ([(.slice s0a s0l s0c), (.int .i64 s1), (.int .i64 s2)] : List Value) →
  (0 ≤ end0 ∧ end0 ≤ ((s0c : Nat) : Int)) ∧ (CallsP Try.prog 32 #[(.slice (slAddr s0a s0c 0 1) ((Int.toNat end0) - 0) (s0c - 0))] g4 fun v g5 =>
  ∃ xa : Option Addr, ∃ xl : Nat, ∃ xc : Nat, v = (.slice xa xl xc) ∧ stOk g5.w ⟨g3.w.heap.size, 0, none⟩ 1 ∧ ¬ g5.X (Addr.block ⟨g3.w.heap.size, 0, none⟩) ∧ mutAt g5 ⟨g3.w.heap.size, 0, none⟩ 1 ∧ ((Addr.block ⟨g3.w.heap.size, 0, none⟩) < g.w.heap.size → nobody (Addr.block ⟨g3.w.heap.size, 0, none⟩)) ∧ ∀ g6 : G, StG false g5 ⟨g3.w.heap.size, 0, none⟩ [(.slice xa xl xc)] g6 →
  stOk g6.w (Addr.add ⟨g3.w.heap.size, 0, none⟩ 1) 1 ∧ ¬ g6.X (Addr.block (Addr.add ⟨g3.w.heap.size, 0, none⟩ 1)) ∧ mutAt g6 (Addr.add ⟨g3.w.heap.size, 0, none⟩ 1) 1 ∧ ((Addr.block (Addr.add ⟨g3.w.heap.size, 0, none⟩ 1)) < g.w.heap.size → nobody (Addr.block (Addr.add ⟨g3.w.heap.size, 0, none⟩ 1))) ∧ ∀ g7 : G, StG false g6 (Addr.add ⟨g3.w.heap.size, 0, none⟩ 1) [(.int .i64 (minI s1 end0))] g7 →
  ∃ Inv : Nat → Int → Option Addr → Nat → Nat → Int → Int → G → Prop, ((∃ m0 : Nat, Inv m0 (0 : Int) none 0 0 (0 : Int) (0 : Int) g7)) ∧
  ∀ m : Nat, ∀ v_1 : Int, ∀ x0a : Option Addr, ∀ x0l : Nat, ∀ x0c : Nat, ∀ x1 : Int, ∀ x2 : Int, ∀ g8 : G, Le g7 g8 → Inv m v_1 x0a x0l x0c x1 x2 g8 →
  ifB (ltI v_1 ((bl : Nat) : Int))
  ((0 ≤ v_1 ∧ v_1 < ((bl : Nat) : Int)) ∧ derefP ba fun ad => ∃ x : Int, g8.w.cell? (Addr.add ad (Int.toNat v_1 * 1)) = some (.int .u8 x) ∧ ∃ M1 : Nat → Prop, (∀ b, b < g.w.heap.size → M1 b → nobody b) ∧ (CallsG Try.prog 58 #[(.pointer (some ⟨g3.w.heap.size, 0, none⟩)), (.int .u8 x)] g8 M1 fun v g9 =>
  ∃ x_1 : Bool, v = (.bool x_1) ∧ ifB (!x_1)
  (∃ x0a_1 : Option Addr, ∃ x0l_1 : Nat, ∃ x0c_1 : Nat, ∃ x1_1 : Int, ∃ x2_1 : Int, g9.w.cell? ⟨g3.w.heap.size, 0, none⟩ = some (.slice x0a_1 x0l_1 x0c_1) ∧ g9.w.cell? (Addr.add ⟨g3.w.heap.size, 0, none⟩ 1) = some (.int .i64 x1_1) ∧ g9.w.cell? (Addr.add ⟨g3.w.heap.size, 0, none⟩ 2) = some (.int .i64 x2_1) ∧ ∀ g10 : G, Ex g9 g10 →
  R (.tuple ⟨[(.agg ⟨[(.slice x0a_1 x0l_1 x0c_1), (.int .i64 x1_1), (.int .i64 x2_1)]⟩), (.int .i64 (30 : Int))]⟩) g10)
  (InI64 (v_1 + (1 : Int)) ∧ (∃ m_1 : Nat, m_1 < m ∧ Inv m_1 (v_1 + (1 : Int)) x0a x0l x0c x1 x2 g9))))
  ((CallsP Try.prog 59 #[(.pointer (some ⟨g3.w.heap.size, 0, none⟩))] g8 fun v g11 =>
  ∃ x_2 : Bool, v = (.bool x_2) ∧ ifB (!x_2)
  (∃ x0a_2 : Option Addr, ∃ x0l_2 : Nat, ∃ x0c_2 : Nat, ∃ x1_2 : Int, ∃ x2_2 : Int, g11.w.cell? ⟨g3.w.heap.size, 0, none⟩ = some (.slice x0a_2 x0l_2 x0c_2) ∧ g11.w.cell? (Addr.add ⟨g3.w.heap.size, 0, none⟩ 1) = some (.int .i64 x1_2) ∧ g11.w.cell? (Addr.add ⟨g3.w.heap.size, 0, none⟩ 2) = some (.int .i64 x2_2) ∧ ∀ g12 : G, Ex g11 g12 →
  R (.tuple ⟨[(.agg ⟨[(.slice x0a_2 x0l_2 x0c_2), (.int .i64 x1_2), (.int .i64 x2_2)]⟩), (.int .i64 (30 : Int))]⟩) g12)
  (∃ xa_1 : Option Addr, ∃ xl_1 : Nat, ∃ xc_1 : Nat, g11.w.cell? ⟨g3.w.heap.size, 0, none⟩ = some (.slice xa_1 xl_1 xc_1) ∧ stOk g11.w (Addr.add ⟨g3.w.heap.size, 0, none⟩ 1) 1 ∧ ¬ g11.X (Addr.block (Addr.add ⟨g3.w.heap.size, 0, none⟩ 1)) ∧ mutAt g11 (Addr.add ⟨g3.w.heap.size, 0, none⟩ 1) 1 ∧ ((Addr.block (Addr.add ⟨g3.w.heap.size, 0, none⟩ 1)) < g.w.heap.size → nobody (Addr.block (Addr.add ⟨g3.w.heap.size, 0, none⟩ 1))) ∧ ∀ g13 : G, StG false g11 (Addr.add ⟨g3.w.heap.size, 0, none⟩ 1) [(.int .i64 ((xl_1 : Nat) : Int))] g13 →
  ∃ x0a_3 : Option Addr, ∃ x0l_3 : Nat, ∃ x0c_3 : Nat, ∃ x1_3 : Int, ∃ x2_3 : Int, g13.w.cell? ⟨g3.w.heap.size, 0, none⟩ = some (.slice x0a_3 x0l_3 x0c_3) ∧ g13.w.cell? (Addr.add ⟨g3.w.heap.size, 0, none⟩ 1) = some (.int .i64 x1_3) ∧ g13.w.cell? (Addr.add ⟨g3.w.heap.size, 0, none⟩ 2) = some (.int .i64 x2_3) ∧ ∀ g14 : G, Ex g13 g14 →
  R (.tuple ⟨[(.agg ⟨[(.slice x0a_3 x0l_3 x0c_3), (.int .i64 x1_3), (.int .i64 x2_3)]⟩), (.int .i64 (0 : Int))]⟩) g14)))))
theorem F45_eq (s0a : Option Addr) (s0l : Nat) (s0c : Nat) (s1 : Int) (s2 : Int) (end0 : Int) (ba : Option Addr) (bl : Nat) (bc : Nat) (g : G) (R : Value → G → Prop) : fnG cfg45 73 [.cell 6 24, .tmp 7] c45 an45 [(.agg ⟨[(.slice s0a s0l s0c), (.int .i64 s1), (.int .i64 s2)]⟩), (.int .i64 end0), (.slice ba bl bc)] g nobody R = F45 s0a s0l s0c s1 s2 end0 ba bl bc g R := by kernel_rfl
theorem call45 (s0a : Option Addr) (s0l : Nat) (s0c : Nat) (s1 : Int) (s2 : Int) (end0 : Int) (ba : Option Addr) (bl : Nat) (bc : Nat) (g : G) (R : Value → G → Prop) (hF : F45 s0a s0l s0c s1 s2 end0 ba bl bc g R) : CallsG Try.prog 45 #[(.agg ⟨[(.slice s0a s0l s0c), (.int .i64 s1), (.int .i64 s2)]⟩), (.int .i64 end0), (.slice ba bl bc)] g nobody R :=
  fn_soundG (c := cfg45) TTok FNSok mixed Try.func45 (show Try.f45.body = some c45 by kernel_rfl) (show Try.f45.ntmps = 73 by kernel_rfl) (show Try.f45.results.toList = [.cell 6 24, .tmp 7] by kernel_rfl) rfl ((F45_eq s0a s0l s0c s1 s2 end0 ba bl bc g R).mpr hF)

/- 46 pilaster/store.record -/
noncomputable def c46 : Code := match Try.f46.body with
  | some c => c
  | none => .skip
noncomputable def cfg46 : Cfg := ⟨Try.prog, TT, FNS, [], [], [], TCH, false, false⟩
def an46 : AnnG := (.seq .leaf (.seq .leaf (.seq .leaf (.seq .leaf .leaf))))
def F46 (kind : Int) (key : ByteArray) (dataa : Option Addr) (datal : Nat) (datac : Nat) (g : G) (R : Value → G → Prop) : Prop :=
  0 ≤ (8 : Int) ∧ ∀ g1 : G, NewL g g1 5 [(.int .u8 kind), (.int .u8 (IntKind.u8.wrap (shrI IntKind.i64 ((key.size : Nat) : Int) (8 : Int)))), (.int .u8 (IntKind.u8.wrap ((key.size : Nat) : Int)))] →
  ∃ xa : Option Addr, ∃ xl : Nat, ∃ xc : Nat, ∃ w1 : World, Sem.run Try.prog (convert 9 22 (.string key)) g1.w = .ok (.slice xa xl xc) w1 ∧ ∃ g2 : G, g2.w = w1 ∧ Stp g.w.heap.size nobody g1 g2 ∧ ∀ g3 : G, NewL g2 g3 22 [(.slice (some ⟨g.w.heap.size, 0, none⟩) 3 3), (.slice xa xl xc), (.slice dataa datal datac)] →
  (CallsP Try.prog 60 #[(.slice (some ⟨g2.w.heap.size, 0, none⟩) 3 3)] g3 fun v g4 =>
  ∃ contentsa : Option Addr, ∃ contentsl : Nat, ∃ contentsc : Nat, v = (.slice contentsa contentsl contentsc) ∧ (CallsP Try.prog 61 #[(.int .u32 (IntKind.u32.wrap ((contentsl : Nat) : Int)))] g4 fun v g5 =>
  ∃ xa_1 : Option Addr, ∃ xl_1 : Nat, ∃ xc_1 : Nat, v = (.slice xa_1 xl_1 xc_1) ∧ ∃ outa : Option Addr, ∃ outl : Nat, ∃ outc : Nat, ∃ w2 : World, Sem.run Try.prog (Builtin.append_ #[22, 22] 22 #[(.slice xa_1 xl_1 xc_1), (.slice contentsa contentsl contentsc)]) g5.w = .ok (.slice outa outl outc) w2 ∧ ∃ g6 : G, g6.w = w2 ∧ Stp g.w.heap.size nobody g5 g6 ∧ (CallsP Try.prog 62 #[(.slice outa outl outc)] g6 fun v g7 =>
  ∃ x : Int, v = (.int .u32 x) ∧ (CallsP Try.prog 61 #[(.int .u32 x)] g7 fun v g8 =>
  ∃ xa_2 : Option Addr, ∃ xl_2 : Nat, ∃ xc_2 : Nat, v = (.slice xa_2 xl_2 xc_2) ∧ ∃ xa_3 : Option Addr, ∃ xl_3 : Nat, ∃ xc_3 : Nat, ∃ w3 : World, Sem.run Try.prog (Builtin.append_ #[22, 22] 22 #[(.slice outa outl outc), (.slice xa_2 xl_2 xc_2)]) g8.w = .ok (.slice xa_3 xl_3 xc_3) w3 ∧ ∃ g9 : G, g9.w = w3 ∧ Stp g.w.heap.size nobody g8 g9 ∧ ∀ g10 : G, Ex g9 g10 →
  R (.slice xa_3 xl_3 xc_3) g10))))
theorem F46_eq (kind : Int) (key : ByteArray) (dataa : Option Addr) (datal : Nat) (datac : Nat) (g : G) (R : Value → G → Prop) : fnG cfg46 34 [.tmp 6] c46 an46 [(.int .u8 kind), (.string key), (.slice dataa datal datac)] g nobody R = F46 kind key dataa datal datac g R := by kernel_rfl
theorem call46 (kind : Int) (key : ByteArray) (dataa : Option Addr) (datal : Nat) (datac : Nat) (g : G) (R : Value → G → Prop) (hF : F46 kind key dataa datal datac g R) : CallsG Try.prog 46 #[(.int .u8 kind), (.string key), (.slice dataa datal datac)] g nobody R :=
  fn_soundG (c := cfg46) TTok FNSok mixed Try.func46 (show Try.f46.body = some c46 by kernel_rfl) (show Try.f46.ntmps = 34 by kernel_rfl) (show Try.f46.results.toList = [.tmp 6] by kernel_rfl) rfl ((F46_eq kind key dataa datal datac g R).mpr hF)

/- 47 pilaster/pilasterref53.four -/
noncomputable def c47 : Code := match Try.f47.body with
  | some c => c
  | none => .skip
noncomputable def cfg47 : Cfg := ⟨Try.prog, TT, FNS, [], [], [], TCH, false, false⟩
def an47 : AnnG := (.seq .leaf (.seq .leaf .leaf))
def F47 (n : Int) (g : G) (R : Value → G → Prop) : Prop :=
  (16777216 : Int) ≠ 0 ∧ InI64 (Int.tdiv n (16777216 : Int)) ∧ (65536 : Int) ≠ 0 ∧ InI64 (Int.tdiv n (65536 : Int)) ∧ (256 : Int) ≠ 0 ∧ (256 : Int) ≠ 0 ∧ InI64 (Int.tdiv n (256 : Int)) ∧ (256 : Int) ≠ 0 ∧ (256 : Int) ≠ 0 ∧ ∀ g1 : G, NewL g g1 5 [(.int .u8 (IntKind.u8.wrap (Int.tdiv n (16777216 : Int)))), (.int .u8 (IntKind.u8.wrap (Int.tmod (Int.tdiv n (65536 : Int)) (256 : Int)))), (.int .u8 (IntKind.u8.wrap (Int.tmod (Int.tdiv n (256 : Int)) (256 : Int)))), (.int .u8 (IntKind.u8.wrap (Int.tmod n (256 : Int))))] →
  ∀ g2 : G, Ex g1 g2 →
  R (.slice (some ⟨g.w.heap.size, 0, none⟩) 4 4) g2
theorem F47_eq (n : Int) (g : G) (R : Value → G → Prop) : fnG cfg47 18 [.tmp 2] c47 an47 [(.int .i64 n)] g nobody R = F47 n g R := by kernel_rfl
theorem call47 (n : Int) (g : G) (R : Value → G → Prop) (hF : F47 n g R) : CallsG Try.prog 47 #[(.int .i64 n)] g nobody R :=
  fn_soundG (c := cfg47) TTok FNSok mixed Try.func47 (show Try.f47.body = some c47 by kernel_rfl) (show Try.f47.ntmps = 18 by kernel_rfl) (show Try.f47.results.toList = [.tmp 2] by kernel_rfl) rfl ((F47_eq n g R).mpr hF)

/- 48 pilaster/pilasterref53.first -/
noncomputable def c48 : Code := match Try.f48.body with
  | some c => c
  | none => .skip
noncomputable def cfg48 : Cfg := ⟨Try.prog, TT, FNS, [2], [(2, 2)], [], TCH, false, false⟩
def an48 : AnnG := (.seq .leaf (.seq (.seq .leaf (.cond (.seq .leaf .leaf) .leaf)) (.seq .leaf (.join ⟨[], [(2, 2, 0)], [(2, [(.int .i64), (.str), (.sl), (.int .i64)])]⟩ (.seq (.tree 19 (.quiet 0 (.quiet 1 (.quiet 2 (.quiet 3 (.quiet 4 (.quiet 5 (.quiet 6 (.quiet 7 (.quiet 8 (.quiet 9 (.quiet 10 (.quiet 11 (.quiet 12 (.quiet 13 (.quiet 15 (.quiet 16 (.quiet 17 (.quiet 18 (.eff 14 .fin .fin)))))))))))))))))))) (.cond (.seq .leaf .leaf) .leaf)) (.seq .leaf (.seq (.tree 9 (.quiet 0 (.quiet 1 (.quiet 2 (.quiet 3 (.quiet 4 (.quiet 5 (.quiet 6 (.quiet 7 (.quiet 8 .fin)))))))))) (.seq (.join ⟨[(84, .bool)], [], []⟩ .leaf (.cond (.seq .leaf .leaf) .leaf)) (.seq (.tree 15 (.quiet 0 (.quiet 1 (.quiet 2 (.quiet 3 (.quiet 4 (.quiet 5 (.quiet 6 (.quiet 7 (.quiet 9 (.quiet 10 (.quiet 11 (.quiet 12 (.quiet 13 (.quiet 14 (.eff 8 .fin .fin)))))))))))))))) .leaf))))))))
def F48 (ba : Option Addr) (bl : Nat) (bc : Nat) (g : G) (R : Value → G → Prop) : Prop :=
  ifB (ltI ((bl : Nat) : Int) (8 : Int))
  (∀ g1 : G, Ex g g1 →
  ∀ g2 : G, Ex g1 g2 →
  R (.agg ⟨[(.int .i64 (0 : Int)), (.string (bs [])), (.slice none 0 0), (.int .i64 (0 : Int))]⟩) g2)
  (∀ g3 : G, Ex g g3 →
  (CallsP Try.prog 63 #[(.slice ba bl bc)] g3 fun v g4 =>
  ∃ n : Int, v = (.int .i64 n) ∧ ∀ J : Int → ByteArray → Option Addr → Nat → Nat → Int → G → Prop,
  (∀ x0 : Int, ∀ x1 : ByteArray, ∀ x2a : Option Addr, ∀ x2l : Nat, ∀ x2c : Nat, ∀ x3 : Int, ∀ g5 : G, (InI64 (n + (4 : Int)) ∧ (0 ≤ (n + (4 : Int)) ∧ (n + (4 : Int)) ≤ ((bc : Nat) : Int)) ∧ (0 ≤ (4 : Int) ∧ (4 : Int) ≤ (((Int.toNat (n + (4 : Int))) : Nat) : Int)) ∧ ∀ g6 : G, Ex g5 g6 →
  (0 ≤ (1 : Int) ∧ (1 : Int) < ((((Int.toNat (n + (4 : Int))) - (Int.toNat (4 : Int))) : Nat) : Int)) ∧ derefP (slAddr ba bc (Int.toNat (4 : Int)) 1) fun ad => ∃ x : Int, g6.w.cell? (Addr.add ad (Int.toNat (1 : Int) * 1)) = some (.int .u8 x) ∧ InI64 x ∧ InI64 (x * (256 : Int)) ∧ (0 ≤ (2 : Int) ∧ (2 : Int) < ((((Int.toNat (n + (4 : Int))) - (Int.toNat (4 : Int))) : Nat) : Int)) ∧ derefP (slAddr ba bc (Int.toNat (4 : Int)) 1) fun ad_1 => ∃ x_1 : Int, g6.w.cell? (Addr.add ad_1 (Int.toNat (2 : Int) * 1)) = some (.int .u8 x_1) ∧ InI64 x_1 ∧ InI64 ((x * (256 : Int)) + x_1) ∧ ∀ J_1 : Bool → G → Prop,
  (∀ v_1 : Bool, ∀ g7 : G, (ifB v_1
  (∀ g8 : G, Ex g7 g8 →
  R (.agg ⟨[(.int .i64 (0 : Int)), (.string (bs [])), (.slice none 0 0), (.int .i64 (0 : Int))]⟩) g8)
  (∀ g9 : G, Ex g7 g9 →
  (0 ≤ (0 : Int) ∧ (0 : Int) < ((((Int.toNat (n + (4 : Int))) - (Int.toNat (4 : Int))) : Nat) : Int)) ∧ derefP (slAddr ba bc (Int.toNat (4 : Int)) 1) fun ad_2 => ∃ x_2 : Int, g9.w.cell? (Addr.add ad_2 (Int.toNat (0 : Int) * 1)) = some (.int .u8 x_2) ∧ InI64 x_2 ∧ InI64 ((3 : Int) + ((x * (256 : Int)) + x_1)) ∧ (0 ≤ ((3 : Int) + ((x * (256 : Int)) + x_1)) ∧ ((3 : Int) + ((x * (256 : Int)) + x_1)) ≤ (((bc - (Int.toNat (4 : Int))) : Nat) : Int)) ∧ (0 ≤ (3 : Int) ∧ (3 : Int) ≤ (((Int.toNat ((3 : Int) + ((x * (256 : Int)) + x_1))) : Nat) : Int)) ∧ InI64 ((3 : Int) + ((x * (256 : Int)) + x_1)) ∧ (0 ≤ ((3 : Int) + ((x * (256 : Int)) + x_1)) ∧ ((3 : Int) + ((x * (256 : Int)) + x_1)) ≤ ((((Int.toNat (n + (4 : Int))) - (Int.toNat (4 : Int))) : Nat) : Int)) ∧ InI64 (n + (8 : Int)) ∧ ∃ x_3 : ByteArray, ∃ w1 : World, Sem.run Try.prog (convert 22 9 (.slice (slAddr (slAddr ba bc (Int.toNat (4 : Int)) 1) (bc - (Int.toNat (4 : Int))) (Int.toNat (3 : Int)) 1) ((Int.toNat ((3 : Int) + ((x * (256 : Int)) + x_1))) - (Int.toNat (3 : Int))) ((bc - (Int.toNat (4 : Int))) - (Int.toNat (3 : Int))))) g9.w = .ok (.string x_3) w1 ∧ ∃ g10 : G, g10.w = w1 ∧ Stp g.w.heap.size nobody g9 g10 ∧ SameB g9 g10 ∧ ∀ g11 : G, Ex g10 g11 →
  R (.agg ⟨[(.int .i64 x_2), (.string x_3), (.slice (slAddr (slAddr ba bc (Int.toNat (4 : Int)) 1) (bc - (Int.toNat (4 : Int))) (Int.toNat ((3 : Int) + ((x * (256 : Int)) + x_1))) 1) (((Int.toNat (n + (4 : Int))) - (Int.toNat (4 : Int))) - (Int.toNat ((3 : Int) + ((x * (256 : Int)) + x_1)))) ((bc - (Int.toNat (4 : Int))) - (Int.toNat ((3 : Int) + ((x * (256 : Int)) + x_1))))), (.int .i64 (n + (8 : Int)))]⟩) g11)) → J_1 v_1 g7) →
  ifB (ltI ((x * (256 : Int)) + x_1) (1 : Int))
  (J_1 true g6)
  (ifB (ltI (100 : Int) ((x * (256 : Int)) + x_1))
  (J_1 true g6)
  (InI64 (n - (3 : Int)) ∧ ifB (ltI (n - (3 : Int)) ((x * (256 : Int)) + x_1))
  (J_1 true g6)
  ((0 ≤ (0 : Int) ∧ (0 : Int) < ((((Int.toNat (n + (4 : Int))) - (Int.toNat (4 : Int))) : Nat) : Int)) ∧ derefP (slAddr ba bc (Int.toNat (4 : Int)) 1) fun ad_3 => ∃ x_4 : Int, g6.w.cell? (Addr.add ad_3 (Int.toNat (0 : Int) * 1)) = some (.int .u8 x_4) ∧ ifB (ltI x_4 (1 : Int))
  (J_1 true g6)
  ((0 ≤ (0 : Int) ∧ (0 : Int) < ((((Int.toNat (n + (4 : Int))) - (Int.toNat (4 : Int))) : Nat) : Int)) ∧ derefP (slAddr ba bc (Int.toNat (4 : Int)) 1) fun ad_4 => ∃ x_5 : Int, g6.w.cell? (Addr.add ad_4 (Int.toNat (0 : Int) * 1)) = some (.int .u8 x_5) ∧ ifB (ltI (2 : Int) x_5)
  (J_1 true g6)
  ((0 ≤ (0 : Int) ∧ (0 : Int) < ((((Int.toNat (n + (4 : Int))) - (Int.toNat (4 : Int))) : Nat) : Int)) ∧ derefP (slAddr ba bc (Int.toNat (4 : Int)) 1) fun ad_5 => ∃ x_6 : Int, g6.w.cell? (Addr.add ad_5 (Int.toNat (0 : Int) * 1)) = some (.int .u8 x_6) ∧ ifB (eqI x_6 (2 : Int))
  (InI64 (n - (3 : Int)) ∧ J_1 (!eqI ((x * (256 : Int)) + x_1) (n - (3 : Int))) g6)
  (J_1 false g6))))))) → J x0 x1 x2a x2l x2c x3 g5) →
  ∀ g12 : G, Ex g4 g12 →
  ifB (ltI n (3 : Int))
  (∀ g13 : G, Ex g12 g13 →
  R (.agg ⟨[(.int .i64 (0 : Int)), (.string (bs [])), (.slice none 0 0), (.int .i64 (0 : Int))]⟩) g13)
  (InI64 (((bl : Nat) : Int) - (8 : Int)) ∧ ifB (ltI (((bl : Nat) : Int) - (8 : Int)) n)
  (∀ g14 : G, Ex g12 g14 →
  R (.agg ⟨[(.int .i64 (0 : Int)), (.string (bs [])), (.slice none 0 0), (.int .i64 (0 : Int))]⟩) g14)
  (InI64 (n + (4 : Int)) ∧ (0 ≤ (n + (4 : Int)) ∧ (n + (4 : Int)) ≤ ((bc : Nat) : Int)) ∧ InI64 (n + (4 : Int)) ∧ (0 ≤ (n + (4 : Int)) ∧ (n + (4 : Int)) ≤ ((bl : Nat) : Int)) ∧ (CallsP Try.prog 42 #[(.slice (slAddr ba bc 0 1) ((Int.toNat (n + (4 : Int))) - 0) (bc - 0))] g12 fun v g15 =>
  ∃ x_7 : Int, v = (.int .i64 x_7) ∧ (CallsP Try.prog 63 #[(.slice (slAddr ba bc (Int.toNat (n + (4 : Int))) 1) (bl - (Int.toNat (n + (4 : Int)))) (bc - (Int.toNat (n + (4 : Int)))))] g15 fun v g16 =>
  ∃ x_8 : Int, v = (.int .i64 x_8) ∧ ifB (!eqI x_7 x_8)
  (∀ g17 : G, Ex g16 g17 →
  R (.agg ⟨[(.int .i64 (0 : Int)), (.string (bs [])), (.slice none 0 0), (.int .i64 (0 : Int))]⟩) g17)
  (J (0 : Int) (bs []) none 0 0 (0 : Int) g16)))))))
theorem F48_eq (ba : Option Addr) (bl : Nat) (bc : Nat) (g : G) (R : Value → G → Prop) : fnG cfg48 102 [.cell 2 87] c48 an48 [(.slice ba bl bc)] g nobody R = F48 ba bl bc g R := by kernel_rfl
theorem call48 (ba : Option Addr) (bl : Nat) (bc : Nat) (g : G) (R : Value → G → Prop) (hF : F48 ba bl bc g R) : CallsG Try.prog 48 #[(.slice ba bl bc)] g nobody R :=
  fn_soundG (c := cfg48) TTok FNSok mixed Try.func48 (show Try.f48.body = some c48 by kernel_rfl) (show Try.f48.ntmps = 102 by kernel_rfl) (show Try.f48.results.toList = [.cell 2 87] by kernel_rfl) rfl ((F48_eq ba bl bc g R).mpr hF)

/- 49 bytes.Clone -/
noncomputable def c49 : Code := match Try.f49.body with
  | some c => c
  | none => .skip
noncomputable def cfg49 : Cfg := ⟨Try.prog, TT, FNS, [], [], [], TCH, false, false⟩
def an49 : AnnG := (.seq .leaf (.seq (.seq .leaf (.cond (.seq .leaf .leaf) .leaf)) (.seq .leaf .leaf)))
def F49 (ba : Option Addr) (bl : Nat) (bc : Nat) (g : G) (R : Value → G → Prop) : Prop :=
  ifB ba.isNone
  (∀ g1 : G, Ex g g1 →
  R (.slice none 0 0) g1)
  (∀ g2 : G, NewL g g2 5 [] →
  ∃ xa : Option Addr, ∃ xl : Nat, ∃ xc : Nat, ∃ w1 : World, Sem.run Try.prog (Builtin.append_ #[22, 22] 22 #[(.slice (some ⟨g.w.heap.size, 0, none⟩) 0 0), (.slice ba bl bc)]) g2.w = .ok (.slice xa xl xc) w1 ∧ ∃ g3 : G, g3.w = w1 ∧ Stp g.w.heap.size nobody g2 g3 ∧ ∀ g4 : G, Ex g3 g4 →
  R (.slice xa xl xc) g4)
theorem F49_eq (ba : Option Addr) (bl : Nat) (bc : Nat) (g : G) (R : Value → G → Prop) : fnG cfg49 8 [.tmp 2] c49 an49 [(.slice ba bl bc)] g nobody R = F49 ba bl bc g R := by kernel_rfl
theorem call49 (ba : Option Addr) (bl : Nat) (bc : Nat) (g : G) (R : Value → G → Prop) (hF : F49 ba bl bc g R) : CallsG Try.prog 49 #[(.slice ba bl bc)] g nobody R :=
  fn_soundG (c := cfg49) TTok FNSok mixed Try.func49 (show Try.f49.body = some c49 by kernel_rfl) (show Try.f49.ntmps = 8 by kernel_rfl) (show Try.f49.results.toList = [.tmp 2] by kernel_rfl) rfl ((F49_eq ba bl bc g R).mpr hF)

/- 50 slices.ContainsFunc[[]pilaster/pilasterlaw53.Edit,pilaster/pilasterlaw53.Edit] -/
noncomputable def c50 : Code := match Try.f50.body with
  | some c => c
  | none => .skip
noncomputable def cfg50 : Cfg := ⟨Try.prog, TT, FNS, [], [], [], TCH, false, false⟩
def an50 : AnnG := (.seq .leaf (.seq .leaf .leaf))
def F50 (sa : Option Addr) (sl : Nat) (sc : Nat) (ff : FuncId) (fc : Array Value) (g : G) (R : Value → G → Prop) : Prop :=
  (CallsP Try.prog 64 #[(.slice sa sl sc), (.func (.func ff) #[] fc)] g fun v g1 =>
  ∃ x : Int, v = (.int .i64 x) ∧ ∀ g2 : G, Ex g1 g2 →
  R (.bool (leI (0 : Int) x)) g2)
theorem F50_eq (sa : Option Addr) (sl : Nat) (sc : Nat) (ff : FuncId) (fc : Array Value) (g : G) (R : Value → G → Prop) : fnG cfg50 9 [.tmp 4] c50 an50 [(.slice sa sl sc), (.func (.func ff) #[] fc)] g nobody R = F50 sa sl sc ff fc g R := by kernel_rfl
theorem call50 (sa : Option Addr) (sl : Nat) (sc : Nat) (ff : FuncId) (fc : Array Value) (g : G) (R : Value → G → Prop) (hF : F50 sa sl sc ff fc g R) : CallsG Try.prog 50 #[(.slice sa sl sc), (.func (.func ff) #[] fc)] g nobody R :=
  fn_soundG (c := cfg50) TTok FNSok mixed Try.func50 (show Try.f50.body = some c50 by kernel_rfl) (show Try.f50.ntmps = 9 by kernel_rfl) (show Try.f50.results.toList = [.tmp 4] by kernel_rfl) rfl ((F50_eq sa sl sc ff fc g R).mpr hF)

/- 51 pilaster/pilasterlaw53.short$1 -/
noncomputable def c51 : Code := match Try.f51.body with
  | some c => c
  | none => .skip
noncomputable def cfg51 : Cfg := ⟨Try.prog, TT, FNS, [1], [(1, 1), (3, 1), (8, 1)], [], TCH, false, false⟩
def an51 : AnnG := (.seq .leaf (.seq .leaf .leaf))
def F51 (x0 : ByteArray) (x1a : Option Addr) (x1l : Nat) (x1c : Nat) (x2 : Bool) (g : G) (R : Value → G → Prop) : Prop :=
  ifB (ltI (120 : Int) ((x0.size : Nat) : Int))
  (∀ g1 : G, Ex g g1 →
  R (.bool true) g1)
  (∀ g2 : G, Ex g g2 →
  R (.bool (ltI (120 : Int) ((x1l : Nat) : Int))) g2)
theorem F51_eq (x0 : ByteArray) (x1a : Option Addr) (x1l : Nat) (x1c : Nat) (x2 : Bool) (g : G) (R : Value → G → Prop) : fnG cfg51 13 [.tmp 2] c51 an51 [(.agg ⟨[(.string x0), (.slice x1a x1l x1c), (.bool x2)]⟩)] g nobody R = F51 x0 x1a x1l x1c x2 g R := by kernel_rfl
theorem call51 (x0 : ByteArray) (x1a : Option Addr) (x1l : Nat) (x1c : Nat) (x2 : Bool) (g : G) (R : Value → G → Prop) (hF : F51 x0 x1a x1l x1c x2 g R) : CallsG Try.prog 51 #[(.agg ⟨[(.string x0), (.slice x1a x1l x1c), (.bool x2)]⟩)] g nobody R :=
  fn_soundG (c := cfg51) TTok FNSok mixed Try.func51 (show Try.f51.body = some c51 by kernel_rfl) (show Try.f51.ntmps = 13 by kernel_rfl) (show Try.f51.results.toList = [.tmp 2] by kernel_rfl) rfl ((F51_eq x0 x1a x1l x1c x2 g R).mpr hF)

/- 52 maps.Keys[map[string][]byte,string,[]byte] -/
noncomputable def c52 : Code := match Try.f52.body with
  | some c => c
  | none => .skip
noncomputable def cfg52 : Cfg := ⟨Try.prog, TT, FNS, [], [], [1], TCH, false, false⟩
def an52 : AnnG := (.seq .leaf (.seq .leaf .leaf))
def F52 (m : Option Nat) (g : G) (R : Value → G → Prop) : Prop :=
  ∀ g1 : G, NewL g g1 79 ([(.map m)] : List Value) →
  ∀ g2 : G, Ex g1 g2 →
  R (.func (.func 65) #[] ⟨[(.pointer (some ⟨g.w.heap.size, 0, none⟩))]⟩) g2
theorem F52_eq (m : Option Nat) (g : G) (R : Value → G → Prop) : fnG cfg52 4 [.tmp 2] c52 an52 [(.map m)] g nobody R = F52 m g R := by kernel_rfl
theorem call52 (m : Option Nat) (g : G) (R : Value → G → Prop) (hF : F52 m g R) : CallsG Try.prog 52 #[(.map m)] g nobody R :=
  fn_soundG (c := cfg52) TTok FNSok mixed Try.func52 (show Try.f52.body = some c52 by kernel_rfl) (show Try.f52.ntmps = 4 by kernel_rfl) (show Try.f52.results.toList = [.tmp 2] by kernel_rfl) rfl ((F52_eq m g R).mpr hF)

/- 53 slices.Collect[string] -/
noncomputable def c53 : Code := match Try.f53.body with
  | some c => c
  | none => .skip
noncomputable def cfg53 : Cfg := ⟨Try.prog, TT, FNS, [], [], [], TCH, false, false⟩
def an53 : AnnG := (.seq .leaf (.seq .leaf .leaf))
def F53 (seqf : FuncId) (seqc : Array Value) (g : G) (R : Value → G → Prop) : Prop :=
  (CallsP Try.prog 66 #[(.slice none 0 0), (.func (.func seqf) #[] seqc)] g fun v g1 =>
  ∃ xa : Option Addr, ∃ xl : Nat, ∃ xc : Nat, v = (.slice xa xl xc) ∧ ∀ g2 : G, Ex g1 g2 →
  R (.slice xa xl xc) g2)
theorem F53_eq (seqf : FuncId) (seqc : Array Value) (g : G) (R : Value → G → Prop) : fnG cfg53 5 [.tmp 2] c53 an53 [(.func (.func seqf) #[] seqc)] g nobody R = F53 seqf seqc g R := by kernel_rfl
theorem call53 (seqf : FuncId) (seqc : Array Value) (g : G) (R : Value → G → Prop) (hF : F53 seqf seqc g R) : CallsG Try.prog 53 #[(.func (.func seqf) #[] seqc)] g nobody R :=
  fn_soundG (c := cfg53) TTok FNSok mixed Try.func53 (show Try.f53.body = some c53 by kernel_rfl) (show Try.f53.ntmps = 5 by kernel_rfl) (show Try.f53.results.toList = [.tmp 2] by kernel_rfl) rfl ((F53_eq seqf seqc g R).mpr hF)

/- 54 slices.Sort[[]string,string] -/
noncomputable def c54 : Code := match Try.f54.body with
  | some c => c
  | none => .skip
noncomputable def cfg54 : Cfg := ⟨Try.prog, TT, FNS, [], [], [], TCH, false, false⟩
def an54 : AnnG := (.seq .leaf .leaf)
def F54 (xa : Option Addr) (xl : Nat) (xc : Nat) (g : G) (R : Value → G → Prop) : Prop :=
  (CallsP Try.prog 68 #[(.int .u64 (IntKind.u64.wrap ((xl : Nat) : Int)))] g fun v g1 =>
  ∃ x : Int, v = (.int .i64 x) ∧ (CallsP Try.prog 67 #[(.slice xa xl xc), (.int .i64 (0 : Int)), (.int .i64 ((xl : Nat) : Int)), (.int .i64 x)] g1 fun v g2 =>
  v = (.tuple ⟨[]⟩) ∧ ∀ g3 : G, Ex g2 g3 →
  R (.tuple ⟨[]⟩) g3))
theorem F54_eq (xa : Option Addr) (xl : Nat) (xc : Nat) (g : G) (R : Value → G → Prop) : fnG cfg54 11 [] c54 an54 [(.slice xa xl xc)] g nobody R = F54 xa xl xc g R := by kernel_rfl
theorem call54 (xa : Option Addr) (xl : Nat) (xc : Nat) (g : G) (R : Value → G → Prop) (hF : F54 xa xl xc g R) : CallsG Try.prog 54 #[(.slice xa xl xc)] g nobody R :=
  fn_soundG (c := cfg54) TTok FNSok mixed Try.func54 (show Try.f54.body = some c54 by kernel_rfl) (show Try.f54.ntmps = 11 by kernel_rfl) (show Try.f54.results.toList = [] by kernel_rfl) rfl ((F54_eq xa xl xc g R).mpr hF)

/- 56 (*pilaster/store.reader).next -/
noncomputable def c56 : Code := match Try.f56.body with
  | some c => c
  | none => .skip
noncomputable def cfg56 : Cfg := ⟨Try.prog, TT, FNS, [], [], [], TCH, false, false⟩
def an56 : AnnG := (.seq .leaf (.seq (.seq .leaf (.cond (.seq .leaf .leaf) .leaf)) (.seq .leaf (.join ⟨[], [], []⟩ (.seq .leaf (.cond (.seq .leaf .leaf) .leaf)) (.seq .leaf (.seq (.seq .leaf (.cond (.seq .leaf .leaf) .leaf)) (.seq .leaf (.seq .leaf (.seq (.join ⟨[(87, .bool)], [], []⟩ .leaf (.cond (.seq .leaf .leaf) .leaf)) (.seq .leaf (.seq .leaf (.seq .leaf .leaf))))))))))))
def F56 (r : Option Addr) (g : G) (M : Nat → Prop) (R : Value → G → Prop) : Prop :=
  derefP r fun ad => ∃ xa : Option Addr, ∃ xl : Nat, ∃ xc : Nat, g.w.cell? ad = some (.slice xa xl xc) ∧ ifB (ltI ((xl : Nat) : Int) (8 : Int))
  (∀ g1 : G, Ex g g1 →
  R (.tuple ⟨[(.slice none 0 0), (.bool false)]⟩) g1)
  (derefP r fun ad_1 => ∃ xa_1 : Option Addr, ∃ xl_1 : Nat, ∃ xc_1 : Nat, g.w.cell? ad_1 = some (.slice xa_1 xl_1 xc_1) ∧ (0 ≤ (4 : Int) ∧ (4 : Int) ≤ ((xc_1 : Nat) : Int)) ∧ (CallsP Try.prog 57 #[(.slice (slAddr xa_1 xc_1 0 1) ((Int.toNat (4 : Int)) - 0) (xc_1 - 0))] g fun v g2 =>
  ∃ n : Int, v = (.int .i64 n) ∧ ∀ J : G → Prop,
  (∀ g3 : G, (derefP r fun ad_2 => ∃ xa_2 : Option Addr, ∃ xl_2 : Nat, ∃ xc_2 : Nat, g3.w.cell? ad_2 = some (.slice xa_2 xl_2 xc_2) ∧ InI64 ((4 : Int) + n) ∧ (0 ≤ ((4 : Int) + n) ∧ ((4 : Int) + n) ≤ ((xc_2 : Nat) : Int)) ∧ derefP r fun ad_3 => ∃ xa_3 : Option Addr, ∃ xl_3 : Nat, ∃ xc_3 : Nat, g3.w.cell? ad_3 = some (.slice xa_3 xl_3 xc_3) ∧ InI64 ((4 : Int) + n) ∧ InI64 ((8 : Int) + n) ∧ (0 ≤ ((8 : Int) + n) ∧ ((8 : Int) + n) ≤ ((xc_3 : Nat) : Int)) ∧ (0 ≤ ((4 : Int) + n) ∧ ((4 : Int) + n) ≤ (((Int.toNat ((8 : Int) + n)) : Nat) : Int)) ∧ (CallsP Try.prog 57 #[(.slice (slAddr xa_3 xc_3 (Int.toNat ((4 : Int) + n)) 1) ((Int.toNat ((8 : Int) + n)) - (Int.toNat ((4 : Int) + n))) (xc_3 - (Int.toNat ((4 : Int) + n))))] g3 fun v g4 =>
  ∃ x : Int, v = (.int .i64 x) ∧ (CallsP Try.prog 62 #[(.slice (slAddr xa_2 xc_2 0 1) ((Int.toNat ((4 : Int) + n)) - 0) (xc_2 - 0))] g4 fun v g5 =>
  ∃ x_1 : Int, v = (.int .u32 x_1) ∧ InI64 x_1 ∧ ifB (!eqI x x_1)
  (∀ g6 : G, Ex g5 g6 →
  R (.tuple ⟨[(.slice none 0 0), (.bool false)]⟩) g6)
  ((0 ≤ (4 : Int) ∧ (4 : Int) ≤ ((((Int.toNat ((4 : Int) + n)) - 0) : Nat) : Int)) ∧ (0 ≤ (3 : Int) ∧ (3 : Int) ≤ ((((xc_2 - 0) - (Int.toNat (4 : Int))) : Nat) : Int)) ∧ (0 ≤ (1 : Int) ∧ (1 : Int) ≤ (((Int.toNat (3 : Int)) : Nat) : Int)) ∧ (CallsP Try.prog 57 #[(.slice (slAddr (slAddr (slAddr xa_2 xc_2 0 1) (xc_2 - 0) (Int.toNat (4 : Int)) 1) ((xc_2 - 0) - (Int.toNat (4 : Int))) (Int.toNat (1 : Int)) 1) ((Int.toNat (3 : Int)) - (Int.toNat (1 : Int))) (((xc_2 - 0) - (Int.toNat (4 : Int))) - (Int.toNat (1 : Int))))] g5 fun v g7 =>
  ∃ k : Int, v = (.int .i64 k) ∧ ∀ J_1 : Bool → G → Prop,
  (∀ v_1 : Bool, ∀ g8 : G, (ifB v_1
  (∀ g9 : G, Ex g8 g9 →
  R (.tuple ⟨[(.slice none 0 0), (.bool false)]⟩) g9)
  (derefP r fun ad_4 => ∃ xa_4 : Option Addr, ∃ xl_4 : Nat, ∃ xc_4 : Nat, g8.w.cell? ad_4 = some (.slice xa_4 xl_4 xc_4) ∧ InI64 ((8 : Int) + n) ∧ (0 ≤ ((8 : Int) + n) ∧ ((8 : Int) + n) ≤ ((xl_4 : Nat) : Int)) ∧ derefP r fun ad_5 => stOk g8.w ad_5 1 ∧ ¬ g8.X (Addr.block ad_5) ∧ mutAt g8 ad_5 1 ∧ ((Addr.block ad_5) < g.w.heap.size → M (Addr.block ad_5)) ∧ ∀ g10 : G, StG false g8 ad_5 [(.slice (slAddr xa_4 xc_4 (Int.toNat ((8 : Int) + n)) 1) (xl_4 - (Int.toNat ((8 : Int) + n))) (xc_4 - (Int.toNat ((8 : Int) + n))))] g10 →
  derefP r fun ad_6 => ∃ x_2 : Int, g10.w.cell? (Addr.add ad_6 1) = some (.int .i64 x_2) ∧ InI64 ((8 : Int) + n) ∧ InI64 (x_2 + ((8 : Int) + n)) ∧ derefP r fun ad_7 => stOk g10.w (Addr.add ad_7 1) 1 ∧ ¬ g10.X (Addr.block (Addr.add ad_7 1)) ∧ mutAt g10 (Addr.add ad_7 1) 1 ∧ ((Addr.block (Addr.add ad_7 1)) < g.w.heap.size → M (Addr.block (Addr.add ad_7 1))) ∧ ∀ g11 : G, StG false g10 (Addr.add ad_7 1) [(.int .i64 (x_2 + ((8 : Int) + n)))] g11 →
  ∀ g12 : G, Ex g11 g12 →
  R (.tuple ⟨[(.slice (slAddr (slAddr xa_2 xc_2 0 1) (xc_2 - 0) (Int.toNat (4 : Int)) 1) (((Int.toNat ((4 : Int) + n)) - 0) - (Int.toNat (4 : Int))) ((xc_2 - 0) - (Int.toNat (4 : Int)))), (.bool true)]⟩) g12)) → J_1 v_1 g8) →
  ifB (ltI k (1 : Int))
  (J_1 true g7)
  (ifB (ltI (100 : Int) k)
  (J_1 true g7)
  (InI64 (n - (3 : Int)) ∧ ifB (ltI (n - (3 : Int)) k)
  (J_1 true g7)
  ((0 ≤ (0 : Int) ∧ (0 : Int) < (((((Int.toNat ((4 : Int) + n)) - 0) - (Int.toNat (4 : Int))) : Nat) : Int)) ∧ derefP (slAddr (slAddr xa_2 xc_2 0 1) (xc_2 - 0) (Int.toNat (4 : Int)) 1) fun ad_8 => ∃ x_3 : Int, g7.w.cell? (Addr.add ad_8 (Int.toNat (0 : Int) * 1)) = some (.int .u8 x_3) ∧ ifB (!eqI x_3 (1 : Int))
  ((0 ≤ (0 : Int) ∧ (0 : Int) < (((((Int.toNat ((4 : Int) + n)) - 0) - (Int.toNat (4 : Int))) : Nat) : Int)) ∧ derefP (slAddr (slAddr xa_2 xc_2 0 1) (xc_2 - 0) (Int.toNat (4 : Int)) 1) fun ad_9 => ∃ x_4 : Int, g7.w.cell? (Addr.add ad_9 (Int.toNat (0 : Int) * 1)) = some (.int .u8 x_4) ∧ ifB (!eqI x_4 (2 : Int))
  (J_1 true g7)
  (InI64 (n - (3 : Int)) ∧ J_1 (!eqI k (n - (3 : Int))) g7))
  (J_1 false g7))))))))) → J g3) →
  ifB (ltI n (4 : Int))
  (∀ g13 : G, Ex g2 g13 →
  R (.tuple ⟨[(.slice none 0 0), (.bool false)]⟩) g13)
  (derefP r fun ad_10 => ∃ xa_5 : Option Addr, ∃ xl_5 : Nat, ∃ xc_5 : Nat, g2.w.cell? ad_10 = some (.slice xa_5 xl_5 xc_5) ∧ InI64 (((xl_5 : Nat) : Int) - (8 : Int)) ∧ ifB (ltI (((xl_5 : Nat) : Int) - (8 : Int)) n)
  (∀ g14 : G, Ex g2 g14 →
  R (.tuple ⟨[(.slice none 0 0), (.bool false)]⟩) g14)
  (J g2))))
theorem F56_eq (r : Option Addr) (g : G) (M : Nat → Prop) (R : Value → G → Prop) : fnG cfg56 108 [.tmp 2, .tmp 3] c56 an56 [(.pointer r)] g M R = F56 r g M R := by kernel_rfl
theorem call56 (r : Option Addr) (g : G) (M : Nat → Prop) (R : Value → G → Prop) (hF : F56 r g M R) : CallsG Try.prog 56 #[(.pointer r)] g M R :=
  fn_soundG (c := cfg56) TTok FNSok mixed Try.func56 (show Try.f56.body = some c56 by kernel_rfl) (show Try.f56.ntmps = 108 by kernel_rfl) (show Try.f56.results.toList = [.tmp 2, .tmp 3] by kernel_rfl) rfl ((F56_eq r g M R).mpr hF)

/- 57 pilaster/store.number -/
noncomputable def c57 : Code := match Try.f57.body with
  | some c => c
  | none => .skip
noncomputable def cfg57 : Cfg := ⟨Try.prog, TT, FNS, [], [], [], TCH, false, false⟩
def an57 : AnnG := (.seq .leaf (.seq .leaf (.seq (.seq .leaf (.blk (.loop ⟨[(3, .int .i64), (8, .int .i64)], [], []⟩ (.seq .leaf (.seq (.cond .leaf .leaf) (.seq (.blk (.seq .leaf .leaf)) .leaf)))))) (.seq .leaf .leaf))))
def F57 (ba : Option Addr) (bl : Nat) (bc : Nat) (g : G) (R : Value → G → Prop) : Prop :=
  ∃ Inv : Nat → Int → Int → G → Prop, ((∃ m0 : Nat, Inv m0 (0 : Int) (0 : Int) g)) ∧
  ∀ m : Nat, ∀ n : Int, ∀ v_1 : Int, ∀ g1 : G, Le g g1 → Inv m n v_1 g1 →
  ifB (ltI v_1 ((bl : Nat) : Int))
  ((0 ≤ v_1 ∧ v_1 < ((bl : Nat) : Int)) ∧ derefP ba fun ad => ∃ x : Int, g1.w.cell? (Addr.add ad (Int.toNat v_1 * 1)) = some (.int .u8 x) ∧ 0 ≤ (8 : Int) ∧ InI64 x ∧ InI64 (v_1 + (1 : Int)) ∧ (∃ m_1 : Nat, m_1 < m ∧ Inv m_1 (bits BinOp.or IntKind.i64 (shlI IntKind.i64 n (8 : Int)) x) (v_1 + (1 : Int)) g1))
  (∀ g2 : G, Ex g1 g2 →
  R (.int .i64 n) g2)
theorem F57_eq (ba : Option Addr) (bl : Nat) (bc : Nat) (g : G) (R : Value → G → Prop) : fnG cfg57 19 [.tmp 2] c57 an57 [(.slice ba bl bc)] g nobody R = F57 ba bl bc g R := by kernel_rfl
theorem call57 (ba : Option Addr) (bl : Nat) (bc : Nat) (g : G) (R : Value → G → Prop) (hF : F57 ba bl bc g R) : CallsG Try.prog 57 #[(.slice ba bl bc)] g nobody R :=
  fn_soundG (c := cfg57) TTok FNSok mixed Try.func57 (show Try.f57.body = some c57 by kernel_rfl) (show Try.f57.ntmps = 19 by kernel_rfl) (show Try.f57.results.toList = [.tmp 2] by kernel_rfl) rfl ((F57_eq ba bl bc g R).mpr hF)

/- 58 (*pilaster/store.disk).write -/
noncomputable def c58 : Code := match Try.f58.body with
  | some c => c
  | none => .skip
noncomputable def cfg58 : Cfg := ⟨Try.prog, TT, FNS, [], [], [], TCH, false, false⟩
def an58 : AnnG := (.seq .leaf (.seq (.seq .leaf (.cond (.seq .leaf .leaf) .leaf)) (.seq .leaf (.seq (.seq .leaf (.cond .leaf .leaf)) (.seq .leaf .leaf)))))
def F58 (d : Option Addr) (b : Int) (g : G) (M : Nat → Prop) (R : Value → G → Prop) : Prop :=
  (CallsP Try.prog 59 #[(.pointer d)] g fun v g1 =>
  ∃ x : Bool, v = (.bool x) ∧ ifB (!x)
  (∀ g2 : G, Ex g1 g2 →
  R (.bool false) g2)
  (derefP d fun ad => ∃ xa : Option Addr, ∃ xl : Nat, ∃ xc : Nat, g1.w.cell? ad = some (.slice xa xl xc) ∧ ∀ g3 : G, NewL g1 g3 5 [(.int .u8 b)] →
  ∃ xa_1 : Option Addr, ∃ xl_1 : Nat, ∃ xc_1 : Nat, ∃ w1 : World, Sem.run Try.prog (Builtin.append_ #[22, 22] 22 #[(.slice xa xl xc), (.slice (some ⟨g1.w.heap.size, 0, none⟩) 1 1)]) g3.w = .ok (.slice xa_1 xl_1 xc_1) w1 ∧ ∃ g4 : G, g4.w = w1 ∧ Stp g.w.heap.size M g3 g4 ∧ derefP d fun ad_1 => stOk g4.w ad_1 1 ∧ ¬ g4.X (Addr.block ad_1) ∧ mutAt g4 ad_1 1 ∧ ((Addr.block ad_1) < g.w.heap.size → M (Addr.block ad_1)) ∧ ∀ g5 : G, StG false g4 ad_1 [(.slice xa_1 xl_1 xc_1)] g5 →
  derefP d fun ad_2 => ∃ x_1 : Int, g5.w.cell? (Addr.add ad_2 2) = some (.int .i64 x_1) ∧ ifB (ltI (0 : Int) x_1)
  (derefP d fun ad_3 => ∃ x_2 : Int, g5.w.cell? (Addr.add ad_3 2) = some (.int .i64 x_2) ∧ InI64 (x_2 - (1 : Int)) ∧ derefP d fun ad_4 => stOk g5.w (Addr.add ad_4 2) 1 ∧ ¬ g5.X (Addr.block (Addr.add ad_4 2)) ∧ mutAt g5 (Addr.add ad_4 2) 1 ∧ ((Addr.block (Addr.add ad_4 2)) < g.w.heap.size → M (Addr.block (Addr.add ad_4 2))) ∧ ∀ g6 : G, StG false g5 (Addr.add ad_4 2) [(.int .i64 (x_2 - (1 : Int)))] g6 →
  ∀ g7 : G, Ex g6 g7 →
  R (.bool true) g7)
  (∀ g8 : G, Ex g5 g8 →
  R (.bool true) g8)))
theorem F58_eq (d : Option Addr) (b : Int) (g : G) (M : Nat → Prop) (R : Value → G → Prop) : fnG cfg58 35 [.tmp 4] c58 an58 [(.pointer d), (.int .u8 b)] g M R = F58 d b g M R := by kernel_rfl
theorem call58 (d : Option Addr) (b : Int) (g : G) (M : Nat → Prop) (R : Value → G → Prop) (hF : F58 d b g M R) : CallsG Try.prog 58 #[(.pointer d), (.int .u8 b)] g M R :=
  fn_soundG (c := cfg58) TTok FNSok mixed Try.func58 (show Try.f58.body = some c58 by kernel_rfl) (show Try.f58.ntmps = 35 by kernel_rfl) (show Try.f58.results.toList = [.tmp 4] by kernel_rfl) rfl ((F58_eq d b g M R).mpr hF)

/- 59 (*pilaster/store.disk).step -/
noncomputable def c59 : Code := match Try.f59.body with
  | some c => c
  | none => .skip
noncomputable def cfg59 : Cfg := ⟨Try.prog, TT, FNS, [], [], [], TCH, false, false⟩
def an59 : AnnG := (.seq .leaf (.seq .leaf .leaf))
def F59 (d : Option Addr) (g : G) (R : Value → G → Prop) : Prop :=
  derefP d fun ad => ∃ x : Int, g.w.cell? (Addr.add ad 2) = some (.int .i64 x) ∧ ∀ g1 : G, Ex g g1 →
  R (.bool (!eqI x (0 : Int))) g1
theorem F59_eq (d : Option Addr) (g : G) (R : Value → G → Prop) : fnG cfg59 9 [.tmp 2] c59 an59 [(.pointer d)] g nobody R = F59 d g R := by kernel_rfl
theorem call59 (d : Option Addr) (g : G) (R : Value → G → Prop) (hF : F59 d g R) : CallsG Try.prog 59 #[(.pointer d)] g nobody R :=
  fn_soundG (c := cfg59) TTok FNSok mixed Try.func59 (show Try.f59.body = some c59 by kernel_rfl) (show Try.f59.ntmps = 9 by kernel_rfl) (show Try.f59.results.toList = [.tmp 2] by kernel_rfl) rfl ((F59_eq d g R).mpr hF)

/- 60 slices.Concat[[]byte,byte] -/
noncomputable def c60 : Code := match Try.f60.body with
  | some c => c
  | none => .skip
noncomputable def cfg60 : Cfg := ⟨Try.prog, TT, FNS, [], [], [], TCH, false, false⟩
def an60 : AnnG := (.seq .leaf (.seq .leaf (.seq (.seq .leaf (.blk (.loop ⟨[(3, .int .i64), (11, .int .i64)], [], []⟩ (.seq .leaf (.seq (.cond .leaf .leaf) (.seq (.blk (.seq .leaf (.seq .leaf (.seq .leaf (.cond .leaf .leaf))))) .leaf)))))) (.seq .leaf (.seq (.seq .leaf (.blk (.loop ⟨[(6, .sl), (27, .int .i64)], [], []⟩ (.seq .leaf (.seq (.cond .leaf .leaf) (.seq (.blk (.seq .leaf .leaf)) .leaf)))))) (.seq .leaf .leaf))))))
def F60 (slicesa : Option Addr) (slicesl : Nat) (slicesc : Nat) (g : G) (R : Value → G → Prop) : Prop :=
  ∃ Inv : Nat → Int → Int → G → Prop, ((∃ m0 : Nat, Inv m0 (0 : Int) (0 : Int) g)) ∧
  ∀ m : Nat, ∀ size : Int, ∀ v_1 : Int, ∀ g1 : G, Le g g1 → Inv m size v_1 g1 →
  ifB (ltI v_1 ((slicesl : Nat) : Int))
  ((0 ≤ v_1 ∧ v_1 < ((slicesl : Nat) : Int)) ∧ derefP slicesa fun ad => ∃ sa : Option Addr, ∃ sl : Nat, ∃ sc : Nat, g1.w.cell? (Addr.add ad (Int.toNat v_1 * 1)) = some (.slice sa sl sc) ∧ InI64 (size + ((sl : Nat) : Int)) ∧ ifB (ltI (size + ((sl : Nat) : Int)) (0 : Int))
  (False)
  (InI64 (v_1 + (1 : Int)) ∧ (∃ m_1 : Nat, m_1 < m ∧ Inv m_1 (size + ((sl : Nat) : Int)) (v_1 + (1 : Int)) g1)))
  ((CallsP Try.prog 69 #[(.slice none 0 0), (.int .i64 size)] g1 fun v g2 =>
  ∃ newslicea : Option Addr, ∃ newslicel : Nat, ∃ newslicec : Nat, v = (.slice newslicea newslicel newslicec) ∧ ∃ Inv_1 : Nat → Option Addr → Nat → Nat → Int → G → Prop, ((∃ m0 : Nat, Inv_1 m0 newslicea newslicel newslicec (0 : Int) g2)) ∧
  ∀ m_2 : Nat, ∀ newslicea_1 : Option Addr, ∀ newslicel_1 : Nat, ∀ newslicec_1 : Nat, ∀ v_2 : Int, ∀ g3 : G, Le g2 g3 → Inv_1 m_2 newslicea_1 newslicel_1 newslicec_1 v_2 g3 →
  ifB (ltI v_2 ((slicesl : Nat) : Int))
  ((0 ≤ v_2 ∧ v_2 < ((slicesl : Nat) : Int)) ∧ derefP slicesa fun ad_1 => ∃ sa_1 : Option Addr, ∃ sl_1 : Nat, ∃ sc_1 : Nat, g3.w.cell? (Addr.add ad_1 (Int.toNat v_2 * 1)) = some (.slice sa_1 sl_1 sc_1) ∧ ∃ newslicea_2 : Option Addr, ∃ newslicel_2 : Nat, ∃ newslicec_2 : Nat, ∃ w1 : World, Sem.run Try.prog (Builtin.append_ #[22, 22] 22 #[(.slice newslicea_1 newslicel_1 newslicec_1), (.slice sa_1 sl_1 sc_1)]) g3.w = .ok (.slice newslicea_2 newslicel_2 newslicec_2) w1 ∧ ∃ g4 : G, g4.w = w1 ∧ Stp g.w.heap.size nobody g3 g4 ∧ InI64 (v_2 + (1 : Int)) ∧ (∃ m_3 : Nat, m_3 < m_2 ∧ Inv_1 m_3 newslicea_2 newslicel_2 newslicec_2 (v_2 + (1 : Int)) g4))
  (∀ g5 : G, Ex g3 g5 →
  R (.slice newslicea_1 newslicel_1 newslicec_1) g5)))
theorem F60_eq (slicesa : Option Addr) (slicesl : Nat) (slicesc : Nat) (g : G) (R : Value → G → Prop) : fnG cfg60 36 [.tmp 2] c60 an60 [(.slice slicesa slicesl slicesc)] g nobody R = F60 slicesa slicesl slicesc g R := by kernel_rfl
theorem call60 (slicesa : Option Addr) (slicesl : Nat) (slicesc : Nat) (g : G) (R : Value → G → Prop) (hF : F60 slicesa slicesl slicesc g R) : CallsG Try.prog 60 #[(.slice slicesa slicesl slicesc)] g nobody R :=
  fn_soundG (c := cfg60) TTok FNSok mixed Try.func60 (show Try.f60.body = some c60 by kernel_rfl) (show Try.f60.ntmps = 36 by kernel_rfl) (show Try.f60.results.toList = [.tmp 2] by kernel_rfl) rfl ((F60_eq slicesa slicesl slicesc g R).mpr hF)

/- 61 pilaster/store.four -/
noncomputable def c61 : Code := match Try.f61.body with
  | some c => c
  | none => .skip
noncomputable def cfg61 : Cfg := ⟨Try.prog, TT, FNS, [], [], [], TCH, false, false⟩
def an61 : AnnG := (.seq .leaf (.seq .leaf .leaf))
def F61 (n : Int) (g : G) (R : Value → G → Prop) : Prop :=
  0 ≤ (24 : Int) ∧ 0 ≤ (16 : Int) ∧ 0 ≤ (8 : Int) ∧ ∀ g1 : G, NewL g g1 5 [(.int .u8 (IntKind.u8.wrap (shrI IntKind.u32 n (24 : Int)))), (.int .u8 (IntKind.u8.wrap (shrI IntKind.u32 n (16 : Int)))), (.int .u8 (IntKind.u8.wrap (shrI IntKind.u32 n (8 : Int)))), (.int .u8 (IntKind.u8.wrap n))] →
  ∀ g2 : G, Ex g1 g2 →
  R (.slice (some ⟨g.w.heap.size, 0, none⟩) 4 4) g2
theorem F61_eq (n : Int) (g : G) (R : Value → G → Prop) : fnG cfg61 15 [.tmp 2] c61 an61 [(.int .u32 n)] g nobody R = F61 n g R := by kernel_rfl
theorem call61 (n : Int) (g : G) (R : Value → G → Prop) (hF : F61 n g R) : CallsG Try.prog 61 #[(.int .u32 n)] g nobody R :=
  fn_soundG (c := cfg61) TTok FNSok mixed Try.func61 (show Try.f61.body = some c61 by kernel_rfl) (show Try.f61.ntmps = 15 by kernel_rfl) (show Try.f61.results.toList = [.tmp 2] by kernel_rfl) rfl ((F61_eq n g R).mpr hF)

/- 62 pilaster/store.sum -/
noncomputable def c62 : Code := match Try.f62.body with
  | some c => c
  | none => .skip
noncomputable def cfg62 : Cfg := ⟨Try.prog, TT, FNS, [], [], [], TCH, false, false⟩
def an62 : AnnG := (.seq .leaf (.seq .leaf (.seq (.seq .leaf (.blk (.loop ⟨[(3, .int .u32), (9, .int .i64)], [], []⟩ (.seq .leaf (.seq (.cond .leaf .leaf) (.seq (.blk (.seq .leaf (.seq .leaf (.seq .leaf (.blk (.loop ⟨[(3, .int .u32), (17, .int .i64)], [], []⟩ (.seq .leaf (.seq (.cond .leaf .leaf) (.seq (.blk (.seq .leaf (.seq .leaf (.seq .leaf (.cond .leaf .leaf))))) .leaf))))))))) .leaf)))))) (.seq .leaf .leaf))))
def F62 (ba : Option Addr) (bl : Nat) (bc : Nat) (g : G) (R : Value → G → Prop) : Prop :=
  ∃ Inv : Nat → Int → Int → G → Prop, ((∃ m0 : Nat, Inv m0 (4294967295 : Int) (0 : Int) g)) ∧
  ∀ m : Nat, ∀ c : Int, ∀ v_1 : Int, ∀ g1 : G, Le g g1 → Inv m c v_1 g1 →
  ifB (ltI v_1 ((bl : Nat) : Int))
  ((0 ≤ v_1 ∧ v_1 < ((bl : Nat) : Int)) ∧ derefP ba fun ad => ∃ x : Int, g1.w.cell? (Addr.add ad (Int.toNat v_1 * 1)) = some (.int .u8 x) ∧ ∃ Inv_1 : Nat → Int → Int → G → Prop, ((∃ m0 : Nat, Inv_1 m0 (bits BinOp.xor IntKind.u32 c (IntKind.u32.wrap x)) (0 : Int) g1)) ∧
  ∀ m_2 : Nat, ∀ c_1 : Int, ∀ v_2 : Int, ∀ g2 : G, Le g1 g2 → Inv_1 m_2 c_1 v_2 g2 →
  ifB (ltI v_2 (8 : Int))
  (0 ≤ (1 : Int) ∧ ifB (eqI (bits BinOp.and IntKind.u32 c_1 (1 : Int)) (1 : Int))
  (InI64 (v_2 + (1 : Int)) ∧ (∃ m_3 : Nat, m_3 < m_2 ∧ Inv_1 m_3 (bits BinOp.xor IntKind.u32 (shrI IntKind.u32 c_1 (1 : Int)) (3988292384 : Int)) (v_2 + (1 : Int)) g2))
  (InI64 (v_2 + (1 : Int)) ∧ (∃ m_3 : Nat, m_3 < m_2 ∧ Inv_1 m_3 (shrI IntKind.u32 c_1 (1 : Int)) (v_2 + (1 : Int)) g2)))
  (InI64 (v_1 + (1 : Int)) ∧ (∃ m_1 : Nat, m_1 < m ∧ Inv m_1 c_1 (v_1 + (1 : Int)) g2)))
  (∀ g3 : G, Ex g1 g3 →
  R (.int .u32 (bits BinOp.xor IntKind.u32 (if IntKind.u32.signed = true then -1 else IntKind.u32.max) c)) g3)
theorem F62_eq (ba : Option Addr) (bl : Nat) (bc : Nat) (g : G) (R : Value → G → Prop) : fnG cfg62 31 [.tmp 2] c62 an62 [(.slice ba bl bc)] g nobody R = F62 ba bl bc g R := by kernel_rfl
theorem call62 (ba : Option Addr) (bl : Nat) (bc : Nat) (g : G) (R : Value → G → Prop) (hF : F62 ba bl bc g R) : CallsG Try.prog 62 #[(.slice ba bl bc)] g nobody R :=
  fn_soundG (c := cfg62) TTok FNSok mixed Try.func62 (show Try.f62.body = some c62 by kernel_rfl) (show Try.f62.ntmps = 31 by kernel_rfl) (show Try.f62.results.toList = [.tmp 2] by kernel_rfl) rfl ((F62_eq ba bl bc g R).mpr hF)

/- 63 pilaster/pilasterref53.read -/
noncomputable def c63 : Code := match Try.f63.body with
  | some c => c
  | none => .skip
noncomputable def cfg63 : Cfg := ⟨Try.prog, TT, FNS, [], [], [], TCH, false, false⟩
def an63 : AnnG := (.seq .leaf (.seq (.tree 21 (.quiet 0 (.quiet 1 (.quiet 2 (.quiet 3 (.quiet 4 (.quiet 5 (.quiet 6 (.quiet 7 (.quiet 8 (.quiet 9 (.quiet 10 (.quiet 11 (.quiet 12 (.quiet 13 (.quiet 14 (.quiet 15 (.quiet 16 (.quiet 17 (.quiet 18 (.quiet 19 (.quiet 20 .fin)))))))))))))))))))))) .leaf))
def F63 (ba : Option Addr) (bl : Nat) (bc : Nat) (g : G) (R : Value → G → Prop) : Prop :=
  ∀ g1 : G, Ex g g1 →
  (0 ≤ (0 : Int) ∧ (0 : Int) < ((bl : Nat) : Int)) ∧ derefP ba fun ad => ∃ x : Int, g1.w.cell? (Addr.add ad (Int.toNat (0 : Int) * 1)) = some (.int .u8 x) ∧ InI64 x ∧ InI64 (x * (256 : Int)) ∧ (0 ≤ (1 : Int) ∧ (1 : Int) < ((bl : Nat) : Int)) ∧ derefP ba fun ad_1 => ∃ x_1 : Int, g1.w.cell? (Addr.add ad_1 (Int.toNat (1 : Int) * 1)) = some (.int .u8 x_1) ∧ InI64 x_1 ∧ InI64 ((x * (256 : Int)) + x_1) ∧ InI64 (((x * (256 : Int)) + x_1) * (256 : Int)) ∧ (0 ≤ (2 : Int) ∧ (2 : Int) < ((bl : Nat) : Int)) ∧ derefP ba fun ad_2 => ∃ x_2 : Int, g1.w.cell? (Addr.add ad_2 (Int.toNat (2 : Int) * 1)) = some (.int .u8 x_2) ∧ InI64 x_2 ∧ InI64 ((((x * (256 : Int)) + x_1) * (256 : Int)) + x_2) ∧ InI64 (((((x * (256 : Int)) + x_1) * (256 : Int)) + x_2) * (256 : Int)) ∧ (0 ≤ (3 : Int) ∧ (3 : Int) < ((bl : Nat) : Int)) ∧ derefP ba fun ad_3 => ∃ x_3 : Int, g1.w.cell? (Addr.add ad_3 (Int.toNat (3 : Int) * 1)) = some (.int .u8 x_3) ∧ InI64 x_3 ∧ InI64 ((((((x * (256 : Int)) + x_1) * (256 : Int)) + x_2) * (256 : Int)) + x_3) ∧ ∀ g2 : G, Ex g1 g2 →
  R (.int .i64 ((((((x * (256 : Int)) + x_1) * (256 : Int)) + x_2) * (256 : Int)) + x_3)) g2
theorem F63_eq (ba : Option Addr) (bl : Nat) (bc : Nat) (g : G) (R : Value → G → Prop) : fnG cfg63 25 [.tmp 2] c63 an63 [(.slice ba bl bc)] g nobody R = F63 ba bl bc g R := by kernel_rfl
theorem call63 (ba : Option Addr) (bl : Nat) (bc : Nat) (g : G) (R : Value → G → Prop) (hF : F63 ba bl bc g R) : CallsG Try.prog 63 #[(.slice ba bl bc)] g nobody R :=
  fn_soundG (c := cfg63) TTok FNSok mixed Try.func63 (show Try.f63.body = some c63 by kernel_rfl) (show Try.f63.ntmps = 25 by kernel_rfl) (show Try.f63.results.toList = [.tmp 2] by kernel_rfl) rfl ((F63_eq ba bl bc g R).mpr hF)

/- 64 slices.IndexFunc[[]pilaster/pilasterlaw53.Edit,pilaster/pilasterlaw53.Edit] -/
noncomputable def c64 : Code := match Try.f64.body with
  | some c => c
  | none => .skip
noncomputable def cfg64 : Cfg := ⟨Try.prog, TT, FNS, [], [], [], TCH, false, false⟩
def an64 : AnnG := (.seq .leaf (.seq (.seq .leaf (.blk (.loop ⟨[(8, .int .i64)], [], []⟩ (.seq .leaf (.seq (.cond .leaf .leaf) (.seq (.blk (.seq .leaf (.seq .leaf (.cond (.seq .leaf .leaf) .leaf)))) .leaf)))))) (.seq .leaf .leaf)))
def F64 (sa : Option Addr) (sl : Nat) (sc : Nat) (ff : FuncId) (fc : Array Value) (g : G) (R : Value → G → Prop) : Prop :=
  ∃ Inv : Nat → Int → G → Prop, ((∃ m0 : Nat, Inv m0 (0 : Int) g)) ∧
  ∀ m : Nat, ∀ v_1 : Int, ∀ g1 : G, Le g g1 → Inv m v_1 g1 →
  ifB (ltI v_1 ((sl : Nat) : Int))
  ((0 ≤ v_1 ∧ v_1 < ((sl : Nat) : Int)) ∧ derefP sa fun ad => ∃ x0 : ByteArray, ∃ x1a : Option Addr, ∃ x1l : Nat, ∃ x1c : Nat, ∃ x2 : Bool, g1.w.cell? (Addr.add ad (Int.toNat v_1 * 3)) = some (.string x0) ∧ g1.w.cell? (Addr.add (Addr.add ad (Int.toNat v_1 * 3)) 1) = some (.slice x1a x1l x1c) ∧ g1.w.cell? (Addr.add (Addr.add ad (Int.toNat v_1 * 3)) 2) = some (.bool x2) ∧ Enters Try.prog ff ∧ (CallsP Try.prog ff ((⟨[(.agg ⟨[(.string x0), (.slice x1a x1l x1c), (.bool x2)]⟩)]⟩ : Array Value) ++ fc) g1 fun v g2 =>
  ∃ x : Bool, v = (.bool x) ∧ ifB x
  (∀ g3 : G, Ex g2 g3 →
  R (.int .i64 v_1) g3)
  (InI64 (v_1 + (1 : Int)) ∧ (∃ m_1 : Nat, m_1 < m ∧ Inv m_1 (v_1 + (1 : Int)) g2))))
  (∀ g4 : G, Ex g1 g4 →
  R (.int .i64 (-1 : Int)) g4)
theorem F64_eq (sa : Option Addr) (sl : Nat) (sc : Nat) (ff : FuncId) (fc : Array Value) (g : G) (R : Value → G → Prop) : fnG cfg64 19 [.tmp 4] c64 an64 [(.slice sa sl sc), (.func (.func ff) #[] fc)] g nobody R = F64 sa sl sc ff fc g R := by kernel_rfl
theorem call64 (sa : Option Addr) (sl : Nat) (sc : Nat) (ff : FuncId) (fc : Array Value) (g : G) (R : Value → G → Prop) (hF : F64 sa sl sc ff fc g R) : CallsG Try.prog 64 #[(.slice sa sl sc), (.func (.func ff) #[] fc)] g nobody R :=
  fn_soundG (c := cfg64) TTok FNSok mixed Try.func64 (show Try.f64.body = some c64 by kernel_rfl) (show Try.f64.ntmps = 19 by kernel_rfl) (show Try.f64.results.toList = [.tmp 4] by kernel_rfl) rfl ((F64_eq sa sl sc ff fc g R).mpr hF)

/- 67 slices.pdqsortOrdered[string] -/
noncomputable def c67 : Code := match Try.f67.body with
  | some c => c
  | none => .skip
noncomputable def cfg67 : Cfg := ⟨Try.prog, TT, FNS, [], [], [], TCH, false, false⟩
def an67 : AnnG := (.seq .leaf (.seq .leaf (.blk (.loop ⟨[(1, .int .i64), (2, .int .i64), (3, .int .i64), (8, .bool), (9, .bool)], [], []⟩ (.blk (.seq .leaf (.seq (.seq .leaf (.cond (.seq .leaf .leaf) .leaf)) (.seq (.seq .leaf (.cond (.seq .leaf .leaf) .leaf)) (.join ⟨[(3, .int .i64)], [], []⟩ (.seq .leaf (.cond (.seq .leaf .leaf) .leaf)) (.seq .leaf (.join ⟨[(11, .int .i64), (12, .int .i64)], [], []⟩ (.seq .leaf (.cond (.seq .leaf (.seq .leaf .leaf)) .leaf)) (.join ⟨[], [], []⟩ (.join ⟨[(68, .bool)], [], []⟩ .leaf (.cond (.seq .leaf (.cond .leaf .leaf)) .leaf)) (.seq (.join ⟨[(87, .bool)], [], []⟩ (.tree 12 (.quiet 0 (.quiet 1 (.quiet 2 (.quiet 3 (.quiet 4 (.quiet 5 (.quiet 6 (.quiet 7 (.quiet 8 (.quiet 9 (.quiet 10 (.quiet 11 .fin))))))))))))) (.cond (.seq .leaf (.seq .leaf .leaf)) .leaf)) (.seq .leaf (.seq .leaf (.seq .leaf (.seq .leaf (.seq .leaf (.cond (.seq .leaf (.seq .leaf .leaf)) (.seq .leaf (.seq .leaf .leaf)))))))))))))))))))))
def F67 (dataa : Option Addr) (datal : Nat) (datac : Nat) (a : Int) (b : Int) (limit : Int) (g : G) (R : Value → G → Prop) : Prop :=
  ∃ Inv : Nat → Int → Int → Int → Bool → Bool → G → Prop, ((∃ m0 : Nat, Inv m0 a b limit true true g)) ∧
  ∀ m : Nat, ∀ a_1 : Int, ∀ b_1 : Int, ∀ limit_1 : Int, ∀ wasBalanced : Bool, ∀ wasPartitioned : Bool, ∀ g1 : G, Le g g1 → Inv m a_1 b_1 limit_1 wasBalanced wasPartitioned g1 →
  InI64 (b_1 - a_1) ∧ ifB (leI (b_1 - a_1) (12 : Int))
  ((CallsP Try.prog 70 #[(.slice dataa datal datac), (.int .i64 a_1), (.int .i64 b_1)] g1 fun v g2 =>
  v = (.tuple ⟨[]⟩) ∧ ∀ g3 : G, Ex g2 g3 →
  R (.tuple ⟨[]⟩) g3))
  (ifB (eqI limit_1 (0 : Int))
  ((CallsP Try.prog 71 #[(.slice dataa datal datac), (.int .i64 a_1), (.int .i64 b_1)] g1 fun v g4 =>
  v = (.tuple ⟨[]⟩) ∧ ∀ g5 : G, Ex g4 g5 →
  R (.tuple ⟨[]⟩) g5))
  (∀ J : Int → G → Prop,
  (∀ limit_2 : Int, ∀ g6 : G, ((CallsP Try.prog 73 #[(.slice dataa datal datac), (.int .i64 a_1), (.int .i64 b_1)] g6 fun v g7 =>
  ∃ x0 : Int, ∃ x1 : Int, v = (.tuple ⟨[(.int .i64 x0), (.int .i64 x1)]⟩) ∧ ∀ J_1 : Int → Int → G → Prop,
  (∀ pivot : Int, ∀ hint : Int, ∀ g8 : G, (∀ J_2 : G → Prop,
  (∀ g9 : G, (∀ J_3 : Bool → G → Prop,
  (∀ v_1 : Bool, ∀ g10 : G, (ifB v_1
  ((CallsP Try.prog 77 #[(.slice dataa datal datac), (.int .i64 a_1), (.int .i64 b_1), (.int .i64 pivot)] g10 fun v g11 =>
  ∃ mid : Int, v = (.int .i64 mid) ∧ (∃ m_1 : Nat, m_1 < m ∧ Inv m_1 mid b_1 limit_2 wasBalanced wasPartitioned g11)))
  ((CallsP Try.prog 78 #[(.slice dataa datal datac), (.int .i64 a_1), (.int .i64 b_1), (.int .i64 pivot)] g10 fun v g12 =>
  ∃ x0_1 : Int, ∃ x1_1 : Bool, v = (.tuple ⟨[(.int .i64 x0_1), (.bool x1_1)]⟩) ∧ InI64 (x0_1 - a_1) ∧ InI64 (b_1 - x0_1) ∧ (8 : Int) ≠ 0 ∧ InI64 (Int.tdiv (b_1 - a_1) (8 : Int)) ∧ ifB (ltI (x0_1 - a_1) (b_1 - x0_1))
  ((CallsP Try.prog 67 #[(.slice dataa datal datac), (.int .i64 a_1), (.int .i64 x0_1), (.int .i64 limit_2)] g12 fun v g13 =>
  v = (.tuple ⟨[]⟩) ∧ InI64 (x0_1 + (1 : Int)) ∧ (∃ m_1 : Nat, m_1 < m ∧ Inv m_1 (x0_1 + (1 : Int)) b_1 limit_2 (leI (Int.tdiv (b_1 - a_1) (8 : Int)) (x0_1 - a_1)) x1_1 g13)))
  (InI64 (x0_1 + (1 : Int)) ∧ (CallsP Try.prog 67 #[(.slice dataa datal datac), (.int .i64 (x0_1 + (1 : Int))), (.int .i64 b_1), (.int .i64 limit_2)] g12 fun v g14 =>
  v = (.tuple ⟨[]⟩) ∧ (∃ m_1 : Nat, m_1 < m ∧ Inv m_1 a_1 x0_1 limit_2 (leI (Int.tdiv (b_1 - a_1) (8 : Int)) (b_1 - x0_1)) x1_1 g14)))))) → J_3 v_1 g10) →
  ∀ g15 : G, Ex g9 g15 →
  ifB (ltI (0 : Int) a_1)
  (InI64 (a_1 - (1 : Int)) ∧ (0 ≤ (a_1 - (1 : Int)) ∧ (a_1 - (1 : Int)) < ((datal : Nat) : Int)) ∧ derefP dataa fun ad => ∃ x : ByteArray, g15.w.cell? (Addr.add ad (Int.toNat (a_1 - (1 : Int)) * 1)) = some (.string x) ∧ (0 ≤ pivot ∧ pivot < ((datal : Nat) : Int)) ∧ derefP dataa fun ad_1 => ∃ x_1 : ByteArray, g15.w.cell? (Addr.add ad_1 (Int.toNat pivot * 1)) = some (.string x_1) ∧ (CallsP Try.prog 76 #[(.string x), (.string x_1)] g15 fun v g16 =>
  ∃ x_2 : Bool, v = (.bool x_2) ∧ J_3 (!x_2) g16))
  (J_3 false g15)) → J_2 g9) →
  ∀ J_4 : Bool → G → Prop,
  (∀ v_2 : Bool, ∀ g17 : G, (ifB v_2
  ((CallsP Try.prog 75 #[(.slice dataa datal datac), (.int .i64 a_1), (.int .i64 b_1)] g17 fun v g18 =>
  ∃ x_3 : Bool, v = (.bool x_3) ∧ ifB x_3
  (∀ g19 : G, Ex g18 g19 →
  R (.tuple ⟨[]⟩) g19)
  (J_2 g18)))
  (J_2 g17)) → J_4 v_2 g17) →
  ifB wasBalanced
  (ifB wasPartitioned
  (J_4 (eqI hint (1 : Int)) g8)
  (J_4 false g8))
  (J_4 false g8)) → J_1 pivot hint g8) →
  ifB (eqI x1 (2 : Int))
  ((CallsP Try.prog 74 #[(.slice dataa datal datac), (.int .i64 a_1), (.int .i64 b_1)] g7 fun v g20 =>
  v = (.tuple ⟨[]⟩) ∧ InI64 (b_1 - (1 : Int)) ∧ InI64 (x0 - a_1) ∧ InI64 ((b_1 - (1 : Int)) - (x0 - a_1)) ∧ J_1 ((b_1 - (1 : Int)) - (x0 - a_1)) (1 : Int) g20))
  (J_1 x0 x1 g7))) → J limit_2 g6) →
  ifB (!wasBalanced)
  ((CallsP Try.prog 72 #[(.slice dataa datal datac), (.int .i64 a_1), (.int .i64 b_1)] g1 fun v g21 =>
  v = (.tuple ⟨[]⟩) ∧ InI64 (limit_1 - (1 : Int)) ∧ J (limit_1 - (1 : Int)) g21))
  (J limit_1 g1)))
theorem F67_eq (dataa : Option Addr) (datal : Nat) (datac : Nat) (a : Int) (b : Int) (limit : Int) (g : G) (R : Value → G → Prop) : fnG cfg67 134 [] c67 an67 [(.slice dataa datal datac), (.int .i64 a), (.int .i64 b), (.int .i64 limit)] g nobody R = F67 dataa datal datac a b limit g R := by kernel_rfl
theorem call67 (dataa : Option Addr) (datal : Nat) (datac : Nat) (a : Int) (b : Int) (limit : Int) (g : G) (R : Value → G → Prop) (hF : F67 dataa datal datac a b limit g R) : CallsG Try.prog 67 #[(.slice dataa datal datac), (.int .i64 a), (.int .i64 b), (.int .i64 limit)] g nobody R :=
  fn_soundG (c := cfg67) TTok FNSok mixed Try.func67 (show Try.f67.body = some c67 by kernel_rfl) (show Try.f67.ntmps = 134 by kernel_rfl) (show Try.f67.results.toList = [] by kernel_rfl) rfl ((F67_eq dataa datal datac a b limit g R).mpr hF)

/- 68 math/bits.Len -/
noncomputable def c68 : Code := match Try.f68.body with
  | some c => c
  | none => .skip
noncomputable def cfg68 : Cfg := ⟨Try.prog, TT, FNS, [], [], [], TCH, false, false⟩
def an68 : AnnG := (.seq .leaf (.seq (.cond (.seq .leaf .leaf) .leaf) (.seq .leaf .leaf)))
def F68 (x : Int) (g : G) (R : Value → G → Prop) : Prop :=
  (CallsP Try.prog 80 #[(.int .u64 x)] g fun v g1 =>
  ∃ x_1 : Int, v = (.int .i64 x_1) ∧ ∀ g2 : G, Ex g1 g2 →
  R (.int .i64 x_1) g2)
theorem F68_eq (x : Int) (g : G) (R : Value → G → Prop) : fnG cfg68 8 [.tmp 2] c68 an68 [(.int .u64 x)] g nobody R = F68 x g R := by kernel_rfl
theorem call68 (x : Int) (g : G) (R : Value → G → Prop) (hF : F68 x g R) : CallsG Try.prog 68 #[(.int .u64 x)] g nobody R :=
  fn_soundG (c := cfg68) TTok FNSok mixed Try.func68 (show Try.f68.body = some c68 by kernel_rfl) (show Try.f68.ntmps = 8 by kernel_rfl) (show Try.f68.results.toList = [.tmp 2] by kernel_rfl) rfl ((F68_eq x g R).mpr hF)

/- 69 slices.Grow[[]byte,byte] -/
noncomputable def c69 : Code := match Try.f69.body with
  | some c => c
  | none => .skip
noncomputable def cfg69 : Cfg := ⟨Try.prog, TT, FNS, [], [], [], TCH, false, false⟩
def an69 : AnnG := (.seq .leaf (.join ⟨[], [], []⟩ (.seq .leaf (.cond .leaf .leaf)) (.seq (.seq .leaf (.seq .leaf (.cond .leaf .leaf))) (.seq .leaf .leaf))))
def F69 (sa : Option Addr) (sl : Nat) (sc : Nat) (n : Int) (g : G) (R : Value → G → Prop) : Prop :=
  ∀ J : G → Prop,
  (∀ g1 : G, (InI64 (((sc : Nat) : Int) - ((sl : Nat) : Int)) ∧ InI64 (n - (((sc : Nat) : Int) - ((sl : Nat) : Int))) ∧ ifB (ltI (0 : Int) (n - (((sc : Nat) : Int) - ((sl : Nat) : Int))))
  ((0 ≤ ((sc : Nat) : Int) ∧ ((sc : Nat) : Int) ≤ ((sc : Nat) : Int)) ∧ ∃ xa : Option Addr, ∃ xl : Nat, ∃ xc : Nat, ∃ w1 : World, Sem.run Try.prog (Builtin.append_ #[22, 3] 22 #[(.slice (slAddr sa sc 0 1) ((Int.toNat ((sc : Nat) : Int)) - 0) (sc - 0)), (.int .i64 (n - (((sc : Nat) : Int) - ((sl : Nat) : Int))))]) g1.w = .ok (.slice xa xl xc) w1 ∧ ∃ g2 : G, g2.w = w1 ∧ Stp g.w.heap.size nobody g1 g2 ∧ (0 ≤ ((sl : Nat) : Int) ∧ ((sl : Nat) : Int) ≤ ((xc : Nat) : Int)) ∧ ∀ g3 : G, Ex g2 g3 →
  R (.slice (slAddr xa xc 0 1) ((Int.toNat ((sl : Nat) : Int)) - 0) (xc - 0)) g3)
  (∀ g4 : G, Ex g1 g4 →
  R (.slice sa sl sc) g4)) → J g1) →
  ifB (ltI n (0 : Int))
  (False)
  (J g)
theorem F69_eq (sa : Option Addr) (sl : Nat) (sc : Nat) (n : Int) (g : G) (R : Value → G → Prop) : fnG cfg69 27 [.tmp 4] c69 an69 [(.slice sa sl sc), (.int .i64 n)] g nobody R = F69 sa sl sc n g R := by kernel_rfl
theorem call69 (sa : Option Addr) (sl : Nat) (sc : Nat) (n : Int) (g : G) (R : Value → G → Prop) (hF : F69 sa sl sc n g R) : CallsG Try.prog 69 #[(.slice sa sl sc), (.int .i64 n)] g nobody R :=
  fn_soundG (c := cfg69) TTok FNSok mixed Try.func69 (show Try.f69.body = some c69 by kernel_rfl) (show Try.f69.ntmps = 27 by kernel_rfl) (show Try.f69.results.toList = [.tmp 4] by kernel_rfl) rfl ((F69_eq sa sl sc n g R).mpr hF)
end Go.Proofs.Ytlofbfbcnlgmaaa
