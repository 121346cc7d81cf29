/- Printed by a program (wip/tools/gen2.py): for each function its condition as a plain formula, and that the formula gives the call. -/
import Derived.Test.YtfmjipgcbecamaaDoorProg
import Derived.Test.YtfmjipgcbecamaaDoorVda
namespace Go.Proofs.YtfmjipgcbecamaaDoor.PV
open Go Go.Vc Go.RowKit
set_option maxRecDepth 100000
set_option linter.unusedVariables false
def TT : List TI := [
  ⟨3, .int .i64, 1, 8, some (.int .i64 (0 : Int)), (.e (.one (.int .i64)))⟩,
  ⟨4, .bool, 1, 1, some (.bool false), (.e (.one (.bool)))⟩,
  ⟨9, .string, 1, 16, some (.string (bs [])), (.e (.one (.str)))⟩,
  ⟨22, .slice 24, 1, 24, some (.slice none 0 0), (.e (.one (.sl)))⟩,
  ⟨24, .struct #[{ name := "Op", type := 3, offset := 0, embedded := false, tag := "", pkgPath := "", byteOffset := 0 }, { name := "N", type := 3, offset := 1, embedded := false, tag := "", pkgPath := "", byteOffset := 8 }, { name := "S", type := 9, offset := 2, embedded := false, tag := "", pkgPath := "", byteOffset := 16 }, { name := "L", type := 22, offset := 3, embedded := false, tag := "", pkgPath := "", byteOffset := 32 }], 4, 56, some (.agg ⟨[(.int .i64 (0 : Int)), (.int .i64 (0 : Int)), (.string (bs [])), (.slice none 0 0)]⟩), (.e (.agg [(.int .i64), (.int .i64), (.str), (.sl)]))⟩,
  ⟨27, .slice 9, 1, 24, some (.slice none 0 0), (.e (.one (.sl)))⟩,
  ⟨28, .slice 30, 1, 24, some (.slice none 0 0), (.e (.one (.sl)))⟩,
  ⟨30, .struct #[{ name := "Op", type := 3, offset := 0, embedded := false, tag := "", pkgPath := "", byteOffset := 0 }, { name := "N", type := 3, offset := 1, embedded := false, tag := "", pkgPath := "", byteOffset := 8 }, { name := "S", type := 9, offset := 2, embedded := false, tag := "", pkgPath := "", byteOffset := 16 }, { name := "Names", type := 27, offset := 3, embedded := false, tag := "", pkgPath := "", byteOffset := 32 }, { name := "L", type := 28, offset := 4, embedded := false, tag := "", pkgPath := "", byteOffset := 56 }], 5, 80, some (.agg ⟨[(.int .i64 (0 : Int)), (.int .i64 (0 : Int)), (.string (bs [])), (.slice none 0 0), (.slice none 0 0)]⟩), (.e (.agg [(.int .i64), (.int .i64), (.str), (.sl), (.sl)]))⟩,
  ⟨32, .struct #[{ name := "Op", type := 3, offset := 0, embedded := false, tag := "", pkgPath := "", byteOffset := 0 }, { name := "N", type := 3, offset := 1, embedded := false, tag := "", pkgPath := "", byteOffset := 8 }, { name := "Steps", type := 3, offset := 2, embedded := false, tag := "", pkgPath := "", byteOffset := 16 }, { name := "V", type := 30, offset := 3, embedded := false, tag := "", pkgPath := "", byteOffset := 24 }, { name := "Out", type := 27, offset := 8, embedded := false, tag := "", pkgPath := "", byteOffset := 104 }], 9, 128, some (.agg ⟨[(.int .i64 (0 : Int)), (.int .i64 (0 : Int)), (.int .i64 (0 : Int)), (.int .i64 (0 : Int)), (.int .i64 (0 : Int)), (.string (bs [])), (.slice none 0 0), (.slice none 0 0), (.slice none 0 0)]⟩), (.e (.agg [(.int .i64), (.int .i64), (.int .i64), (.int .i64), (.int .i64), (.str), (.sl), (.sl), (.sl)]))⟩,
  ⟨33, .int .i64, 1, 8, some (.int .i64 (0 : Int)), (.e (.one (.int .i64)))⟩,
  ⟨34, .tuple #[32, 33], 1, 0, some (.tuple ⟨[(.agg ⟨[(.int .i64 (0 : Int)), (.int .i64 (0 : Int)), (.int .i64 (0 : Int)), (.int .i64 (0 : Int)), (.int .i64 (0 : Int)), (.string (bs [])), (.slice none 0 0), (.slice none 0 0), (.slice none 0 0)]⟩), (.int .i64 (0 : Int))]⟩), (.tup [(.agg [(.int .i64), (.int .i64), (.int .i64), (.int .i64), (.int .i64), (.str), (.sl), (.sl), (.sl)]), (.one (.int .i64))])⟩,
  ⟨47, .func #[24] #[30] false, 1, 8, some .nilFunc, (.e (.one (.fn)))⟩]
theorem TTok : TOk Tryd.prog TT := tok_of (by kernel_rfl)
def FNS : List Nat := [9, 10, 11, 20, 22, 23]
theorem FNSok : FOk Tryd.prog FNS := fok_of (by kernel_rfl)
theorem mixed : Tryd.prog.follows .mixedOrders = true := by kernel_rfl
def TCH : List Nat := [21, 34, 47, 48, 64, 66, 67, 86, 87, 88, 94, 97]
def PNF : List Nat := [47, 48, 64, 66, 67, 86, 87, 88, 94, 97]

/- 6 pilaster/pilasterlaw44.LambdaValues -/
noncomputable def c6 : Code := match Tryd.f6.body with
  | some c => c
  | none => .skip
noncomputable def cfg6 : Cfg := ⟨Tryd.prog, TT, FNS, [1, 5, 6], [(1, 1), (5, 5), (6, 6), (29, 6), (34, 6), (41, 6), (46, 6)], [4], TCH, true, false, none, PNF, false⟩
def an6 : AnnG := (.seq .leaf (.seq (.seq .leaf (.cond (.seq .leaf .leaf) .leaf)) (.join ⟨[], [], []⟩ (.seq .leaf (.cond (.seq .leaf .leaf) .leaf)) (.seq .leaf (.seq .leaf (.seq .leaf (.seq .leaf (.seq .leaf (.join ⟨[], [], []⟩ (.seq .leaf (.cond (.seq .leaf .leaf) .leaf)) (.seq (.tree 11 (.quiet 0 (.quiet 1 (.quiet 2 (.quiet 3 (.quiet 4 (.eff 5 (.quiet 6 (.quiet 7 (.quiet 8 (.quiet 9 (.eff 10 .fin .fin))))) .fin))))))) .leaf))))))))))
def F6 (x0 : Int) (x1 : Int) (x2 : ByteArray) (x3a : Option Addr) (x3l : Nat) (x3c : Nat) (g : G) (R : Value → G → Prop) : Prop :=
  ∀ g1 : G, Ex g g1 →
  (CallsP Tryd.prog 9 #[] g1 fun v g2 =>
  ∃ x : Bool, v = (.bool x) ∧ ifB (!x)
  (∀ g3 : G, Ex g2 g3 →
  R (.bool false) g3)
  (∀ J : G → Prop,
  (∀ g4 : G, (∀ g5 : G, NewD g4 g5 4 [(.bool false)] →
  stOk g5.w ⟨g4.w.heap.size, 0, none⟩ 1 ∧ ¬ g5.X (Addr.block ⟨g4.w.heap.size, 0, none⟩) ∧ mutAt g5 ⟨g4.w.heap.size, 0, none⟩ 1 ∧ ((Addr.block ⟨g4.w.heap.size, 0, none⟩) < g.w.heap.size → nobody (Addr.block ⟨g4.w.heap.size, 0, none⟩)) ∧ ∀ g6 : G, StG false g5 ⟨g4.w.heap.size, 0, none⟩ [(.bool false)] g6 →
  ∀ g7 : G, NewD g6 g7 47 [.nilFunc] →
  stOk g7.w ⟨g6.w.heap.size, 0, none⟩ 1 ∧ ¬ g7.X (Addr.block ⟨g6.w.heap.size, 0, none⟩) ∧ mutAt g7 ⟨g6.w.heap.size, 0, none⟩ 1 ∧ ((Addr.block ⟨g6.w.heap.size, 0, none⟩) < g.w.heap.size → nobody (Addr.block ⟨g6.w.heap.size, 0, none⟩)) ∧ ∀ g8 : G, StG true g7 ⟨g6.w.heap.size, 0, none⟩ [(.func (.func 21) #[] ⟨[(.pointer (some ⟨g4.w.heap.size, 0, none⟩)), (.pointer (some ⟨g6.w.heap.size, 0, none⟩))]⟩)] g8 →
  ∃ writtenf : FuncId, ∃ writtenc : Array Value, g8.w.cell? ⟨g6.w.heap.size, 0, none⟩ = some (.func (.func writtenf) #[] writtenc) ∧ Enters Tryd.prog writtenf ∧ ∃ M1 : Nat → Prop, (∀ b, b < g.w.heap.size → M1 b → nobody b) ∧ (CallsG Tryd.prog writtenf ((⟨[(.agg ⟨[(.int .i64 x0), (.int .i64 x1), (.string x2), (.slice x3a x3l x3c)]⟩)]⟩ : Array Value) ++ writtenc) g8 M1 fun v g9 =>
  ∃ x0_1 : Int, ∃ x1_1 : Int, ∃ x2_1 : ByteArray, ∃ x3a_1 : Option Addr, ∃ x3l_1 : Nat, ∃ x3c_1 : Nat, ∃ x4a : Option Addr, ∃ x4l : Nat, ∃ x4c : Nat, v = (.agg ⟨[(.int .i64 x0_1), (.int .i64 x1_1), (.string x2_1), (.slice x3a_1 x3l_1 x3c_1), (.slice x4a x4l x4c)]⟩) ∧ ∀ g10 : G, Ex g9 g10 →
  (CallsP Tryd.prog 11 #[(.agg ⟨[(.int .i64 x0), (.int .i64 x1), (.string x2), (.slice x3a x3l x3c)]⟩), (.int .i64 (5000 : Int))] g10 fun v g11 =>
  ∃ x00 : Int, ∃ x01 : Int, ∃ x02 : Int, ∃ x03 : Int, ∃ x04 : Int, ∃ x05 : ByteArray, ∃ x06a : Option Addr, ∃ x06l : Nat, ∃ x06c : Nat, ∃ x07a : Option Addr, ∃ x07l : Nat, ∃ x07c : Nat, ∃ x08a : Option Addr, ∃ x08l : Nat, ∃ x08c : Nat, ∃ x1_2 : Int, v = (.tuple ⟨[(.agg ⟨[(.int .i64 x00), (.int .i64 x01), (.int .i64 x02), (.int .i64 x03), (.int .i64 x04), (.string x05), (.slice x06a x06l x06c), (.slice x07a x07l x07c), (.slice x08a x08l x08c)]⟩), (.int .i64 x1_2)]⟩) ∧ ∀ J_1 : G → Prop,
  (∀ g12 : G, (∀ g13 : G, Ex g12 g13 →
  ∃ functions : Bool, g13.w.cell? ⟨g4.w.heap.size, 0, none⟩ = some (.bool functions) ∧ ifB functions
  (∀ g14 : G, Ex g13 g14 →
  R (.bool true) g14)
  ((CallsP Tryd.prog 22 #[(.agg ⟨[(.int .i64 x03), (.int .i64 x04), (.string x05), (.slice x06a x06l x06c), (.slice x07a x07l x07c)]⟩), (.agg ⟨[(.int .i64 x0_1), (.int .i64 x1_1), (.string x2_1), (.slice x3a_1 x3l_1 x3c_1), (.slice x4a x4l x4c)]⟩)] g13 fun v g15 =>
  ∃ x_1 : Bool, v = (.bool x_1) ∧ ifB x_1
  ((CallsP Tryd.prog 23 #[(.agg ⟨[(.int .i64 x0), (.int .i64 x1), (.string x2), (.slice x3a x3l x3c)]⟩)] g15 fun v g16 =>
  ∃ x_2 : Int, v = (.int .i64 x_2) ∧ ∀ g17 : G, Ex g16 g17 →
  R (.bool (eqI x02 x_2)) g17))
  (∀ g18 : G, Ex g15 g18 →
  R (.bool false) g18)))) → J_1 g12) →
  ifB (!eqI x1_2 (0 : Int))
  (∀ g19 : G, Ex g11 g19 →
  R (.bool false) g19)
  (ifB (!eqI x00 (1 : Int))
  (∀ g20 : G, Ex g11 g20 →
  R (.bool false) g20)
  (ifB (!eqI ((x08l : Nat) : Int) (0 : Int))
  (∀ g21 : G, Ex g11 g21 →
  R (.bool false) g21)
  (∀ g22 : G, Ex g11 g22 →
  J_1 g22)))))) → J g4) →
  (CallsP Tryd.prog 10 #[(.agg ⟨[(.int .i64 x0), (.int .i64 x1), (.string x2), (.slice x3a x3l x3c)]⟩)] g2 fun v g23 =>
  ∃ x_3 : Bool, v = (.bool x_3) ∧ ifB x_3
  (∀ g24 : G, Ex g23 g24 →
  R (.bool true) g24)
  ((CallsP Tryd.prog 20 #[(.agg ⟨[(.int .i64 x0), (.int .i64 x1), (.string x2), (.slice x3a x3l x3c)]⟩)] g23 fun v g25 =>
  ∃ x_4 : Bool, v = (.bool x_4) ∧ ifB (!x_4)
  (∀ g26 : G, Ex g25 g26 →
  R (.bool true) g26)
  (J g25))))))
theorem F6_eq (x0 : Int) (x1 : Int) (x2 : ByteArray) (x3a : Option Addr) (x3l : Nat) (x3c : Nat) (g : G) (R : Value → G → Prop) : fnG cfg6 53 [.tmp 2] c6 an6 [(.agg ⟨[(.int .i64 x0), (.int .i64 x1), (.string x2), (.slice x3a x3l x3c)]⟩)] g nobody R = F6 x0 x1 x2 x3a x3l x3c g R := by kernel_rfl
theorem call6 (x0 : Int) (x1 : Int) (x2 : ByteArray) (x3a : Option Addr) (x3l : Nat) (x3c : Nat) (g : G) (R : Value → G → Prop) (hF : F6 x0 x1 x2 x3a x3l x3c g R) : CallsG Tryd.prog 6 #[(.agg ⟨[(.int .i64 x0), (.int .i64 x1), (.string x2), (.slice x3a x3l x3c)]⟩)] g nobody R :=
  fn_soundG (c := cfg6) TTok FNSok mixed Tryd.func6 (show Tryd.f6.body = some c6 by kernel_rfl) (show Tryd.f6.ntmps = 53 by kernel_rfl) (show Tryd.f6.results.toList = [.tmp 2] by kernel_rfl) rfl ((F6_eq x0 x1 x2 x3a x3l x3c g R ).mpr hF)

/- 21 pilaster/pilasterlaw44.LambdaValues$1 -/
noncomputable def c21 : Code := match Tryd.f21.body with
  | some c => c
  | none => .skip
noncomputable def cfg21 : Cfg := ⟨Tryd.prog, TT, FNS, [3, 4, 5, 7], [(3, 3), (4, 4), (5, 5), (7, 7), (8, 3), (10, 3), (13, 3), (18, 5), (21, 5), (24, 5), (27, 5), (28, 3), (35, 5), (42, 5)], [], TCH, true, false, none, PNF, false⟩
def an21 : AnnG := (.seq .leaf (.seq .leaf (.join ⟨[], [(4, 4, 0), (5, 5, 0)], [(4, [(.int .i64), (.int .i64), (.str), (.sl), (.sl)]), (5, [(.int .i64), (.int .i64), (.str), (.sl), (.sl)])]⟩ (.seq .leaf (.blk (.seq .leaf (.cond .leaf (.seq .leaf (.cond .leaf (.seq .leaf (.cond .leaf (.seq .leaf (.cond .leaf (.seq .leaf (.seq .leaf .leaf)))))))))))) (.seq (.seq .leaf (.blk (.loop ⟨[(31, .int .i64)], [(5, 5, 0)], [(5, [(.int .i64), (.int .i64), (.str), (.sl), (.sl)])]⟩ (.seq .leaf (.seq (.cond .leaf .leaf) (.seq (.blk (.seq .leaf (.treeP true [5] 6 (.quiet 0 (.quiet 2 (.quiet 3 (.eff 1 (.eff 4 (.eff 5 .fin .fin) .fin) (.eff 4 (.eff 1 (.eff 5 .fin .fin) (.eff 5 (.eff 1 .fin .fin) .fin)) .fin)))))))) .leaf)))))) (.seq .leaf .leaf)))))
def F21 (x0 : Int) (x1 : Int) (x2 : ByteArray) (x3a : Option Addr) (x3l : Nat) (x3c : Nat) (c0 : Option Addr) (c1 : Option Addr) (g : G) (M : Nat → Prop) (R : Value → G → Prop) : Prop :=
  ∀ g1 : G, Ex g g1 →
  ∀ J : Int → Int → ByteArray → Option Addr → Nat → Nat → Option Addr → Nat → Nat → Int → Int → ByteArray → Option Addr → Nat → Nat → Option Addr → Nat → Nat → G → Prop,
  (∀ x0_1 : Int, ∀ x1_1 : Int, ∀ x2_1 : ByteArray, ∀ x3a_1 : Option Addr, ∀ x3l_1 : Nat, ∀ x3c_1 : Nat, ∀ x4a : Option Addr, ∀ x4l : Nat, ∀ x4c : Nat, ∀ v0 : Int, ∀ v1 : Int, ∀ v2 : ByteArray, ∀ v3a : Option Addr, ∀ v3l : Nat, ∀ v3c : Nat, ∀ v4a : Option Addr, ∀ v4l : Nat, ∀ v4c : Nat, ∀ g2 : G, (∃ Inv : Nat → Int → Int → Int → ByteArray → Option Addr → Nat → Nat → Option Addr → Nat → Nat → G → Prop, ((∃ m0 : Nat, Inv m0 (0 : Int) v0 v1 v2 v3a v3l v3c v4a v4l v4c g2)) ∧
  ∀ m : Nat, ∀ v_1 : Int, ∀ v0_1 : Int, ∀ v1_1 : Int, ∀ v2_1 : ByteArray, ∀ v3a_1 : Option Addr, ∀ v3l_1 : Nat, ∀ v3c_1 : Nat, ∀ v4a_1 : Option Addr, ∀ v4l_1 : Nat, ∀ v4c_1 : Nat, ∀ g3 : G, Le g2 g3 → Inv m v_1 v0_1 v1_1 v2_1 v3a_1 v3l_1 v3c_1 v4a_1 v4l_1 v4c_1 g3 →
  ifB (ltI v_1 ((x3l : Nat) : Int))
  ((0 ≤ v_1 ∧ v_1 < ((x3l : Nat) : Int)) ∧ derefP x3a fun ad => ∃ x0_2 : Int, ∃ x1_2 : Int, ∃ x2_2 : ByteArray, ∃ x3a_2 : Option Addr, ∃ x3l_2 : Nat, ∃ x3c_2 : Nat, g3.w.cell? (Addr.add ad (Int.toNat v_1 * 4)) = some (.int .i64 x0_2) ∧ g3.w.cell? (Addr.add (Addr.add ad (Int.toNat v_1 * 4)) 1) = some (.int .i64 x1_2) ∧ g3.w.cell? (Addr.add (Addr.add ad (Int.toNat v_1 * 4)) 2) = some (.string x2_2) ∧ g3.w.cell? (Addr.add (Addr.add ad (Int.toNat v_1 * 4)) 3) = some (.slice x3a_2 x3l_2 x3c_2) ∧ ∀ g4 : G, Ex g3 g4 →
  ∃ MR1 : Nat → Prop, (∀ b, MR1 b → ¬ g4.X b) ∧ derefP c1 fun ad_1 => ¬ g4.X (Addr.block ad_1) ∧ ¬ MR1 (Addr.block ad_1) ∧ ∃ xf : FuncId, ∃ xc : Array Value, g4.w.cell? ad_1 = some (.func (.func xf) #[] xc) ∧ (∀ g5 : G, Ex g4 g5 →
  Enters Tryd.prog xf ∧ ∃ M2 : Nat → Prop, (∀ b, b < g.w.heap.size → M2 b → M b) ∧ (CallsG Tryd.prog xf ((⟨[(.agg ⟨[(.int .i64 x0_2), (.int .i64 x1_2), (.string x2_2), (.slice x3a_2 x3l_2 x3c_2)]⟩)]⟩ : Array Value) ++ xc) g5 M2 fun v g6 =>
  ∃ x0_3 : Int, ∃ x1_3 : Int, ∃ x2_3 : ByteArray, ∃ x3a_3 : Option Addr, ∃ x3l_3 : Nat, ∃ x3c_3 : Nat, ∃ x4a_1 : Option Addr, ∃ x4l_1 : Nat, ∃ x4c_1 : Nat, v = (.agg ⟨[(.int .i64 x0_3), (.int .i64 x1_3), (.string x2_3), (.slice x3a_3 x3l_3 x3c_3), (.slice x4a_1 x4l_1 x4c_1)]⟩) ∧ SameBut MR1 g4 g6 ∧ ∀ g7 : G, Ex g6 g7 →
  ∀ g8 : G, NewL g7 g8 30 [(.int .i64 x0_3), (.int .i64 x1_3), (.string x2_3), (.slice x3a_3 x3l_3 x3c_3), (.slice x4a_1 x4l_1 x4c_1)] →
  ∃ xa : Option Addr, ∃ xl : Nat, ∃ xc_1 : Nat, ∃ wo1 : World, Sem.run Tryd.prog (Builtin.append_ #[28, 28] 28 #[(.slice v4a_1 v4l_1 v4c_1), (.slice (some ⟨g7.w.heap.size, 0, none⟩) 1 1)]) g8.w = .ok (.slice xa xl xc_1) wo1 ∧ ∃ g9 : G, g9.w = wo1 ∧ Stp g.w.heap.size M g8 g9 ∧ InI64 (v_1 + (1 : Int)) ∧ ∀ g10 : G, Ex g9 g10 →
  (∃ m_1 : Nat, m_1 < m ∧ Inv m_1 (v_1 + (1 : Int)) v0_1 v1_1 v2_1 v3a_1 v3l_1 v3c_1 xa xl xc_1 g10))) ∧ (∀ g11 : G, Ex g4 g11 →
  Enters Tryd.prog xf ∧ ∃ M3 : Nat → Prop, (∀ b, b < g.w.heap.size → M3 b → M b) ∧ (CallsG Tryd.prog xf ((⟨[(.agg ⟨[(.int .i64 x0_2), (.int .i64 x1_2), (.string x2_2), (.slice x3a_2 x3l_2 x3c_2)]⟩)]⟩ : Array Value) ++ xc) g11 M3 fun v g12 =>
  ∃ x0_4 : Int, ∃ x1_4 : Int, ∃ x2_4 : ByteArray, ∃ x3a_4 : Option Addr, ∃ x3l_4 : Nat, ∃ x3c_4 : Nat, ∃ x4a_2 : Option Addr, ∃ x4l_2 : Nat, ∃ x4c_2 : Nat, v = (.agg ⟨[(.int .i64 x0_4), (.int .i64 x1_4), (.string x2_4), (.slice x3a_4 x3l_4 x3c_4), (.slice x4a_2 x4l_2 x4c_2)]⟩) ∧ SameBut MR1 g4 g12 ∧ Rep 1 (∀ g13 : G, Ex g12 g13 →
  ∀ g14 : G, NewL g13 g14 30 [(.int .i64 x0_4), (.int .i64 x1_4), (.string x2_4), (.slice x3a_4 x3l_4 x3c_4), (.slice x4a_2 x4l_2 x4c_2)] →
  ∃ xa_1 : Option Addr, ∃ xl_1 : Nat, ∃ xc_2 : Nat, ∃ wo2 : World, Sem.run Tryd.prog (Builtin.append_ #[28, 28] 28 #[(.slice v4a_1 v4l_1 v4c_1), (.slice (some ⟨g13.w.heap.size, 0, none⟩) 1 1)]) g14.w = .ok (.slice xa_1 xl_1 xc_2) wo2 ∧ ∃ g15 : G, g15.w = wo2 ∧ Stp g.w.heap.size M g14 g15 ∧ InI64 (v_1 + (1 : Int)) ∧ ∀ g16 : G, Ex g15 g16 →
  (∃ m_1 : Nat, m_1 < m ∧ Inv m_1 (v_1 + (1 : Int)) v0_1 v1_1 v2_1 v3a_1 v3l_1 v3c_1 xa_1 xl_1 xc_2 g16)))))
  (∀ g21 : G, Ex g3 g21 →
  R (.agg ⟨[(.int .i64 v0_1), (.int .i64 v1_1), (.string v2_1), (.slice v3a_1 v3l_1 v3c_1), (.slice v4a_1 v4l_1 v4c_1)]⟩) g21)) → J x0_1 x1_1 x2_1 x3a_1 x3l_1 x3c_1 x4a x4l x4c v0 v1 v2 v3a v3l v3c v4a v4l v4c g2) →
  ifB (eqI x0 (2 : Int))
  (∀ g22 : G, Ex g1 g22 →
  J (0 : Int) (0 : Int) (bs []) none 0 0 none 0 0 (1 : Int) x1 x2 none 0 0 none 0 0 g22)
  (ifB (eqI x0 (3 : Int))
  (∀ g23 : G, Ex g1 g23 →
  J (0 : Int) (0 : Int) (bs []) none 0 0 none 0 0 (2 : Int) x1 x2 none 0 0 none 0 0 g23)
  (ifB (eqI x0 (6 : Int))
  (∀ g24 : G, Ex g1 g24 →
  J (0 : Int) (0 : Int) (bs []) none 0 0 none 0 0 (3 : Int) x1 x2 none 0 0 none 0 0 g24)
  (ifB (eqI x0 (8 : Int))
  (∀ g25 : G, Ex g1 g25 →
  J (0 : Int) (0 : Int) (bs []) none 0 0 none 0 0 (4 : Int) x1 x2 none 0 0 none 0 0 g25)
  (∀ g26 : G, Ex g1 g26 →
  derefP c0 fun ad_2 => stOk g26.w ad_2 1 ∧ ¬ g26.X (Addr.block ad_2) ∧ mutAt g26 ad_2 1 ∧ ((Addr.block ad_2) < g.w.heap.size → M (Addr.block ad_2)) ∧ ∀ g27 : G, StG false g26 ad_2 [(.bool true)] g27 →
  ∀ g28 : G, Ex g27 g28 →
  R (.agg ⟨[(.int .i64 (0 : Int)), (.int .i64 x1), (.string x2), (.slice none 0 0), (.slice none 0 0)]⟩) g28))))
theorem F21_eq (x0 : Int) (x1 : Int) (x2 : ByteArray) (x3a : Option Addr) (x3l : Nat) (x3c : Nat) (c0 : Option Addr) (c1 : Option Addr) (g : G) (M : Nat → Prop) (R : Value → G → Prop) : fnG cfg21 45 [.cell 4 30] c21 an21 [(.agg ⟨[(.int .i64 x0), (.int .i64 x1), (.string x2), (.slice x3a x3l x3c)]⟩), (.pointer c0), (.pointer c1)] g M R = F21 x0 x1 x2 x3a x3l x3c c0 c1 g M R := by kernel_rfl
theorem call21 (x0 : Int) (x1 : Int) (x2 : ByteArray) (x3a : Option Addr) (x3l : Nat) (x3c : Nat) (c0 : Option Addr) (c1 : Option Addr) (g : G) (M : Nat → Prop) (R : Value → G → Prop) (hF : F21 x0 x1 x2 x3a x3l x3c c0 c1 g M R) : CallsG Tryd.prog 21 #[(.agg ⟨[(.int .i64 x0), (.int .i64 x1), (.string x2), (.slice x3a x3l x3c)]⟩), (.pointer c0), (.pointer c1)] g M R :=
  fn_soundG (c := cfg21) TTok FNSok mixed Tryd.func21 (show Tryd.f21.body = some c21 by kernel_rfl) (show Tryd.f21.ntmps = 45 by kernel_rfl) (show Tryd.f21.results.toList = [.cell 4 30] by kernel_rfl) rfl ((F21_eq x0 x1 x2 x3a x3l x3c c0 c1 g M R ).mpr hF)
end Go.Proofs.YtfmjipgcbecamaaDoor.PV
