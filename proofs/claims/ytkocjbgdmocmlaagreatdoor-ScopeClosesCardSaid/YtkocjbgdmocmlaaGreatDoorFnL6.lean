/- Printed by a program (wip/tools/gen2.py): for each function its condition as a plain formula, and that the formula gives the call. -/
import Derived.Test.YtkocjbgdmocmlaaGreatDoorProg
import Derived.Test.YtkocjbgdmocmlaaGreatDoorVda
namespace Go.Proofs.YtkocjbgdmocmlaaGreatDoor.PL6
open Go Go.Vc Go.RowKit
set_option maxRecDepth 100000
set_option linter.unusedVariables false
def TT : List TI := [
  ⟨3, .int .i64, 1, 8, some (.int .i64 (0 : Int)), (.e (.one (.int .i64)))⟩,
  ⟨4, .bool, 1, 1, some (.bool false), (.e (.one (.bool)))⟩,
  ⟨9, .string, 1, 16, some (.string (bs [])), (.e (.one (.str)))⟩,
  ⟨22, .slice 9, 1, 24, some (.slice none 0 0), (.e (.one (.sl)))⟩,
  ⟨23, .slice 25, 1, 24, some (.slice none 0 0), (.e (.one (.sl)))⟩,
  ⟨25, .struct #[{ name := "Op", type := 3, offset := 0, embedded := false, tag := "", pkgPath := "", byteOffset := 0 }, { name := "N", type := 3, offset := 1, embedded := false, tag := "", pkgPath := "", byteOffset := 8 }, { name := "S", type := 9, offset := 2, embedded := false, tag := "", pkgPath := "", byteOffset := 16 }, { name := "Names", type := 22, offset := 3, embedded := false, tag := "", pkgPath := "", byteOffset := 32 }, { name := "L", type := 23, offset := 4, embedded := false, tag := "", pkgPath := "", byteOffset := 56 }], 5, 80, some (.agg ⟨[(.int .i64 (0 : Int)), (.int .i64 (0 : Int)), (.string (bs [])), (.slice none 0 0), (.slice none 0 0)]⟩), (.e (.agg [(.int .i64), (.int .i64), (.str), (.sl), (.sl)]))⟩,
  ⟨28, .int .i64, 1, 8, some (.int .i64 (0 : Int)), (.e (.one (.int .i64)))⟩,
  ⟨29, .tuple #[22, 28], 1, 0, some (.tuple ⟨[(.slice none 0 0), (.int .i64 (0 : Int))]⟩), (.tup [(.one (.sl)), (.one (.int .i64))])⟩]
theorem TTok : TOk Tryz.prog TT := tok_of (by kernel_rfl)
def FNS : List Nat := [11, 12, 13, 21, 30]
theorem FNSok : FOk Tryz.prog FNS := fok_of (by kernel_rfl)
theorem mixed : Tryz.prog.follows .mixedOrders = true := by kernel_rfl
def TCH : List Nat := [12, 16, 20, 22]

/- 6 pilaster/pilasterlaw07.ScopeCloses -/
noncomputable def c6 : Code := match Tryz.f6.body with
  | some c => c
  | none => .skip
noncomputable def cfg6 : Cfg := ⟨Tryz.prog, TT, FNS, [1], [(1, 1)], [], TCH, false, false⟩
def an6 : AnnG := (.seq .leaf (.seq (.seq .leaf (.cond (.seq .leaf .leaf) .leaf)) (.join ⟨[], [], []⟩ (.seq .leaf (.cond (.seq .leaf .leaf) .leaf)) (.seq .leaf (.seq (.seq .leaf (.cond (.seq .leaf .leaf) .leaf)) (.seq .leaf (.seq .leaf (.seq (.seq .leaf (.blk (.loop ⟨[(5, .sl), (6, .int .i64), (34, .int .i64)], [(1, 1, 0)], [(1, [(.int .i64), (.int .i64), (.str), (.sl), (.sl)])]⟩ (.seq .leaf (.seq (.cond .leaf .leaf) (.seq (.blk (.seq .leaf (.join ⟨[(45, .bool)], [], []⟩ .leaf (.cond (.seq (.treeP false [1] 4 (.quiet 0 (.quiet 1 (.eff 2 (.eff 3 .fin .fin) .fin)))) .leaf) .leaf)))) .leaf)))))) (.seq (.seq .leaf (.cond (.seq .leaf .leaf) .leaf)) (.seq .leaf (.seq .leaf .leaf)))))))))))
def F6 (t0 : Int) (t1 : Int) (t2 : ByteArray) (t3a : Option Addr) (t3l : Nat) (t3c : Nat) (t4a : Option Addr) (t4l : Nat) (t4c : Nat) (g : G) (R : Value → G → Prop) : Prop :=
  ∀ g1 : G, Ex g g1 →
  (CallsP Tryz.prog 11 #[] g1 fun v g2 =>
  ∃ x : Bool, v = (.bool x) ∧ ifB (!x)
  (∀ g3 : G, Ex g2 g3 →
  R (.bool false) g3)
  (∀ J : G → Prop,
  (∀ g4 : G, ((CallsP Tryz.prog 13 #[(.int .i64 (3 : Int)), (.agg ⟨[(.int .i64 t0), (.int .i64 t1), (.string t2), (.slice t3a t3l t3c), (.slice t4a t4l t4c)]⟩)] g4 fun v g5 =>
  ∃ x0a : Option Addr, ∃ x0l : Nat, ∃ x0c : Nat, ∃ x1 : Int, v = (.tuple ⟨[(.slice x0a x0l x0c), (.int .i64 x1)]⟩) ∧ ifB (!eqI x1 (0 : Int))
  (∀ g6 : G, Ex g5 g6 →
  R (.bool (eqI ((x0l : Nat) : Int) (0 : Int))) g6)
  (∃ Inv : Nat → Option Addr → Nat → Nat → Int → Int → Int → Int → ByteArray → Option Addr → Nat → Nat → Option Addr → Nat → Nat → G → Prop, ((∃ m0 : Nat, Inv m0 none 0 0 (0 : Int) (0 : Int) t0 t1 t2 t3a t3l t3c t4a t4l t4c g5)) ∧
  ∀ m : Nat, ∀ othersa : Option Addr, ∀ othersl : Nat, ∀ othersc : Nat, ∀ n : Int, ∀ v_1 : Int, ∀ t0_1 : Int, ∀ t1_1 : Int, ∀ t2_1 : ByteArray, ∀ t3a_1 : Option Addr, ∀ t3l_1 : Nat, ∀ t3c_1 : Nat, ∀ t4a_1 : Option Addr, ∀ t4l_1 : Nat, ∀ t4c_1 : Nat, ∀ g7 : G, Le g5 g7 → Inv m othersa othersl othersc n v_1 t0_1 t1_1 t2_1 t3a_1 t3l_1 t3c_1 t4a_1 t4l_1 t4c_1 g7 →
  ifB (ltI v_1 ((x0l : Nat) : Int))
  ((0 ≤ v_1 ∧ v_1 < ((x0l : Nat) : Int)) ∧ derefP x0a fun ad => ∃ s : ByteArray, g7.w.cell? (Addr.add ad (Int.toNat v_1 * 1)) = some (.string s) ∧ ∀ J_1 : Bool → G → Prop,
  (∀ v_2 : Bool, ∀ g8 : G, (ifB v_2
  (∀ g9 : G, Ex g8 g9 →
  (0 ≤ (4 : Int) ∧ (4 : Int) ≤ ((s.size : Nat) : Int)) ∧ ∀ g10 : G, Ex g9 g10 →
  ∀ g11 : G, NewL g10 g11 25 [(.int .i64 t0_1), (.int .i64 t1_1), (.string t2_1), (.slice t3a_1 t3l_1 t3c_1), (.slice t4a_1 t4l_1 t4c_1)] →
  InI64 (n + (1 : Int)) ∧ InI64 (v_1 + (1 : Int)) ∧ ∀ g12 : G, Ex g11 g12 →
  (∃ m_1 : Nat, m_1 < m ∧ Inv m_1 othersa othersl othersc (n + (1 : Int)) (v_1 + (1 : Int)) (25 : Int) (0 : Int) (ByteArray.extract s (Int.toNat (4 : Int)) s.size) none 0 0 (some ⟨g10.w.heap.size, 0, none⟩) 1 1 g12))
  (∀ g13 : G, NewL g8 g13 9 [(.string s)] →
  ∃ othersa_1 : Option Addr, ∃ othersl_1 : Nat, ∃ othersc_1 : Nat, ∃ wo1 : World, Sem.run Tryz.prog (Builtin.append_ #[22, 22] 22 #[(.slice othersa othersl othersc), (.slice (some ⟨g8.w.heap.size, 0, none⟩) 1 1)]) g13.w = .ok (.slice othersa_1 othersl_1 othersc_1) wo1 ∧ ∃ g14 : G, g14.w = wo1 ∧ Stp g.w.heap.size nobody g13 g14 ∧ InI64 (v_1 + (1 : Int)) ∧ (∃ m_1 : Nat, m_1 < m ∧ Inv m_1 othersa_1 othersl_1 othersc_1 n (v_1 + (1 : Int)) t0_1 t1_1 t2_1 t3a_1 t3l_1 t3c_1 t4a_1 t4l_1 t4c_1 g14))) → J_1 v_2 g8) →
  ifB (ltI (4 : Int) ((s.size : Nat) : Int))
  ((0 ≤ (4 : Int) ∧ (4 : Int) ≤ ((s.size : Nat) : Int)) ∧ J_1 (strEq (ByteArray.extract s 0 (Int.toNat (4 : Int))) (bs [118, 97, 108, 46])) g7)
  (J_1 false g7))
  (ifB (ltI (90 : Int) n)
  (∀ g15 : G, Ex g7 g15 →
  R (.bool true) g15)
  ((CallsP Tryz.prog 13 #[(.int .i64 (3 : Int)), (.agg ⟨[(.int .i64 t0_1), (.int .i64 t1_1), (.string t2_1), (.slice t3a_1 t3l_1 t3c_1), (.slice t4a_1 t4l_1 t4c_1)]⟩)] g7 fun v g16 =>
  ∃ x0a_1 : Option Addr, ∃ x0l_1 : Nat, ∃ x0c_1 : Nat, ∃ x1_1 : Int, v = (.tuple ⟨[(.slice x0a_1 x0l_1 x0c_1), (.int .i64 x1_1)]⟩) ∧ ifB (eqI x1_1 (0 : Int))
  ((CallsP Tryz.prog 21 #[(.slice x0a_1 x0l_1 x0c_1), (.slice othersa othersl othersc)] g16 fun v g17 =>
  ∃ x_1 : Bool, v = (.bool x_1) ∧ ∀ g18 : G, Ex g17 g18 →
  R (.bool x_1) g18))
  (∀ g19 : G, Ex g16 g19 →
  R (.bool false) g19))))))) → J g4) →
  ∀ g20 : G, NewL g2 g20 25 [(.int .i64 t0), (.int .i64 t1), (.string t2), (.slice t3a t3l t3c), (.slice t4a t4l t4c)] →
  ∃ M1 : Nat → Prop, (∀ b, b < g.w.heap.size → M1 b → nobody b) ∧ (CallsG Tryz.prog 12 #[(.slice (some ⟨g2.w.heap.size, 0, none⟩) 1 1)] g20 M1 fun v g21 =>
  ∃ x_2 : Bool, v = (.bool x_2) ∧ ifB (!x_2)
  (∀ g22 : G, Ex g21 g22 →
  R (.bool true) g22)
  ((CallsP Tryz.prog 30 #[(.agg ⟨[(.int .i64 t0), (.int .i64 t1), (.string t2), (.slice t3a t3l t3c), (.slice t4a t4l t4c)]⟩)] g21 fun v g23 =>
  ∃ x_3 : Int, v = (.int .i64 x_3) ∧ ifB (ltI (100 : Int) x_3)
  (∀ g24 : G, Ex g23 g24 →
  R (.bool true) g24)
  (J g23))))))
theorem F6_eq (t0 : Int) (t1 : Int) (t2 : ByteArray) (t3a : Option Addr) (t3l : Nat) (t3c : Nat) (t4a : Option Addr) (t4l : Nat) (t4c : Nat) (g : G) (R : Value → G → Prop) : fnG cfg6 72 [.tmp 2] c6 an6 [(.agg ⟨[(.int .i64 t0), (.int .i64 t1), (.string t2), (.slice t3a t3l t3c), (.slice t4a t4l t4c)]⟩)] g nobody R = F6 t0 t1 t2 t3a t3l t3c t4a t4l t4c g R := by kernel_rfl
theorem call6 (t0 : Int) (t1 : Int) (t2 : ByteArray) (t3a : Option Addr) (t3l : Nat) (t3c : Nat) (t4a : Option Addr) (t4l : Nat) (t4c : Nat) (g : G) (R : Value → G → Prop) (hF : F6 t0 t1 t2 t3a t3l t3c t4a t4l t4c g R) : CallsG Tryz.prog 6 #[(.agg ⟨[(.int .i64 t0), (.int .i64 t1), (.string t2), (.slice t3a t3l t3c), (.slice t4a t4l t4c)]⟩)] g nobody R :=
  fn_soundG (c := cfg6) TTok FNSok mixed Tryz.func6 (show Tryz.f6.body = some c6 by kernel_rfl) (show Tryz.f6.ntmps = 72 by kernel_rfl) (show Tryz.f6.results.toList = [.tmp 2] by kernel_rfl) rfl ((F6_eq t0 t1 t2 t3a t3l t3c t4a t4l t4c g R).mpr hF)
end Go.Proofs.YtkocjbgdmocmlaaGreatDoor.PL6
