/- Printed by a program (wip/tools/gen2.py): for each function its condition as a plain formula, and that the formula gives the call. -/
import Derived.Test.YtkocjbgdmocmlaaGreatDoorProg
import Derived.Test.YtkocjbgdmocmlaaGreatDoorVda
namespace Go.Proofs.YtkocjbgdmocmlaaGreatDoor.PL8
open Go Go.Vc Go.RowKit
set_option maxRecDepth 100000
set_option linter.unusedVariables false
def TT : List TI := [
  ⟨3, .int .i64, 1, 8, some (.int .i64 (0 : Int)), (.e (.one (.int .i64)))⟩,
  ⟨4, .bool, 1, 1, some (.bool false), (.e (.one (.bool)))⟩,
  ⟨22, .slice 9, 1, 24, some (.slice none 0 0), (.e (.one (.sl)))⟩,
  ⟨23, .slice 25, 1, 24, some (.slice none 0 0), (.e (.one (.sl)))⟩,
  ⟨25, .struct #[{ name := "Op", type := 3, offset := 0, embedded := false, tag := "", pkgPath := "", byteOffset := 0 }, { name := "N", type := 3, offset := 1, embedded := false, tag := "", pkgPath := "", byteOffset := 8 }, { name := "S", type := 9, offset := 2, embedded := false, tag := "", pkgPath := "", byteOffset := 16 }, { name := "Names", type := 22, offset := 3, embedded := false, tag := "", pkgPath := "", byteOffset := 32 }, { name := "L", type := 23, offset := 4, embedded := false, tag := "", pkgPath := "", byteOffset := 56 }], 5, 80, some (.agg ⟨[(.int .i64 (0 : Int)), (.int .i64 (0 : Int)), (.string (bs [])), (.slice none 0 0), (.slice none 0 0)]⟩), (.e (.agg [(.int .i64), (.int .i64), (.str), (.sl), (.sl)]))⟩,
  ⟨28, .int .i64, 1, 8, some (.int .i64 (0 : Int)), (.e (.one (.int .i64)))⟩,
  ⟨29, .tuple #[22, 28], 1, 0, some (.tuple ⟨[(.slice none 0 0), (.int .i64 (0 : Int))]⟩), (.tup [(.one (.sl)), (.one (.int .i64))])⟩]
theorem TTok : TOk Tryz.prog TT := tok_of (by kernel_rfl)
def FNS : List Nat := [11, 12, 13, 14, 21, 35, 36, 37]
theorem FNSok : FOk Tryz.prog FNS := fok_of (by kernel_rfl)
theorem mixed : Tryz.prog.follows .mixedOrders = true := by kernel_rfl
def TCH : List Nat := [12]

/- 8 pilaster/pilasterlaw07.ScopeFinds -/
noncomputable def c8 : Code := match Tryz.f8.body with
  | some c => c
  | none => .skip
noncomputable def cfg8 : Cfg := ⟨Tryz.prog, TT, FNS, [3], [(3, 3)], [], TCH, false, false⟩
def an8 : AnnG := (.seq .leaf (.seq (.seq .leaf (.cond (.seq .leaf .leaf) .leaf)) (.seq (.seq .leaf (.cond (.seq .leaf .leaf) .leaf)) (.seq .leaf (.seq .leaf (.join ⟨[], [], []⟩ (.seq .leaf (.cond (.seq .leaf (.cond (.seq .leaf .leaf) .leaf)) (.seq .leaf (.cond (.seq .leaf .leaf) .leaf)))) (.seq (.join ⟨[(58, .bool)], [], []⟩ .leaf (.cond (.seq .leaf .leaf) .leaf)) (.seq .leaf .leaf))))))))
def F8 (cat : Int) (t0 : Int) (t1 : Int) (t2 : ByteArray) (t3a : Option Addr) (t3l : Nat) (t3c : Nat) (t4a : Option Addr) (t4l : Nat) (t4c : Nat) (g : G) (R : Value → G → Prop) : Prop :=
  ∀ g1 : G, Ex g g1 →
  (CallsP Tryz.prog 11 #[] g1 fun v g2 =>
  ∃ x : Bool, v = (.bool x) ∧ ifB (!x)
  (∀ g3 : G, Ex g2 g3 →
  R (.bool false) g3)
  (∀ g4 : G, NewL g2 g4 25 [(.int .i64 t0), (.int .i64 t1), (.string t2), (.slice t3a t3l t3c), (.slice t4a t4l t4c)] →
  ∃ M1 : Nat → Prop, (∀ b, b < g.w.heap.size → M1 b → nobody b) ∧ (CallsG Tryz.prog 12 #[(.slice (some ⟨g2.w.heap.size, 0, none⟩) 1 1)] g4 M1 fun v g5 =>
  ∃ x_1 : Bool, v = (.bool x_1) ∧ ifB (!x_1)
  (∀ g6 : G, Ex g5 g6 →
  R (.bool true) g6)
  ((CallsP Tryz.prog 13 #[(.int .i64 cat), (.agg ⟨[(.int .i64 t0), (.int .i64 t1), (.string t2), (.slice t3a t3l t3c), (.slice t4a t4l t4c)]⟩)] g5 fun v g7 =>
  ∃ x0a : Option Addr, ∃ x0l : Nat, ∃ x0c : Nat, ∃ x1 : Int, v = (.tuple ⟨[(.slice x0a x0l x0c), (.int .i64 x1)]⟩) ∧ (CallsP Tryz.prog 14 #[(.agg ⟨[(.int .i64 t0), (.int .i64 t1), (.string t2), (.slice t3a t3l t3c), (.slice t4a t4l t4c)]⟩)] g7 fun v g8 =>
  ∃ x0a_1 : Option Addr, ∃ x0l_1 : Nat, ∃ x0c_1 : Nat, ∃ x1_1 : Int, v = (.tuple ⟨[(.slice x0a_1 x0l_1 x0c_1), (.int .i64 x1_1)]⟩) ∧ ∀ J : G → Prop,
  (∀ g9 : G, (∀ J_1 : Bool → G → Prop,
  (∀ v_1 : Bool, ∀ g10 : G, (ifB v_1
  (ifB (eqI ((x0l_1 : Nat) : Int) (0 : Int))
  (∀ g11 : G, Ex g10 g11 →
  R (.bool (eqI x1_1 (1 : Int))) g11)
  (∀ g12 : G, Ex g10 g12 →
  R (.bool false) g12))
  (ifB (eqI x1_1 (0 : Int))
  ((CallsP Tryz.prog 37 #[(.agg ⟨[(.int .i64 t0), (.int .i64 t1), (.string t2), (.slice t3a t3l t3c), (.slice t4a t4l t4c)]⟩)] g10 fun v g13 =>
  ∃ xa : Option Addr, ∃ xl : Nat, ∃ xc : Nat, v = (.slice xa xl xc) ∧ (CallsP Tryz.prog 21 #[(.slice x0a_1 x0l_1 x0c_1), (.slice xa xl xc)] g13 fun v g14 =>
  ∃ x_2 : Bool, v = (.bool x_2) ∧ ∀ g15 : G, Ex g14 g15 →
  R (.bool x_2) g15)))
  (∀ g16 : G, Ex g10 g16 →
  R (.bool false) g16))) → J_1 v_1 g10) →
  (CallsP Tryz.prog 35 #[(.int .i64 (2 : Int)), (.agg ⟨[(.int .i64 t0), (.int .i64 t1), (.string t2), (.slice t3a t3l t3c), (.slice t4a t4l t4c)]⟩)] g9 fun v g17 =>
  ∃ x_3 : Bool, v = (.bool x_3) ∧ ifB (!x_3)
  ((CallsP Tryz.prog 35 #[(.int .i64 (4 : Int)), (.agg ⟨[(.int .i64 t0), (.int .i64 t1), (.string t2), (.slice t3a t3l t3c), (.slice t4a t4l t4c)]⟩)] g17 fun v g18 =>
  ∃ x_4 : Bool, v = (.bool x_4) ∧ ifB (!x_4)
  ((CallsP Tryz.prog 35 #[(.int .i64 (5 : Int)), (.agg ⟨[(.int .i64 t0), (.int .i64 t1), (.string t2), (.slice t3a t3l t3c), (.slice t4a t4l t4c)]⟩)] g18 fun v g19 =>
  ∃ x_5 : Bool, v = (.bool x_5) ∧ J_1 (!x_5) g19))
  (J_1 false g18)))
  (J_1 false g17))) → J g9) →
  (CallsP Tryz.prog 35 #[(.int .i64 cat), (.agg ⟨[(.int .i64 t0), (.int .i64 t1), (.string t2), (.slice t3a t3l t3c), (.slice t4a t4l t4c)]⟩)] g8 fun v g20 =>
  ∃ x_6 : Bool, v = (.bool x_6) ∧ ifB (!x_6)
  (ifB (!eqI ((x0l : Nat) : Int) (0 : Int))
  (∀ g21 : G, Ex g20 g21 →
  R (.bool false) g21)
  (ifB (!eqI x1 (1 : Int))
  (∀ g22 : G, Ex g20 g22 →
  R (.bool false) g22)
  (J g20)))
  (ifB (!eqI x1 (0 : Int))
  (∀ g23 : G, Ex g20 g23 →
  R (.bool false) g23)
  ((CallsP Tryz.prog 36 #[(.agg ⟨[(.int .i64 t0), (.int .i64 t1), (.string t2), (.slice t3a t3l t3c), (.slice t4a t4l t4c)]⟩)] g20 fun v g24 =>
  ∃ xa_1 : Option Addr, ∃ xl_1 : Nat, ∃ xc_1 : Nat, v = (.slice xa_1 xl_1 xc_1) ∧ (CallsP Tryz.prog 21 #[(.slice x0a x0l x0c), (.slice xa_1 xl_1 xc_1)] g24 fun v g25 =>
  ∃ x_7 : Bool, v = (.bool x_7) ∧ ifB (!x_7)
  (∀ g26 : G, Ex g25 g26 →
  R (.bool false) g26)
  (J g25))))))))))))
theorem F8_eq (cat : Int) (t0 : Int) (t1 : Int) (t2 : ByteArray) (t3a : Option Addr) (t3l : Nat) (t3c : Nat) (t4a : Option Addr) (t4l : Nat) (t4c : Nat) (g : G) (R : Value → G → Prop) : fnG cfg8 74 [.tmp 4] c8 an8 [(.int .i64 cat), (.agg ⟨[(.int .i64 t0), (.int .i64 t1), (.string t2), (.slice t3a t3l t3c), (.slice t4a t4l t4c)]⟩)] g nobody R = F8 cat t0 t1 t2 t3a t3l t3c t4a t4l t4c g R := by kernel_rfl
theorem call8 (cat : Int) (t0 : Int) (t1 : Int) (t2 : ByteArray) (t3a : Option Addr) (t3l : Nat) (t3c : Nat) (t4a : Option Addr) (t4l : Nat) (t4c : Nat) (g : G) (R : Value → G → Prop) (hF : F8 cat t0 t1 t2 t3a t3l t3c t4a t4l t4c g R) : CallsG Tryz.prog 8 #[(.int .i64 cat), (.agg ⟨[(.int .i64 t0), (.int .i64 t1), (.string t2), (.slice t3a t3l t3c), (.slice t4a t4l t4c)]⟩)] g nobody R :=
  fn_soundG (c := cfg8) TTok FNSok mixed Tryz.func8 (show Tryz.f8.body = some c8 by kernel_rfl) (show Tryz.f8.ntmps = 74 by kernel_rfl) (show Tryz.f8.results.toList = [.tmp 4] by kernel_rfl) rfl ((F8_eq cat t0 t1 t2 t3a t3l t3c t4a t4l t4c g R).mpr hF)
end Go.Proofs.YtkocjbgdmocmlaaGreatDoor.PL8
