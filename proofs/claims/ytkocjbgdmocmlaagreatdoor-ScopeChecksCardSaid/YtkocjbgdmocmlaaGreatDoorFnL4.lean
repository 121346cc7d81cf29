/- Printed by a program (wip/tools/gen2.py): for each function its condition as a plain formula, and that the formula gives the call. -/
import Derived.Test.YtkocjbgdmocmlaaGreatDoorProg
import Derived.Test.YtkocjbgdmocmlaaGreatDoorVda
namespace Go.Proofs.YtkocjbgdmocmlaaGreatDoor.PL4
open Go Go.Vc Go.RowKit
set_option maxRecDepth 100000
set_option linter.unusedVariables false
def TT : List TI := [
  ⟨3, .int .i64, 1, 8, some (.int .i64 (0 : Int)), (.e (.one (.int .i64)))⟩,
  ⟨4, .bool, 1, 1, some (.bool false), (.e (.one (.bool)))⟩,
  ⟨23, .slice 25, 1, 24, some (.slice none 0 0), (.e (.one (.sl)))⟩,
  ⟨25, .struct #[{ name := "Op", type := 3, offset := 0, embedded := false, tag := "", pkgPath := "", byteOffset := 0 }, { name := "N", type := 3, offset := 1, embedded := false, tag := "", pkgPath := "", byteOffset := 8 }, { name := "S", type := 9, offset := 2, embedded := false, tag := "", pkgPath := "", byteOffset := 16 }, { name := "Names", type := 22, offset := 3, embedded := false, tag := "", pkgPath := "", byteOffset := 32 }, { name := "L", type := 23, offset := 4, embedded := false, tag := "", pkgPath := "", byteOffset := 56 }], 5, 80, some (.agg ⟨[(.int .i64 (0 : Int)), (.int .i64 (0 : Int)), (.string (bs [])), (.slice none 0 0), (.slice none 0 0)]⟩), (.e (.agg [(.int .i64), (.int .i64), (.str), (.sl), (.sl)]))⟩,
  ⟨28, .int .i64, 1, 8, some (.int .i64 (0 : Int)), (.e (.one (.int .i64)))⟩]
theorem TTok : TOk Tryz.prog TT := tok_of (by kernel_rfl)
def FNS : List Nat := [11, 12, 23, 24]
theorem FNSok : FOk Tryz.prog FNS := fok_of (by kernel_rfl)
theorem mixed : Tryz.prog.follows .mixedOrders = true := by kernel_rfl
def TCH : List Nat := [12]

/- 4 pilaster/pilasterlaw07.ScopeChecks -/
noncomputable def c4 : Code := match Tryz.f4.body with
  | some c => c
  | none => .skip
noncomputable def cfg4 : Cfg := ⟨Tryz.prog, TT, FNS, [3], [(3, 3)], [], TCH, false, false⟩
def an4 : AnnG := (.seq .leaf (.seq (.seq .leaf (.cond (.seq .leaf .leaf) .leaf)) (.seq (.seq .leaf (.cond (.seq .leaf .leaf) .leaf)) (.seq (.tree 5 (.quiet 0 (.quiet 1 (.quiet 3 (.quiet 4 (.eff 2 .fin .fin)))))) .leaf))))
def F4 (cat : Int) (t0 : Int) (t1 : Int) (t2 : ByteArray) (t3a : Option Addr) (t3l : Nat) (t3c : Nat) (t4a : Option Addr) (t4l : Nat) (t4c : Nat) (g : G) (R : Value → G → Prop) : Prop :=
  ∀ g1 : G, Ex g g1 →
  (CallsP Tryz.prog 11 #[] g1 fun v g2 =>
  ∃ x : Bool, v = (.bool x) ∧ ifB (!x)
  (∀ g3 : G, Ex g2 g3 →
  R (.bool false) g3)
  (∀ g4 : G, NewL g2 g4 25 [(.int .i64 t0), (.int .i64 t1), (.string t2), (.slice t3a t3l t3c), (.slice t4a t4l t4c)] →
  ∃ M1 : Nat → Prop, (∀ b, b < g.w.heap.size → M1 b → nobody b) ∧ (CallsG Tryz.prog 12 #[(.slice (some ⟨g2.w.heap.size, 0, none⟩) 1 1)] g4 M1 fun v g5 =>
  ∃ x_1 : Bool, v = (.bool x_1) ∧ ifB (!x_1)
  (∀ g6 : G, Ex g5 g6 →
  R (.bool true) g6)
  (∀ g7 : G, Ex g5 g7 →
  (CallsP Tryz.prog 23 #[(.int .i64 cat), (.agg ⟨[(.int .i64 t0), (.int .i64 t1), (.string t2), (.slice t3a t3l t3c), (.slice t4a t4l t4c)]⟩)] g7 fun v g8 =>
  ∃ x_2 : Int, v = (.int .i64 x_2) ∧ (CallsP Tryz.prog 24 #[(.int .i64 cat), (.agg ⟨[(.int .i64 t0), (.int .i64 t1), (.string t2), (.slice t3a t3l t3c), (.slice t4a t4l t4c)]⟩)] g8 fun v g9 =>
  ∃ x_3 : Int, v = (.int .i64 x_3) ∧ ∀ g10 : G, Ex g9 g10 →
  R (.bool (eqI x_2 x_3)) g10))))))
theorem F4_eq (cat : Int) (t0 : Int) (t1 : Int) (t2 : ByteArray) (t3a : Option Addr) (t3l : Nat) (t3c : Nat) (t4a : Option Addr) (t4l : Nat) (t4c : Nat) (g : G) (R : Value → G → Prop) : fnG cfg4 18 [.tmp 4] c4 an4 [(.int .i64 cat), (.agg ⟨[(.int .i64 t0), (.int .i64 t1), (.string t2), (.slice t3a t3l t3c), (.slice t4a t4l t4c)]⟩)] g nobody R = F4 cat t0 t1 t2 t3a t3l t3c t4a t4l t4c g R := by kernel_rfl
theorem call4 (cat : Int) (t0 : Int) (t1 : Int) (t2 : ByteArray) (t3a : Option Addr) (t3l : Nat) (t3c : Nat) (t4a : Option Addr) (t4l : Nat) (t4c : Nat) (g : G) (R : Value → G → Prop) (hF : F4 cat t0 t1 t2 t3a t3l t3c t4a t4l t4c g R) : CallsG Tryz.prog 4 #[(.int .i64 cat), (.agg ⟨[(.int .i64 t0), (.int .i64 t1), (.string t2), (.slice t3a t3l t3c), (.slice t4a t4l t4c)]⟩)] g nobody R :=
  fn_soundG (c := cfg4) TTok FNSok mixed Tryz.func4 (show Tryz.f4.body = some c4 by kernel_rfl) (show Tryz.f4.ntmps = 18 by kernel_rfl) (show Tryz.f4.results.toList = [.tmp 4] by kernel_rfl) rfl ((F4_eq cat t0 t1 t2 t3a t3l t3c t4a t4l t4c g R).mpr hF)
end Go.Proofs.YtkocjbgdmocmlaaGreatDoor.PL4
