/- Printed by a program (wip/tools/gen2.py): for each function its condition as a plain formula, and that the formula gives the call. -/
import Derived.Test.YtmakoecgogjemaaDoorProg
import Derived.Test.YtmakoecgogjemaaDoorVda
namespace Go.Proofs.YtmakoecgogjemaaDoor.P4
open Go Go.Vc Go.RowKit
set_option maxRecDepth 100000
set_option linter.unusedVariables false
def TT : List TI := [
  ⟨3, .int .i64, 1, 8, some (.int .i64 (0 : Int)), (.e (.one (.int .i64)))⟩,
  ⟨4, .bool, 1, 1, some (.bool false), (.e (.one (.bool)))⟩,
  ⟨25, .struct #[{ name := "Op", type := 3, offset := 0, embedded := false, tag := "", pkgPath := "", byteOffset := 0 }, { name := "N", type := 3, offset := 1, embedded := false, tag := "", pkgPath := "", byteOffset := 8 }, { name := "S", type := 9, offset := 2, embedded := false, tag := "", pkgPath := "", byteOffset := 16 }, { name := "Names", type := 22, offset := 3, embedded := false, tag := "", pkgPath := "", byteOffset := 32 }, { name := "L", type := 23, offset := 4, embedded := false, tag := "", pkgPath := "", byteOffset := 56 }], 5, 80, some (.agg ⟨[(.int .i64 (0 : Int)), (.int .i64 (0 : Int)), (.string (bs [])), (.slice none 0 0), (.slice none 0 0)]⟩), (.e (.agg [(.int .i64), (.int .i64), (.str), (.sl), (.sl)]))⟩,
  ⟨27, .func #[25] #[4] false, 1, 8, some .nilFunc, (.e (.one (.fn)))⟩]
theorem TTok : TOk Tryd.prog TT := tok_of (by kernel_rfl)
def FNS : List Nat := [9, 11, 13, 15]
theorem FNSok : FOk Tryd.prog FNS := fok_of (by kernel_rfl)
theorem mixed : Tryd.prog.follows .mixedOrders = true := by kernel_rfl
def TCH : List Nat := [15, 37, 38, 40, 49, 52, 55]

/- 4 pilaster/pilasterlaw03.SyntaxParts -/
noncomputable def c4 : Code := match Tryd.f4.body with
  | some c => c
  | none => .skip
noncomputable def cfg4 : Cfg := ⟨Tryd.prog, TT, FNS, [1], [(1, 1), (11, 1)], [4], TCH, false, false⟩
def an4 : AnnG := (.seq .leaf (.seq (.seq .leaf (.cond (.seq .leaf .leaf) .leaf)) (.seq .leaf (.join ⟨[], [], []⟩ (.seq (.treeB 8 (.quiet 0 (.eff 1 (.quiet 2 (.quiet 3 (.quiet 4 (.quiet 5 (.quiet 7 (.eff 6 .fin .fin)))))) .fin))) (.cond (.seq .leaf .leaf) .leaf)) (.seq .leaf (.seq .leaf (.seq .leaf .leaf)))))))
def F4 (t0 : Int) (t1 : Int) (t2 : ByteArray) (t3a : Option Addr) (t3l : Nat) (t3c : Nat) (t4a : Option Addr) (t4l : Nat) (t4c : Nat) (g : G) (R : Value → G → Prop) : Prop :=
  ∀ g1 : G, Ex g g1 →
  (CallsP Tryd.prog 9 #[] g1 fun v g2 =>
  ∃ x : Bool, v = (.bool x) ∧ ifB (!x)
  (∀ g3 : G, Ex g2 g3 →
  R (.bool false) g3)
  (∀ g4 : G, NewD g2 g4 3 [(.int .i64 (0 : Int))] →
  stOk g4.w ⟨g2.w.heap.size, 0, none⟩ 1 ∧ ¬ g4.X (Addr.block ⟨g2.w.heap.size, 0, none⟩) ∧ mutAt g4 ⟨g2.w.heap.size, 0, none⟩ 1 ∧ ((Addr.block ⟨g2.w.heap.size, 0, none⟩) < g.w.heap.size → nobody (Addr.block ⟨g2.w.heap.size, 0, none⟩)) ∧ ∀ g5 : G, StG false g4 ⟨g2.w.heap.size, 0, none⟩ [(.int .i64 (1000 : Int))] g5 →
  ∀ J : G → Prop,
  (∀ g6 : G, (∀ g7 : G, NewD g6 g7 27 [.nilFunc] →
  stOk g7.w ⟨g6.w.heap.size, 0, none⟩ 1 ∧ ¬ g7.X (Addr.block ⟨g6.w.heap.size, 0, none⟩) ∧ mutAt g7 ⟨g6.w.heap.size, 0, none⟩ 1 ∧ ((Addr.block ⟨g6.w.heap.size, 0, none⟩) < g.w.heap.size → nobody (Addr.block ⟨g6.w.heap.size, 0, none⟩)) ∧ ∀ g8 : G, StG true g7 ⟨g6.w.heap.size, 0, none⟩ [(.func (.func 16) #[] ⟨[(.pointer (some ⟨g6.w.heap.size, 0, none⟩))]⟩)] g8 →
  ∃ allf : FuncId, ∃ allc : Array Value, g8.w.cell? ⟨g6.w.heap.size, 0, none⟩ = some (.func (.func allf) #[] allc) ∧ Enters Tryd.prog allf ∧ (CallsP Tryd.prog allf ((⟨[(.agg ⟨[(.int .i64 t0), (.int .i64 t1), (.string t2), (.slice t3a t3l t3c), (.slice t4a t4l t4c)]⟩)]⟩ : Array Value) ++ allc) g8 fun v g9 =>
  ∃ x_1 : Bool, v = (.bool x_1) ∧ ∀ g10 : G, Ex g9 g10 →
  R (.bool x_1) g10)) → J g6) →
  ∀ g11 : G, Ex g5 g11 →
  ∃ MR1 : Nat → Prop, (∀ b, MR1 b → ¬ g11.X b) ∧ ∃ M2 : Nat → Prop, (∀ b, b < g.w.heap.size → M2 b → nobody b) ∧ (CallsG Tryd.prog 15 #[(.agg ⟨[(.int .i64 t0), (.int .i64 t1), (.string t2), (.slice t3a t3l t3c), (.slice t4a t4l t4c)]⟩), (.pointer (some ⟨g2.w.heap.size, 0, none⟩)), (.int .i64 (0 : Int))] g11 M2 fun v g12 =>
  ∃ x_2 : Bool, v = (.bool x_2) ∧ SameBut MR1 g11 g12 ∧ ifB (!x_2)
  (∀ g13 : G, Ex g12 g13 →
  R (.bool true) g13)
  ((CallsP Tryd.prog 13 #[(.int .i64 t0)] g12 fun v g14 =>
  ∃ x_3 : Int, v = (.int .i64 x_3) ∧ (CallsP Tryd.prog 11 #[(.int .i64 x_3), (.agg ⟨[(.int .i64 t0), (.int .i64 t1), (.string t2), (.slice t3a t3l t3c), (.slice t4a t4l t4c)]⟩)] g14 fun v g15 =>
  ∃ x_4 : Bool, v = (.bool x_4) ∧ ifB (!x_4)
  (∀ g16 : G, Ex g15 g16 →
  R (.bool true) g16)
  (J g15)))))))
theorem F4_eq (t0 : Int) (t1 : Int) (t2 : ByteArray) (t3a : Option Addr) (t3l : Nat) (t3c : Nat) (t4a : Option Addr) (t4l : Nat) (t4c : Nat) (g : G) (R : Value → G → Prop) : fnG cfg4 22 [.tmp 2] c4 an4 [(.agg ⟨[(.int .i64 t0), (.int .i64 t1), (.string t2), (.slice t3a t3l t3c), (.slice t4a t4l t4c)]⟩)] g nobody R = F4 t0 t1 t2 t3a t3l t3c t4a t4l t4c g R := by kernel_rfl
theorem call4 (t0 : Int) (t1 : Int) (t2 : ByteArray) (t3a : Option Addr) (t3l : Nat) (t3c : Nat) (t4a : Option Addr) (t4l : Nat) (t4c : Nat) (g : G) (R : Value → G → Prop) (hF : F4 t0 t1 t2 t3a t3l t3c t4a t4l t4c g R) : CallsG Tryd.prog 4 #[(.agg ⟨[(.int .i64 t0), (.int .i64 t1), (.string t2), (.slice t3a t3l t3c), (.slice t4a t4l t4c)]⟩)] g nobody R :=
  fn_soundG (c := cfg4) TTok FNSok mixed Tryd.func4 (show Tryd.f4.body = some c4 by kernel_rfl) (show Tryd.f4.ntmps = 22 by kernel_rfl) (show Tryd.f4.results.toList = [.tmp 2] by kernel_rfl) rfl ((F4_eq t0 t1 t2 t3a t3l t3c t4a t4l t4c g R).mpr hF)
end Go.Proofs.YtmakoecgogjemaaDoor.P4
