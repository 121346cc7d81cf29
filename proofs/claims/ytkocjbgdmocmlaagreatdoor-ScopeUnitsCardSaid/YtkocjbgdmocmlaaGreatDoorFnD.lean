/- Printed by a program (wip/tools/gen2.py): for each function its condition as a plain formula, and that the formula gives the call. -/
import Derived.Test.YtkocjbgdmocmlaaGreatDoorProg
import Derived.Test.YtkocjbgdmocmlaaGreatDoorVda
namespace Go.Proofs.YtkocjbgdmocmlaaGreatDoor.P16
open Go Go.Vc Go.RowKit
set_option maxRecDepth 100000
set_option linter.unusedVariables false
def TT : List TI := [
  ⟨3, .int .i64, 1, 8, some (.int .i64 (0 : Int)), (.e (.one (.int .i64)))⟩,
  ⟨4, .bool, 1, 1, some (.bool false), (.e (.one (.bool)))⟩,
  ⟨9, .string, 1, 16, some (.string (bs [])), (.e (.one (.str)))⟩,
  ⟨22, .slice 9, 1, 24, some (.slice none 0 0), (.e (.one (.sl)))⟩,
  ⟨36, .func #[9] #[4] false, 1, 8, some .nilFunc, (.e (.one (.fn)))⟩]
theorem TTok : TOk Tryz.prog TT := tok_of (by kernel_rfl)
def FNS : List Nat := [63]
theorem FNSok : FOk Tryz.prog FNS := fok_of (by kernel_rfl)
theorem mixed : Tryz.prog.follows .mixedOrders = true := by kernel_rfl
def TCH : List Nat := [16]

/- 16 slices.DeleteFunc[[]string,string] -/
noncomputable def c16 : Code := match Tryz.f16.body with
  | some c => c
  | none => .skip
noncomputable def cfg16 : Cfg := ⟨Tryz.prog, TT, FNS, [], [], [], TCH, false, false⟩
def an16 : AnnG := (.seq .leaf (.seq .leaf (.seq (.seq .leaf (.cond (.seq .leaf .leaf) .leaf)) (.seq (.seq .leaf (.blk (.loop ⟨[(5, .int .i64), (6, .int .i64)], [], []⟩ (.seq (.seq .leaf (.cond .leaf .leaf)) (.seq (.blk (.seq .leaf (.seq .leaf (.cond (.seq .leaf .leaf) .leaf)))) .leaf))))) (.seq .leaf (.seq .leaf .leaf))))))
def F16 (sa : Option Addr) (sl : Nat) (sc : Nat) (delf : FuncId) (delc : Array Value) (g : G) (M : Nat → Prop) (R : Value → G → Prop) : Prop :=
  (CallsP Tryz.prog 63 #[(.slice sa sl sc), (.func (.func delf) #[] delc)] g fun v g1 =>
  ∃ i : Int, v = (.int .i64 i) ∧ ifB (eqI i (-1 : Int))
  (∀ g2 : G, Ex g1 g2 →
  R (.slice sa sl sc) g2)
  (InI64 (i + (1 : Int)) ∧ ∃ Inv : Nat → Int → Int → G → Prop, ((∃ m0 : Nat, Inv m0 i (i + (1 : Int)) g1)) ∧
  ∀ m : Nat, ∀ i_1 : Int, ∀ j : Int, ∀ g3 : G, Le g1 g3 → Inv m i_1 j g3 →
  ifB (ltI j ((sl : Nat) : Int))
  ((0 ≤ j ∧ j < ((sl : Nat) : Int)) ∧ derefP sa fun ad => ∃ v_1 : ByteArray, g3.w.cell? (Addr.add ad (Int.toNat j * 1)) = some (.string v_1) ∧ Enters Tryz.prog delf ∧ (CallsP Tryz.prog delf ((⟨[(.string v_1)]⟩ : Array Value) ++ delc) g3 fun v g4 =>
  ∃ x : Bool, v = (.bool x) ∧ ifB (!x)
  ((0 ≤ i_1 ∧ i_1 < ((sl : Nat) : Int)) ∧ derefP sa fun ad_1 => stOk g4.w (Addr.add ad_1 (Int.toNat i_1 * 1)) 1 ∧ ¬ g4.X (Addr.block (Addr.add ad_1 (Int.toNat i_1 * 1))) ∧ mutAt g4 (Addr.add ad_1 (Int.toNat i_1 * 1)) 1 ∧ ((Addr.block (Addr.add ad_1 (Int.toNat i_1 * 1))) < g.w.heap.size → M (Addr.block (Addr.add ad_1 (Int.toNat i_1 * 1)))) ∧ ∀ g5 : G, StG false g4 (Addr.add ad_1 (Int.toNat i_1 * 1)) [(.string v_1)] g5 →
  InI64 (i_1 + (1 : Int)) ∧ InI64 (j + (1 : Int)) ∧ (∃ m_1 : Nat, m_1 < m ∧ Inv m_1 (i_1 + (1 : Int)) (j + (1 : Int)) g5))
  (InI64 (j + (1 : Int)) ∧ (∃ m_1 : Nat, m_1 < m ∧ Inv m_1 i_1 (j + (1 : Int)) g4))))
  ((0 ≤ i_1 ∧ i_1 ≤ ((sl : Nat) : Int)) ∧ ∃ wo1 : World, Sem.run Tryz.prog (Builtin.clear_ #[22] 0 #[(.slice (slAddr sa sc (Int.toNat i_1) 1) (sl - (Int.toNat i_1)) (sc - (Int.toNat i_1)))]) g3.w = .ok (.tuple ⟨[]⟩) wo1 ∧ ∃ g6 : G, g6.w = wo1 ∧ Stp g.w.heap.size M g3 g6 ∧ (0 ≤ i_1 ∧ i_1 ≤ ((sc : Nat) : Int)) ∧ ∀ g7 : G, Ex g6 g7 →
  R (.slice (slAddr sa sc 0 1) ((Int.toNat i_1) - 0) (sc - 0)) g7)))
theorem F16_eq (sa : Option Addr) (sl : Nat) (sc : Nat) (delf : FuncId) (delc : Array Value) (g : G) (M : Nat → Prop) (R : Value → G → Prop) : fnG cfg16 42 [.tmp 4] c16 an16 [(.slice sa sl sc), (.func (.func delf) #[] delc)] g M R = F16 sa sl sc delf delc g M R := by kernel_rfl
theorem call16 (sa : Option Addr) (sl : Nat) (sc : Nat) (delf : FuncId) (delc : Array Value) (g : G) (M : Nat → Prop) (R : Value → G → Prop) (hF : F16 sa sl sc delf delc g M R) : CallsG Tryz.prog 16 #[(.slice sa sl sc), (.func (.func delf) #[] delc)] g M R :=
  fn_soundG (c := cfg16) TTok FNSok mixed Tryz.func16 (show Tryz.f16.body = some c16 by kernel_rfl) (show Tryz.f16.ntmps = 42 by kernel_rfl) (show Tryz.f16.results.toList = [.tmp 4] by kernel_rfl) rfl ((F16_eq sa sl sc delf delc g M R).mpr hF)
end Go.Proofs.YtkocjbgdmocmlaaGreatDoor.P16
