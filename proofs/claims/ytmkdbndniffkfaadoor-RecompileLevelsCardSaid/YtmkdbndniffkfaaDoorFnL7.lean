/- Printed by a program (wip/tools/gen2.py): for each function its condition as a plain formula, and that the formula gives the call. -/
import Derived.Test.YtmkdbndniffkfaaDoorProg
import Derived.Test.YtmkdbndniffkfaaDoorVda
namespace Go.Proofs.YtmkdbndniffkfaaDoor.P7
open Go Go.Vc Go.RowKit
set_option maxRecDepth 100000
set_option linter.unusedVariables false
def TT : List TI := [
  ⟨3, .int .i64, 1, 8, some (.int .i64 (0 : Int)), (.e (.one (.int .i64)))⟩,
  ⟨4, .bool, 1, 1, some (.bool false), (.e (.one (.bool)))⟩,
  ⟨9, .string, 1, 16, some (.string (bs [])), (.e (.one (.str)))⟩,
  ⟨30, .slice 9, 1, 24, some (.slice none 0 0), (.e (.one (.sl)))⟩]
theorem TTok : TOk Tryd.prog TT := tok_of (by kernel_rfl)
def FNS : List Nat := [20, 31]
theorem FNSok : FOk Tryd.prog FNS := fok_of (by kernel_rfl)
theorem mixed : Tryd.prog.follows .mixedOrders = true := by kernel_rfl
def TCH : List Nat := [15, 19, 27, 68, 71]
def PNF : List Nat := []

/- 7 slices.IsSorted[[]string,string] -/
noncomputable def c7 : Code := match Tryd.f7.body with
  | some c => c
  | none => .skip
noncomputable def cfg7 : Cfg := ⟨Tryd.prog, TT, FNS, [], [], [], TCH, false, false, none, PNF, false⟩
def an7 : AnnG := (.seq .leaf (.seq (.seq .leaf (.blk (.loop ⟨[(3, .int .i64)], [], []⟩ (.seq (.seq .leaf (.cond .leaf .leaf)) (.seq (.blk (.seq (.tree 9 (.quiet 0 (.quiet 1 (.quiet 2 (.quiet 3 (.quiet 4 (.quiet 5 (.quiet 6 (.quiet 7 (.quiet 8 .fin)))))))))) (.cond (.seq .leaf .leaf) .leaf))) .leaf))))) (.seq .leaf .leaf)))
def F7 (xa : Option Addr) (xl : Nat) (xc : Nat) (g : G) (R : Value → G → Prop) : Prop :=
  InI64 (((xl : Nat) : Int) - (1 : Int)) ∧ ∃ Inv : Nat → Int → G → Prop, ((∃ m0 : Nat, Inv m0 (((xl : Nat) : Int) - (1 : Int)) g)) ∧
  ∀ m : Nat, ∀ i : Int, ∀ g1 : G, Le g g1 → Inv m i g1 →
  ifB (ltI (0 : Int) i)
  (∀ g2 : G, Ex g1 g2 →
  (0 ≤ i ∧ i < ((xl : Nat) : Int)) ∧ derefP xa fun ad => ∃ x : ByteArray, g2.w.cell? (Addr.add ad (Int.toNat i * 1)) = some (.string x) ∧ InI64 (i - (1 : Int)) ∧ (0 ≤ (i - (1 : Int)) ∧ (i - (1 : Int)) < ((xl : Nat) : Int)) ∧ derefP xa fun ad_1 => ∃ x_1 : ByteArray, g2.w.cell? (Addr.add ad_1 (Int.toNat (i - (1 : Int)) * 1)) = some (.string x_1) ∧ (CallsP Tryd.prog 20 #[(.string x), (.string x_1)] g2 fun v g3 =>
  ∃ x_2 : Bool, v = (.bool x_2) ∧ ifB x_2
  (∀ g4 : G, Ex g3 g4 →
  R (.bool false) g4)
  (InI64 (i - (1 : Int)) ∧ (∃ m_1 : Nat, m_1 < m ∧ Inv m_1 (i - (1 : Int)) g3))))
  (∀ g5 : G, Ex g1 g5 →
  R (.bool true) g5)
theorem F7_eq (xa : Option Addr) (xl : Nat) (xc : Nat) (g : G) (R : Value → G → Prop) : fnG cfg7 21 [.tmp 2] c7 an7 [(.slice xa xl xc)] g nobody R = F7 xa xl xc g R := by kernel_rfl
theorem call7 (xa : Option Addr) (xl : Nat) (xc : Nat) (g : G) (R : Value → G → Prop) (hF : F7 xa xl xc g R) : CallsG Tryd.prog 7 #[(.slice xa xl xc)] g nobody R :=
  fn_soundG (c := cfg7) TTok FNSok mixed Tryd.func7 (show Tryd.f7.body = some c7 by kernel_rfl) (show Tryd.f7.ntmps = 21 by kernel_rfl) (show Tryd.f7.results.toList = [.tmp 2] by kernel_rfl) rfl ((F7_eq xa xl xc g R ).mpr hF)

/- 20 cmp.Less[string] -/
noncomputable def c20 : Code := match Tryd.f20.body with
  | some c => c
  | none => .skip
noncomputable def cfg20 : Cfg := ⟨Tryd.prog, TT, FNS, [], [], [], TCH, false, false, none, PNF, false⟩
def an20 : AnnG := (.seq .leaf (.seq .leaf .leaf))
def F20 (x : ByteArray) (y : ByteArray) (g : G) (R : Value → G → Prop) : Prop :=
  (CallsP Tryd.prog 31 #[(.string x)] g fun v g1 =>
  ∃ x_1 : Bool, v = (.bool x_1) ∧ ifB x_1
  ((CallsP Tryd.prog 31 #[(.string y)] g1 fun v g2 =>
  ∃ x_2 : Bool, v = (.bool x_2) ∧ ifB (!x_2)
  (∀ g3 : G, Ex g2 g3 →
  R (.bool true) g3)
  (∀ g4 : G, Ex g2 g4 →
  R (.bool (strLt x y)) g4)))
  (∀ g5 : G, Ex g1 g5 →
  R (.bool (strLt x y)) g5))
theorem F20_eq (x : ByteArray) (y : ByteArray) (g : G) (R : Value → G → Prop) : fnG cfg20 17 [.tmp 4] c20 an20 [(.string x), (.string y)] g nobody R = F20 x y g R := by kernel_rfl
theorem call20 (x : ByteArray) (y : ByteArray) (g : G) (R : Value → G → Prop) (hF : F20 x y g R) : CallsG Tryd.prog 20 #[(.string x), (.string y)] g nobody R :=
  fn_soundG (c := cfg20) TTok FNSok mixed Tryd.func20 (show Tryd.f20.body = some c20 by kernel_rfl) (show Tryd.f20.ntmps = 17 by kernel_rfl) (show Tryd.f20.results.toList = [.tmp 4] by kernel_rfl) rfl ((F20_eq x y g R ).mpr hF)

/- 31 cmp.isNaN[string] -/
noncomputable def c31 : Code := match Tryd.f31.body with
  | some c => c
  | none => .skip
noncomputable def cfg31 : Cfg := ⟨Tryd.prog, TT, FNS, [], [], [], TCH, false, false, none, PNF, false⟩
def an31 : AnnG := (.seq .leaf (.seq .leaf .leaf))
def F31 (x : ByteArray) (g : G) (R : Value → G → Prop) : Prop :=
  ∀ g1 : G, Ex g g1 →
  R (.bool (!strEq x x)) g1
theorem F31_eq (x : ByteArray) (g : G) (R : Value → G → Prop) : fnG cfg31 6 [.tmp 2] c31 an31 [(.string x)] g nobody R = F31 x g R := by kernel_rfl
theorem call31 (x : ByteArray) (g : G) (R : Value → G → Prop) (hF : F31 x g R) : CallsG Tryd.prog 31 #[(.string x)] g nobody R :=
  fn_soundG (c := cfg31) TTok FNSok mixed Tryd.func31 (show Tryd.f31.body = some c31 by kernel_rfl) (show Tryd.f31.ntmps = 6 by kernel_rfl) (show Tryd.f31.results.toList = [.tmp 2] by kernel_rfl) rfl ((F31_eq x g R ).mpr hF)
end Go.Proofs.YtmkdbndniffkfaaDoor.P7
