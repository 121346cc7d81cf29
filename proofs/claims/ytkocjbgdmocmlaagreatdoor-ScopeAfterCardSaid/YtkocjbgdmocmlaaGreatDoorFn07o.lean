/- Printed by a program (wip/tools/gen2.py): for each function its condition as a plain formula, and that the formula gives the call. -/
import Derived.Test.YtkocjbgdmocmlaaGreatDoorProg
import Derived.Test.YtkocjbgdmocmlaaGreatDoorVda
namespace Go.Proofs.YtkocjbgdmocmlaaGreatDoor.P28
open Go Go.Vc Go.RowKit
set_option maxRecDepth 100000
set_option linter.unusedVariables false
def TT : List TI := [
  ⟨3, .int .i64, 1, 8, some (.int .i64 (0 : Int)), (.e (.one (.int .i64)))⟩,
  ⟨4, .bool, 1, 1, some (.bool false), (.e (.one (.bool)))⟩,
  ⟨9, .string, 1, 16, some (.string (bs [])), (.e (.one (.str)))⟩,
  ⟨22, .slice 9, 1, 24, some (.slice none 0 0), (.e (.one (.sl)))⟩,
  ⟨43, .slice 46, 1, 24, some (.slice none 0 0), (.e (.one (.sl)))⟩,
  ⟨46, .struct #[{ name := "Name", type := 9, offset := 0, embedded := false, tag := "", pkgPath := "", byteOffset := 0 }, { name := "Imports", type := 22, offset := 1, embedded := false, tag := "", pkgPath := "", byteOffset := 16 }, { name := "Decls", type := 23, offset := 2, embedded := false, tag := "", pkgPath := "", byteOffset := 40 }], 3, 64, some (.agg ⟨[(.string (bs [])), (.slice none 0 0), (.slice none 0 0)]⟩), (.e (.agg [(.str), (.sl), (.sl)]))⟩,
  ⟨83, .map 9 22, 1, 8, some (.map none), (.e (.one (.map)))⟩,
  ⟨84, .tuple #[22, 4], 1, 0, some (.tuple ⟨[(.slice none 0 0), (.bool false)]⟩), (.tup [(.one (.sl)), (.one (.bool))])⟩,
  ⟨87, .func #[36] #[] false, 1, 8, some .nilFunc, (.e (.one (.fn)))⟩]
theorem TTok : TOk Tryz.prog TT := tok_of (by kernel_rfl)
def FNS : List Nat := [19, 25, 33, 63, 74, 75]
theorem FNSok : FOk Tryz.prog FNS := fok_of (by kernel_rfl)
theorem mixed : Tryz.prog.follows .mixedOrders = true := by kernel_rfl
def TCH : List Nat := []

/- 28 pilaster/scope.Order -/
noncomputable def c28 : Code := match Tryz.f28.body with
  | some c => c
  | none => .skip
noncomputable def cfg28 : Cfg := ⟨Tryz.prog, TT, FNS, [6], [(6, 6), (28, 6), (35, 6), (37, 6)], [4], TCH, false, false⟩
def an28 : AnnG := (.seq .leaf (.seq (.seq .leaf (.cond (.seq .leaf .leaf) .leaf)) (.seq (.seq .leaf (.cond (.seq .leaf .leaf) .leaf)) (.seq .leaf (.seq (.seq .leaf (.blk (.loop ⟨[(22, .int .i64)], [], []⟩ (.seq .leaf (.seq (.cond .leaf .leaf) (.seq (.blk (.seq .leaf (.seq (.seq .leaf (.seq .leaf (.cond (.seq .leaf .leaf) .leaf))) .leaf))) .leaf)))))) (.seq .leaf (.seq (.seq .leaf (.blk (.loop ⟨[(45, .int .i64)], [], []⟩ (.seq .leaf (.seq (.cond .leaf .leaf) (.seq (.blk (.seq .leaf (.seq .leaf (.cond (.seq .leaf .leaf) .leaf)))) .leaf)))))) (.seq .leaf (.seq (.blk (.loop ⟨[], [], []⟩ (.seq (.seq .leaf (.cond .leaf .leaf)) (.blk (.seq .leaf (.seq (.seq .leaf (.cond (.seq .leaf .leaf) .leaf)) (.tree 6 (.quiet 0 (.quiet 1 (.quiet 2 (.quiet 3 (.quiet 4 (.eff 5 .fin .fin))))))))))))) (.seq .leaf .leaf))))))))))
def F28 (la : Option Addr) (ll : Nat) (lc : Nat) (g : G) (R : Value → G → Prop) : Prop :=
  ifB (ltI (16 : Int) ((ll : Nat) : Int))
  (∀ g1 : G, Ex g g1 →
  R (.tuple ⟨[(.slice none 0 0), (.int .i64 (5 : Int))]⟩) g1)
  ((CallsP Tryz.prog 25 #[(.slice la ll lc), (.func (.func 72) #[] #[])] g fun v g2 =>
  ∃ x : Bool, v = (.bool x) ∧ ifB x
  (∀ g3 : G, Ex g2 g3 →
  R (.tuple ⟨[(.slice none 0 0), (.int .i64 (1 : Int))]⟩) g3)
  (∀ g4 : G, NewM g2 g4 →
  ∀ g5 : G, NewD g4 g5 83 [(.map none)] →
  stOk g5.w ⟨g4.w.heap.size, 0, none⟩ 1 ∧ ¬ g5.X (Addr.block ⟨g4.w.heap.size, 0, none⟩) ∧ mutAt g5 ⟨g4.w.heap.size, 0, none⟩ 1 ∧ ((Addr.block ⟨g4.w.heap.size, 0, none⟩) < g.w.heap.size → nobody (Addr.block ⟨g4.w.heap.size, 0, none⟩)) ∧ ∀ g6 : G, StG true g5 ⟨g4.w.heap.size, 0, none⟩ [(.map (some g2.w.heap.size))] g6 →
  ∃ Inv : Nat → Int → G → Prop, ((∃ m0 : Nat, Inv m0 (0 : Int) g6)) ∧
  ∀ m : Nat, ∀ v_1 : Int, ∀ g7 : G, Le g6 g7 → Inv m v_1 g7 →
  ifB (ltI v_1 ((ll : Nat) : Int))
  ((0 ≤ v_1 ∧ v_1 < ((ll : Nat) : Int)) ∧ derefP la fun ad => ∃ x0 : ByteArray, ∃ x1a : Option Addr, ∃ x1l : Nat, ∃ x1c : Nat, ∃ x2a : Option Addr, ∃ x2l : Nat, ∃ x2c : Nat, g7.w.cell? (Addr.add ad (Int.toNat v_1 * 3)) = some (.string x0) ∧ g7.w.cell? (Addr.add (Addr.add ad (Int.toNat v_1 * 3)) 1) = some (.slice x1a x1l x1c) ∧ g7.w.cell? (Addr.add (Addr.add ad (Int.toNat v_1 * 3)) 2) = some (.slice x2a x2l x2c) ∧ ∀ g8 : G, Ex g7 g8 →
  ∃ imports : Option Nat, g8.w.cell? ⟨g4.w.heap.size, 0, none⟩ = some (.map imports) ∧ ∃ x0a : Option Addr, ∃ x0l : Nat, ∃ x0c : Nat, ∃ x1 : Bool, ∃ wo1 : World, Sem.run Tryz.prog (Instr.lookup 83 (.map imports) (.string x0) true) g8.w = .ok (.tuple ⟨[(.slice x0a x0l x0c), (.bool x1)]⟩) wo1 ∧ ∃ g9 : G, g9.w = wo1 ∧ Stp g.w.heap.size nobody g8 g9 ∧ ifB x1
  (∀ g10 : G, Ex g9 g10 →
  R (.tuple ⟨[(.slice none 0 0), (.int .i64 (9 : Int))]⟩) g10)
  (∃ imports_1 : Option Nat, g9.w.cell? ⟨g4.w.heap.size, 0, none⟩ = some (.map imports_1) ∧ ∃ wo2 : World, Sem.run Tryz.prog (Instr.mapUpdate 83 (.map imports_1) (.string x0) (.slice x1a x1l x1c)) g9.w = .ok () wo2 ∧ ∃ g11 : G, g11.w = wo2 ∧ Stp g.w.heap.size nobody g9 g11 ∧ InI64 (v_1 + (1 : Int)) ∧ (∃ m_1 : Nat, m_1 < m ∧ Inv m_1 (v_1 + (1 : Int)) g11)))
  (∃ imports_2 : Option Nat, g7.w.cell? ⟨g4.w.heap.size, 0, none⟩ = some (.map imports_2) ∧ (CallsP Tryz.prog 75 #[(.map imports_2)] g7 fun v g12 =>
  ∃ xf : FuncId, ∃ xc : Array Value, v = (.func (.func xf) #[] xc) ∧ (CallsP Tryz.prog 74 #[(.func (.func xf) #[] xc)] g12 fun v g13 =>
  ∃ namesa : Option Addr, ∃ namesl : Nat, ∃ namesc : Nat, v = (.slice namesa namesl namesc) ∧ ∃ Inv_1 : Nat → Int → G → Prop, ((∃ m0 : Nat, Inv_1 m0 (0 : Int) g13)) ∧
  ∀ m_2 : Nat, ∀ v_2 : Int, ∀ g14 : G, Le g13 g14 → Inv_1 m_2 v_2 g14 →
  ifB (ltI v_2 ((namesl : Nat) : Int))
  ((0 ≤ v_2 ∧ v_2 < ((namesl : Nat) : Int)) ∧ derefP namesa fun ad_1 => ∃ n : ByteArray, g14.w.cell? (Addr.add ad_1 (Int.toNat v_2 * 1)) = some (.string n) ∧ ∃ imports_3 : Option Nat, g14.w.cell? ⟨g4.w.heap.size, 0, none⟩ = some (.map imports_3) ∧ ∃ xa : Option Addr, ∃ xl : Nat, ∃ xc_1 : Nat, ∃ wo3 : World, Sem.run Tryz.prog (Instr.lookup 83 (.map imports_3) (.string n) false) g14.w = .ok (.slice xa xl xc_1) wo3 ∧ ∃ g15 : G, g15.w = wo3 ∧ Stp g.w.heap.size nobody g14 g15 ∧ (CallsP Tryz.prog 33 #[(.slice xa xl xc_1), (.func (.func 76) #[] ⟨[(.pointer (some ⟨g4.w.heap.size, 0, none⟩))]⟩)] g15 fun v g16 =>
  ∃ x_1 : Bool, v = (.bool x_1) ∧ ifB x_1
  (∀ g17 : G, Ex g16 g17 →
  R (.tuple ⟨[(.slice none 0 0), (.int .i64 (17 : Int))]⟩) g17)
  (InI64 (v_2 + (1 : Int)) ∧ (∃ m_3 : Nat, m_3 < m_2 ∧ Inv_1 m_3 (v_2 + (1 : Int)) g16))))
  (∀ g18 : G, NewD g14 g18 22 [(.slice none 0 0)] →
  ∃ Inv_2 : Nat → G → Prop, ((∃ m0 : Nat, Inv_2 m0 g18)) ∧
  ∀ m_4 : Nat, ∀ g19 : G, Le g18 g19 → Inv_2 m_4 g19 →
  ∃ outa : Option Addr, ∃ outl : Nat, ∃ outc : Nat, g19.w.cell? ⟨g14.w.heap.size, 0, none⟩ = some (.slice outa outl outc) ∧ ifB (ltI ((outl : Nat) : Int) ((namesl : Nat) : Int))
  ((CallsP Tryz.prog 63 #[(.slice namesa namesl namesc), (.func (.func 77) #[] ⟨[(.pointer (some ⟨g14.w.heap.size, 0, none⟩)), (.pointer (some ⟨g4.w.heap.size, 0, none⟩))]⟩)] g19 fun v g20 =>
  ∃ i : Int, v = (.int .i64 i) ∧ ifB (ltI i (0 : Int))
  (∀ g21 : G, Ex g20 g21 →
  R (.tuple ⟨[(.slice none 0 0), (.int .i64 (21 : Int))]⟩) g21)
  (∀ g22 : G, Ex g20 g22 →
  ∃ outa_1 : Option Addr, ∃ outl_1 : Nat, ∃ outc_1 : Nat, g22.w.cell? ⟨g14.w.heap.size, 0, none⟩ = some (.slice outa_1 outl_1 outc_1) ∧ (0 ≤ i ∧ i < ((namesl : Nat) : Int)) ∧ derefP namesa fun ad_2 => ∃ x_2 : ByteArray, g22.w.cell? (Addr.add ad_2 (Int.toNat i * 1)) = some (.string x_2) ∧ ∀ g23 : G, NewL g22 g23 9 [(.string x_2)] →
  ∃ xa_1 : Option Addr, ∃ xl_1 : Nat, ∃ xc_2 : Nat, ∃ wo4 : World, Sem.run Tryz.prog (Builtin.append_ #[22, 22] 22 #[(.slice outa_1 outl_1 outc_1), (.slice (some ⟨g22.w.heap.size, 0, none⟩) 1 1)]) g23.w = .ok (.slice xa_1 xl_1 xc_2) wo4 ∧ ∃ g24 : G, g24.w = wo4 ∧ Stp g.w.heap.size nobody g23 g24 ∧ stOk g24.w ⟨g14.w.heap.size, 0, none⟩ 1 ∧ ¬ g24.X (Addr.block ⟨g14.w.heap.size, 0, none⟩) ∧ mutAt g24 ⟨g14.w.heap.size, 0, none⟩ 1 ∧ ((Addr.block ⟨g14.w.heap.size, 0, none⟩) < g.w.heap.size → nobody (Addr.block ⟨g14.w.heap.size, 0, none⟩)) ∧ ∀ g25 : G, StG false g24 ⟨g14.w.heap.size, 0, none⟩ [(.slice xa_1 xl_1 xc_2)] g25 →
  (∃ m_5 : Nat, m_5 < m_4 ∧ Inv_2 m_5 g25))))
  (∃ outa_2 : Option Addr, ∃ outl_2 : Nat, ∃ outc_2 : Nat, g19.w.cell? ⟨g14.w.heap.size, 0, none⟩ = some (.slice outa_2 outl_2 outc_2) ∧ ∀ g26 : G, Ex g19 g26 →
  R (.tuple ⟨[(.slice outa_2 outl_2 outc_2), (.int .i64 (0 : Int))]⟩) g26))))))))
theorem F28_eq (la : Option Addr) (ll : Nat) (lc : Nat) (g : G) (R : Value → G → Prop) : fnG cfg28 73 [.tmp 2, .tmp 3] c28 an28 [(.slice la ll lc)] g nobody R = F28 la ll lc g R := by kernel_rfl
theorem call28 (la : Option Addr) (ll : Nat) (lc : Nat) (g : G) (R : Value → G → Prop) (hF : F28 la ll lc g R) : CallsG Tryz.prog 28 #[(.slice la ll lc)] g nobody R :=
  fn_soundG (c := cfg28) TTok FNSok mixed Tryz.func28 (show Tryz.f28.body = some c28 by kernel_rfl) (show Tryz.f28.ntmps = 73 by kernel_rfl) (show Tryz.f28.results.toList = [.tmp 2, .tmp 3] by kernel_rfl) rfl ((F28_eq la ll lc g R).mpr hF)

/- 77 pilaster/scope.Order$3 -/
noncomputable def c77 : Code := match Tryz.f77.body with
  | some c => c
  | none => .skip
noncomputable def cfg77 : Cfg := ⟨Tryz.prog, TT, FNS, [], [], [], TCH, false, false⟩
def an77 : AnnG := (.seq .leaf (.seq .leaf .leaf))
def F77 (n : ByteArray) (c0 : Option Addr) (c1 : Option Addr) (g : G) (R : Value → G → Prop) : Prop :=
  derefP c0 fun ad => ∃ xa : Option Addr, ∃ xl : Nat, ∃ xc : Nat, g.w.cell? ad = some (.slice xa xl xc) ∧ (CallsP Tryz.prog 19 #[(.slice xa xl xc), (.string n)] g fun v g1 =>
  ∃ x : Bool, v = (.bool x) ∧ ifB (!x)
  (derefP c1 fun ad_1 => ∃ x_1 : Option Nat, g1.w.cell? ad_1 = some (.map x_1) ∧ ∃ xa_1 : Option Addr, ∃ xl_1 : Nat, ∃ xc_1 : Nat, ∃ wo1 : World, Sem.run Tryz.prog (Instr.lookup 83 (.map x_1) (.string n) false) g1.w = .ok (.slice xa_1 xl_1 xc_1) wo1 ∧ ∃ g2 : G, g2.w = wo1 ∧ Stp g.w.heap.size nobody g1 g2 ∧ (CallsP Tryz.prog 33 #[(.slice xa_1 xl_1 xc_1), (.func (.func 78) #[] ⟨[(.pointer c0)]⟩)] g2 fun v g3 =>
  ∃ x_2 : Bool, v = (.bool x_2) ∧ ∀ g4 : G, Ex g3 g4 →
  R (.bool (!x_2)) g4))
  (∀ g5 : G, Ex g1 g5 →
  R (.bool false) g5))
theorem F77_eq (n : ByteArray) (c0 : Option Addr) (c1 : Option Addr) (g : G) (R : Value → G → Prop) : fnG cfg77 17 [.tmp 4] c77 an77 [(.string n), (.pointer c0), (.pointer c1)] g nobody R = F77 n c0 c1 g R := by kernel_rfl
theorem call77 (n : ByteArray) (c0 : Option Addr) (c1 : Option Addr) (g : G) (R : Value → G → Prop) (hF : F77 n c0 c1 g R) : CallsG Tryz.prog 77 #[(.string n), (.pointer c0), (.pointer c1)] g nobody R :=
  fn_soundG (c := cfg77) TTok FNSok mixed Tryz.func77 (show Tryz.f77.body = some c77 by kernel_rfl) (show Tryz.f77.ntmps = 17 by kernel_rfl) (show Tryz.f77.results.toList = [.tmp 4] by kernel_rfl) rfl ((F77_eq n c0 c1 g R).mpr hF)

/- 78 pilaster/scope.Order$3$1 -/
noncomputable def c78 : Code := match Tryz.f78.body with
  | some c => c
  | none => .skip
noncomputable def cfg78 : Cfg := ⟨Tryz.prog, TT, FNS, [], [], [], TCH, false, false⟩
def an78 : AnnG := (.seq .leaf (.seq .leaf .leaf))
def F78 (s : ByteArray) (c0 : Option Addr) (g : G) (R : Value → G → Prop) : Prop :=
  derefP c0 fun ad => ∃ xa : Option Addr, ∃ xl : Nat, ∃ xc : Nat, g.w.cell? ad = some (.slice xa xl xc) ∧ (CallsP Tryz.prog 19 #[(.slice xa xl xc), (.string s)] g fun v g1 =>
  ∃ x : Bool, v = (.bool x) ∧ ∀ g2 : G, Ex g1 g2 →
  R (.bool (!x)) g2)
theorem F78_eq (s : ByteArray) (c0 : Option Addr) (g : G) (R : Value → G → Prop) : fnG cfg78 8 [.tmp 3] c78 an78 [(.string s), (.pointer c0)] g nobody R = F78 s c0 g R := by kernel_rfl
theorem call78 (s : ByteArray) (c0 : Option Addr) (g : G) (R : Value → G → Prop) (hF : F78 s c0 g R) : CallsG Tryz.prog 78 #[(.string s), (.pointer c0)] g nobody R :=
  fn_soundG (c := cfg78) TTok FNSok mixed Tryz.func78 (show Tryz.f78.body = some c78 by kernel_rfl) (show Tryz.f78.ntmps = 8 by kernel_rfl) (show Tryz.f78.results.toList = [.tmp 3] by kernel_rfl) rfl ((F78_eq s c0 g R).mpr hF)

/- 76 pilaster/scope.Order$2 -/
noncomputable def c76 : Code := match Tryz.f76.body with
  | some c => c
  | none => .skip
noncomputable def cfg76 : Cfg := ⟨Tryz.prog, TT, FNS, [], [], [], TCH, false, false⟩
def an76 : AnnG := (.seq .leaf (.seq .leaf (.seq .leaf .leaf)))
def F76 (s : ByteArray) (c0 : Option Addr) (g : G) (R : Value → G → Prop) : Prop :=
  derefP c0 fun ad => ∃ x : Option Nat, g.w.cell? ad = some (.map x) ∧ ∃ x0a : Option Addr, ∃ x0l : Nat, ∃ x0c : Nat, ∃ x1 : Bool, ∃ wo1 : World, Sem.run Tryz.prog (Instr.lookup 83 (.map x) (.string s) true) g.w = .ok (.tuple ⟨[(.slice x0a x0l x0c), (.bool x1)]⟩) wo1 ∧ ∃ g1 : G, g1.w = wo1 ∧ Stp g.w.heap.size nobody g g1 ∧ ∀ g2 : G, Ex g1 g2 →
  R (.bool (!x1)) g2
theorem F76_eq (s : ByteArray) (c0 : Option Addr) (g : G) (R : Value → G → Prop) : fnG cfg76 14 [.tmp 3] c76 an76 [(.string s), (.pointer c0)] g nobody R = F76 s c0 g R := by kernel_rfl
theorem call76 (s : ByteArray) (c0 : Option Addr) (g : G) (R : Value → G → Prop) (hF : F76 s c0 g R) : CallsG Tryz.prog 76 #[(.string s), (.pointer c0)] g nobody R :=
  fn_soundG (c := cfg76) TTok FNSok mixed Tryz.func76 (show Tryz.f76.body = some c76 by kernel_rfl) (show Tryz.f76.ntmps = 14 by kernel_rfl) (show Tryz.f76.results.toList = [.tmp 3] by kernel_rfl) rfl ((F76_eq s c0 g R).mpr hF)
end Go.Proofs.YtkocjbgdmocmlaaGreatDoor.P28
