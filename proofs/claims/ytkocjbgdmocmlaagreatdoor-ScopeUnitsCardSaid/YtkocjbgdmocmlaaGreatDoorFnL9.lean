/- Printed by a program (wip/tools/gen2.py): for each function its condition as a plain formula, and that the formula gives the call. -/
import Derived.Test.YtkocjbgdmocmlaaGreatDoorProg
import Derived.Test.YtkocjbgdmocmlaaGreatDoorVda
namespace Go.Proofs.YtkocjbgdmocmlaaGreatDoor.PL9
open Go Go.Vc Go.RowKit
set_option maxRecDepth 100000
set_option linter.unusedVariables false
def TT : List TI := [
  ⟨3, .int .i64, 1, 8, some (.int .i64 (0 : Int)), (.e (.one (.int .i64)))⟩,
  ⟨4, .bool, 1, 1, some (.bool false), (.e (.one (.bool)))⟩,
  ⟨9, .string, 1, 16, some (.string (bs [])), (.e (.one (.str)))⟩,
  ⟨22, .slice 9, 1, 24, some (.slice none 0 0), (.e (.one (.sl)))⟩,
  ⟨23, .slice 25, 1, 24, some (.slice none 0 0), (.e (.one (.sl)))⟩,
  ⟨25, .struct #[{ name := "Op", type := 3, offset := 0, embedded := false, tag := "", pkgPath := "", byteOffset := 0 }, { name := "N", type := 3, offset := 1, embedded := false, tag := "", pkgPath := "", byteOffset := 8 }, { name := "S", type := 9, offset := 2, embedded := false, tag := "", pkgPath := "", byteOffset := 16 }, { name := "Names", type := 22, offset := 3, embedded := false, tag := "", pkgPath := "", byteOffset := 32 }, { name := "L", type := 23, offset := 4, embedded := false, tag := "", pkgPath := "", byteOffset := 56 }], 5, 80, some (.agg ⟨[(.int .i64 (0 : Int)), (.int .i64 (0 : Int)), (.string (bs [])), (.slice none 0 0), (.slice none 0 0)]⟩), (.e (.agg [(.int .i64), (.int .i64), (.str), (.sl), (.sl)]))⟩,
  ⟨28, .int .i64, 1, 8, some (.int .i64 (0 : Int)), (.e (.one (.int .i64)))⟩,
  ⟨29, .tuple #[22, 28], 1, 0, some (.tuple ⟨[(.slice none 0 0), (.int .i64 (0 : Int))]⟩), (.tup [(.one (.sl)), (.one (.int .i64))])⟩,
  ⟨46, .struct #[{ name := "Name", type := 9, offset := 0, embedded := false, tag := "", pkgPath := "", byteOffset := 0 }, { name := "Imports", type := 22, offset := 1, embedded := false, tag := "", pkgPath := "", byteOffset := 16 }, { name := "Decls", type := 23, offset := 2, embedded := false, tag := "", pkgPath := "", byteOffset := 40 }], 3, 64, some (.agg ⟨[(.string (bs [])), (.slice none 0 0), (.slice none 0 0)]⟩), (.e (.agg [(.str), (.sl), (.sl)]))⟩]
theorem TTok : TOk Tryz.prog TT := tok_of (by kernel_rfl)
def FNS : List Nat := [11, 16, 19, 21, 27, 33, 36, 38, 39, 40, 59, 73, 79, 86, 88, 90]
theorem FNSok : FOk Tryz.prog FNS := fok_of (by kernel_rfl)
theorem mixed : Tryz.prog.follows .mixedOrders = true := by kernel_rfl
def TCH : List Nat := [12, 16]

/- 9 pilaster/pilasterlaw07.ScopeUnits -/
noncomputable def c9 : Code := match Tryz.f9.body with
  | some c => c
  | none => .skip
noncomputable def cfg9 : Cfg := ⟨Tryz.prog, TT, FNS, [1], [(1, 1)], [], TCH, false, false⟩
def an9 : AnnG := (.seq .leaf (.seq (.seq .leaf (.cond (.seq .leaf .leaf) .leaf)) (.seq (.seq .leaf (.cond (.seq .leaf .leaf) .leaf)) (.seq .leaf (.seq (.seq .leaf (.cond (.seq .leaf .leaf) .leaf)) (.seq .leaf .leaf))))))
def F9 (u0 : ByteArray) (u1a : Option Addr) (u1l : Nat) (u1c : Nat) (u2a : Option Addr) (u2l : Nat) (u2c : Nat) (g : G) (R : Value → G → Prop) : Prop :=
  ∀ g1 : G, Ex g g1 →
  (CallsP Tryz.prog 11 #[] g1 fun v g2 =>
  ∃ x : Bool, v = (.bool x) ∧ ifB (!x)
  (∀ g3 : G, Ex g2 g3 →
  R (.bool false) g3)
  ((CallsP Tryz.prog 27 #[(.agg ⟨[(.string u0), (.slice u1a u1l u1c), (.slice u2a u2l u2c)]⟩)] g2 fun v g4 =>
  ∃ x_1 : Bool, v = (.bool x_1) ∧ ifB (!x_1)
  (∀ g5 : G, Ex g4 g5 →
  R (.bool true) g5)
  ((CallsP Tryz.prog 38 #[(.agg ⟨[(.string u0), (.slice u1a u1l u1c), (.slice u2a u2l u2c)]⟩)] g4 fun v g6 =>
  ∃ x0a : Option Addr, ∃ x0l : Nat, ∃ x0c : Nat, ∃ x1 : Int, v = (.tuple ⟨[(.slice x0a x0l x0c), (.int .i64 x1)]⟩) ∧ (CallsP Tryz.prog 39 #[(.agg ⟨[(.string u0), (.slice u1a u1l u1c), (.slice u2a u2l u2c)]⟩)] g6 fun v g7 =>
  ∃ x_2 : Bool, v = (.bool x_2) ∧ ifB (!x_2)
  (ifB (eqI ((x0l : Nat) : Int) (0 : Int))
  (∀ g8 : G, Ex g7 g8 →
  R (.bool (eqI x1 (1 : Int))) g8)
  (∀ g9 : G, Ex g7 g9 →
  R (.bool false) g9))
  (ifB (eqI x1 (0 : Int))
  ((CallsP Tryz.prog 40 #[(.agg ⟨[(.string u0), (.slice u1a u1l u1c), (.slice u2a u2l u2c)]⟩)] g7 fun v g10 =>
  ∃ xa : Option Addr, ∃ xl : Nat, ∃ xc : Nat, v = (.slice xa xl xc) ∧ (CallsP Tryz.prog 21 #[(.slice x0a x0l x0c), (.slice xa xl xc)] g10 fun v g11 =>
  ∃ x_3 : Bool, v = (.bool x_3) ∧ ∀ g12 : G, Ex g11 g12 →
  R (.bool x_3) g12)))
  (∀ g13 : G, Ex g7 g13 →
  R (.bool false) g13))))))))
theorem F9_eq (u0 : ByteArray) (u1a : Option Addr) (u1l : Nat) (u1c : Nat) (u2a : Option Addr) (u2l : Nat) (u2c : Nat) (g : G) (R : Value → G → Prop) : fnG cfg9 33 [.tmp 2] c9 an9 [(.agg ⟨[(.string u0), (.slice u1a u1l u1c), (.slice u2a u2l u2c)]⟩)] g nobody R = F9 u0 u1a u1l u1c u2a u2l u2c g R := by kernel_rfl
theorem call9 (u0 : ByteArray) (u1a : Option Addr) (u1l : Nat) (u1c : Nat) (u2a : Option Addr) (u2l : Nat) (u2c : Nat) (g : G) (R : Value → G → Prop) (hF : F9 u0 u1a u1l u1c u2a u2l u2c g R) : CallsG Tryz.prog 9 #[(.agg ⟨[(.string u0), (.slice u1a u1l u1c), (.slice u2a u2l u2c)]⟩)] g nobody R :=
  fn_soundG (c := cfg9) TTok FNSok mixed Tryz.func9 (show Tryz.f9.body = some c9 by kernel_rfl) (show Tryz.f9.ntmps = 33 by kernel_rfl) (show Tryz.f9.results.toList = [.tmp 2] by kernel_rfl) rfl ((F9_eq u0 u1a u1l u1c u2a u2l u2c g R).mpr hF)

/- 38 pilaster/scope.Unbound -/
noncomputable def c38 : Code := match Tryz.f38.body with
  | some c => c
  | none => .skip
noncomputable def cfg38 : Cfg := ⟨Tryz.prog, TT, FNS, [], [], [1], TCH, false, false⟩
def an38 : AnnG := (.seq .leaf (.seq (.seq .leaf (.cond (.seq .leaf .leaf) .leaf)) (.seq .leaf .leaf)))
def F38 (u0 : ByteArray) (u1a : Option Addr) (u1l : Nat) (u1c : Nat) (u2a : Option Addr) (u2l : Nat) (u2c : Nat) (g : G) (R : Value → G → Prop) : Prop :=
  ∀ g1 : G, NewL g g1 46 ([(.string u0), (.slice u1a u1l u1c), (.slice u2a u2l u2c)] : List Value) →
  ∃ u0_1 : ByteArray, ∃ u1a_1 : Option Addr, ∃ u1l_1 : Nat, ∃ u1c_1 : Nat, ∃ u2a_1 : Option Addr, ∃ u2l_1 : Nat, ∃ u2c_1 : Nat, g1.w.cell? ⟨g.w.heap.size, 0, none⟩ = some (.string u0_1) ∧ g1.w.cell? (Addr.add ⟨g.w.heap.size, 0, none⟩ 1) = some (.slice u1a_1 u1l_1 u1c_1) ∧ g1.w.cell? (Addr.add ⟨g.w.heap.size, 0, none⟩ 2) = some (.slice u2a_1 u2l_1 u2c_1) ∧ (CallsP Tryz.prog 73 #[(.agg ⟨[(.string u0_1), (.slice u1a_1 u1l_1 u1c_1), (.slice u2a_1 u2l_1 u2c_1)]⟩)] g1 fun v g2 =>
  ∃ x : Bool, v = (.bool x) ∧ ifB (!x)
  (∀ g3 : G, Ex g2 g3 →
  R (.tuple ⟨[(.slice none 0 0), (.int .i64 (1 : Int))]⟩) g3)
  (∃ xa : Option Addr, ∃ xl : Nat, ∃ xc : Nat, g2.w.cell? (Addr.add ⟨g.w.heap.size, 0, none⟩ 2) = some (.slice xa xl xc) ∧ (CallsP Tryz.prog 59 #[(.agg ⟨[(.int .i64 (81 : Int)), (.int .i64 (0 : Int)), (.string (bs [])), (.slice none 0 0), (.slice xa xl xc)]⟩)] g2 fun v g4 =>
  ∃ xa_1 : Option Addr, ∃ xl_1 : Nat, ∃ xc_1 : Nat, v = (.slice xa_1 xl_1 xc_1) ∧ ∃ M1 : Nat → Prop, (∀ b, b < g.w.heap.size → M1 b → nobody b) ∧ (CallsG Tryz.prog 16 #[(.slice xa_1 xl_1 xc_1), (.func (.func 85) #[] ⟨[(.pointer (some ⟨g.w.heap.size, 0, none⟩))]⟩)] g4 M1 fun v g5 =>
  ∃ xa_2 : Option Addr, ∃ xl_2 : Nat, ∃ xc_2 : Nat, v = (.slice xa_2 xl_2 xc_2) ∧ ∀ g6 : G, Ex g5 g6 →
  R (.tuple ⟨[(.slice xa_2 xl_2 xc_2), (.int .i64 (0 : Int))]⟩) g6))))
theorem F38_eq (u0 : ByteArray) (u1a : Option Addr) (u1l : Nat) (u1c : Nat) (u2a : Option Addr) (u2l : Nat) (u2c : Nat) (g : G) (R : Value → G → Prop) : fnG cfg38 13 [.tmp 2, .tmp 3] c38 an38 [(.agg ⟨[(.string u0), (.slice u1a u1l u1c), (.slice u2a u2l u2c)]⟩)] g nobody R = F38 u0 u1a u1l u1c u2a u2l u2c g R := by kernel_rfl
theorem call38 (u0 : ByteArray) (u1a : Option Addr) (u1l : Nat) (u1c : Nat) (u2a : Option Addr) (u2l : Nat) (u2c : Nat) (g : G) (R : Value → G → Prop) (hF : F38 u0 u1a u1l u1c u2a u2l u2c g R) : CallsG Tryz.prog 38 #[(.agg ⟨[(.string u0), (.slice u1a u1l u1c), (.slice u2a u2l u2c)]⟩)] g nobody R :=
  fn_soundG (c := cfg38) TTok FNSok mixed Tryz.func38 (show Tryz.f38.body = some c38 by kernel_rfl) (show Tryz.f38.ntmps = 13 by kernel_rfl) (show Tryz.f38.results.toList = [.tmp 2, .tmp 3] by kernel_rfl) rfl ((F38_eq u0 u1a u1l u1c u2a u2l u2c g R).mpr hF)

/- 40 pilaster/pilasterref07.Unbound -/
noncomputable def c40 : Code := match Tryz.f40.body with
  | some c => c
  | none => .skip
noncomputable def cfg40 : Cfg := ⟨Tryz.prog, TT, FNS, [1], [(1, 1), (8, 1), (19, 1), (29, 1)], [], TCH, false, false⟩
def an40 : AnnG := (.seq .leaf (.seq .leaf (.seq .leaf (.seq (.seq .leaf (.blk (.loop ⟨[(3, .sl), (5, .int .i64)], [], []⟩ (.seq (.seq .leaf (.cond .leaf .leaf)) (.seq (.blk (.seq .leaf (.seq (.seq .leaf (.blk (.loop ⟨[(6, .bool), (7, .int .i64)], [], []⟩ (.seq (.seq .leaf (.cond .leaf .leaf)) (.seq (.blk (.seq (.tree 10 (.quiet 0 (.quiet 1 (.quiet 2 (.quiet 3 (.quiet 4 (.quiet 5 (.quiet 6 (.quiet 7 (.quiet 8 (.quiet 9 .fin))))))))))) (.cond .leaf .leaf))) .leaf))))) (.join ⟨[(45, .bool)], [], []⟩ .leaf (.cond .leaf .leaf))))) .leaf))))) (.seq .leaf .leaf)))))
def F40 (u0 : ByteArray) (u1a : Option Addr) (u1l : Nat) (u1c : Nat) (u2a : Option Addr) (u2l : Nat) (u2c : Nat) (g : G) (R : Value → G → Prop) : Prop :=
  ∀ g1 : G, Ex g g1 →
  (CallsP Tryz.prog 36 #[(.agg ⟨[(.int .i64 (81 : Int)), (.int .i64 (0 : Int)), (.string (bs [])), (.slice none 0 0), (.slice u2a u2l u2c)]⟩)] g1 fun v g2 =>
  ∃ la : Option Addr, ∃ ll : Nat, ∃ lc : Nat, v = (.slice la ll lc) ∧ ∃ Inv : Nat → Option Addr → Nat → Nat → Int → G → Prop, ((∃ m0 : Nat, Inv m0 none 0 0 (0 : Int) g2)) ∧
  ∀ m : Nat, ∀ outa : Option Addr, ∀ outl : Nat, ∀ outc : Nat, ∀ i : Int, ∀ g3 : G, Le g2 g3 → Inv m outa outl outc i g3 →
  ifB (ltI i ((ll : Nat) : Int))
  (∃ Inv_1 : Nat → Bool → Int → G → Prop, ((∃ m0 : Nat, Inv_1 m0 false (0 : Int) g3)) ∧
  ∀ m_2 : Nat, ∀ imported : Bool, ∀ k : Int, ∀ g4 : G, Le g3 g4 → Inv_1 m_2 imported k g4 →
  ifB (ltI k ((u1l : Nat) : Int))
  (∀ g5 : G, Ex g4 g5 →
  (0 ≤ i ∧ i < ((ll : Nat) : Int)) ∧ derefP la fun ad => ∃ x : ByteArray, g5.w.cell? (Addr.add ad (Int.toNat i * 1)) = some (.string x) ∧ (0 ≤ k ∧ k < ((u1l : Nat) : Int)) ∧ derefP u1a fun ad_1 => ∃ x_1 : ByteArray, g5.w.cell? (Addr.add ad_1 (Int.toNat k * 1)) = some (.string x_1) ∧ (bs [109, 111, 100, 46]).size + x_1.size ≤ 9223372036854775807 ∧ ifB (strEq x ((bs [109, 111, 100, 46]) ++ x_1))
  (InI64 (k + (1 : Int)) ∧ (∃ m_3 : Nat, m_3 < m_2 ∧ Inv_1 m_3 true (k + (1 : Int)) g5))
  (InI64 (k + (1 : Int)) ∧ (∃ m_3 : Nat, m_3 < m_2 ∧ Inv_1 m_3 imported (k + (1 : Int)) g5)))
  (∀ J : Bool → G → Prop,
  (∀ v_1 : Bool, ∀ g6 : G, (ifB v_1
  ((0 ≤ i ∧ i < ((ll : Nat) : Int)) ∧ derefP la fun ad_2 => ∃ x_2 : ByteArray, g6.w.cell? (Addr.add ad_2 (Int.toNat i * 1)) = some (.string x_2) ∧ ∀ g7 : G, NewL g6 g7 9 [(.string x_2)] →
  ∃ outa_1 : Option Addr, ∃ outl_1 : Nat, ∃ outc_1 : Nat, ∃ wo1 : World, Sem.run Tryz.prog (Builtin.append_ #[22, 22] 22 #[(.slice outa outl outc), (.slice (some ⟨g6.w.heap.size, 0, none⟩) 1 1)]) g7.w = .ok (.slice outa_1 outl_1 outc_1) wo1 ∧ ∃ g8 : G, g8.w = wo1 ∧ Stp g.w.heap.size nobody g7 g8 ∧ InI64 (i + (1 : Int)) ∧ (∃ m_1 : Nat, m_1 < m ∧ Inv m_1 outa_1 outl_1 outc_1 (i + (1 : Int)) g8))
  (InI64 (i + (1 : Int)) ∧ (∃ m_1 : Nat, m_1 < m ∧ Inv m_1 outa outl outc (i + (1 : Int)) g6))) → J v_1 g6) →
  ifB (!imported)
  ((0 ≤ i ∧ i < ((ll : Nat) : Int)) ∧ derefP la fun ad_3 => ∃ x_3 : ByteArray, g4.w.cell? (Addr.add ad_3 (Int.toNat i * 1)) = some (.string x_3) ∧ (CallsP Tryz.prog 90 #[(.string x_3)] g4 fun v g9 =>
  ∃ x_4 : Bool, v = (.bool x_4) ∧ J (!x_4) g9))
  (J false g4)))
  (∀ g10 : G, Ex g3 g10 →
  R (.slice outa outl outc) g10))
theorem F40_eq (u0 : ByteArray) (u1a : Option Addr) (u1l : Nat) (u1c : Nat) (u2a : Option Addr) (u2l : Nat) (u2c : Nat) (g : G) (R : Value → G → Prop) : fnG cfg40 54 [.tmp 2] c40 an40 [(.agg ⟨[(.string u0), (.slice u1a u1l u1c), (.slice u2a u2l u2c)]⟩)] g nobody R = F40 u0 u1a u1l u1c u2a u2l u2c g R := by kernel_rfl
theorem call40 (u0 : ByteArray) (u1a : Option Addr) (u1l : Nat) (u1c : Nat) (u2a : Option Addr) (u2l : Nat) (u2c : Nat) (g : G) (R : Value → G → Prop) (hF : F40 u0 u1a u1l u1c u2a u2l u2c g R) : CallsG Tryz.prog 40 #[(.agg ⟨[(.string u0), (.slice u1a u1l u1c), (.slice u2a u2l u2c)]⟩)] g nobody R :=
  fn_soundG (c := cfg40) TTok FNSok mixed Tryz.func40 (show Tryz.f40.body = some c40 by kernel_rfl) (show Tryz.f40.ntmps = 54 by kernel_rfl) (show Tryz.f40.results.toList = [.tmp 2] by kernel_rfl) rfl ((F40_eq u0 u1a u1l u1c u2a u2l u2c g R).mpr hF)

/- 85 pilaster/scope.Unbound$1 -/
noncomputable def c85 : Code := match Tryz.f85.body with
  | some c => c
  | none => .skip
noncomputable def cfg85 : Cfg := ⟨Tryz.prog, TT, FNS, [], [], [2], TCH, false, false⟩
def an85 : AnnG := (.seq .leaf (.seq .leaf .leaf))
def F85 (s : ByteArray) (c0 : Option Addr) (g : G) (R : Value → G → Prop) : Prop :=
  ∀ g1 : G, NewL g g1 9 ([(.string s)] : List Value) →
  ∃ s_1 : ByteArray, g1.w.cell? ⟨g.w.heap.size, 0, none⟩ = some (.string s_1) ∧ (CallsP Tryz.prog 86 #[(.string s_1)] g1 fun v g2 =>
  ∃ x : Bool, v = (.bool x) ∧ ifB x
  (∀ g3 : G, Ex g2 g3 →
  R (.bool true) g3)
  (derefP c0 fun ad => ∃ xa : Option Addr, ∃ xl : Nat, ∃ xc : Nat, g2.w.cell? (Addr.add ad 1) = some (.slice xa xl xc) ∧ (CallsP Tryz.prog 33 #[(.slice xa xl xc), (.func (.func 87) #[] ⟨[(.pointer (some ⟨g.w.heap.size, 0, none⟩))]⟩)] g2 fun v g4 =>
  ∃ x_1 : Bool, v = (.bool x_1) ∧ ∀ g5 : G, Ex g4 g5 →
  R (.bool x_1) g5)))
theorem F85_eq (s : ByteArray) (c0 : Option Addr) (g : G) (R : Value → G → Prop) : fnG cfg85 12 [.tmp 3] c85 an85 [(.string s), (.pointer c0)] g nobody R = F85 s c0 g R := by kernel_rfl
theorem call85 (s : ByteArray) (c0 : Option Addr) (g : G) (R : Value → G → Prop) (hF : F85 s c0 g R) : CallsG Tryz.prog 85 #[(.string s), (.pointer c0)] g nobody R :=
  fn_soundG (c := cfg85) TTok FNSok mixed Tryz.func85 (show Tryz.f85.body = some c85 by kernel_rfl) (show Tryz.f85.ntmps = 12 by kernel_rfl) (show Tryz.f85.results.toList = [.tmp 3] by kernel_rfl) rfl ((F85_eq s c0 g R).mpr hF)

/- 86 pilaster/scope.builtin -/
noncomputable def c86 : Code := match Tryz.f86.body with
  | some c => c
  | none => .skip
noncomputable def cfg86 : Cfg := ⟨Tryz.prog, TT, FNS, [], [], [], TCH, false, false⟩
def an86 : AnnG := (.seq .leaf (.seq .leaf .leaf))
def F86 (s : ByteArray) (g : G) (R : Value → G → Prop) : Prop :=
  ∀ g1 : G, NewL g g1 9 [(.string (bs [116, 121, 112, 101, 46, 105, 110, 116])), (.string (bs [116, 121, 112, 101, 46, 116, 101, 120, 116])), (.string (bs [116, 121, 112, 101, 46, 98, 111, 111, 108])), (.string (bs [116, 121, 112, 101, 46, 117, 110, 105, 116])), (.string (bs [118, 97, 108, 46, 110, 111, 116])), (.string (bs [118, 97, 108, 46, 115, 105, 122, 101])), (.string (bs [118, 97, 108, 46, 115, 104, 111, 119])), (.string (bs [118, 97, 108, 46, 115, 97, 109, 101])), (.string (bs [118, 97, 108, 46, 112, 114, 105, 110, 116])), (.string (bs [118, 97, 108, 46, 97, 98, 111, 114, 116])), (.string (bs [99, 111, 110, 46, 84, 114, 117, 101])), (.string (bs [99, 111, 110, 46, 70, 97, 108, 115, 101]))] →
  (CallsP Tryz.prog 19 #[(.slice (some ⟨g.w.heap.size, 0, none⟩) 12 12), (.string s)] g1 fun v g2 =>
  ∃ x : Bool, v = (.bool x) ∧ ∀ g3 : G, Ex g2 g3 →
  R (.bool x) g3)
theorem F86_eq (s : ByteArray) (g : G) (R : Value → G → Prop) : fnG cfg86 6 [.tmp 2] c86 an86 [(.string s)] g nobody R = F86 s g R := by kernel_rfl
theorem call86 (s : ByteArray) (g : G) (R : Value → G → Prop) (hF : F86 s g R) : CallsG Tryz.prog 86 #[(.string s)] g nobody R :=
  fn_soundG (c := cfg86) TTok FNSok mixed Tryz.func86 (show Tryz.f86.body = some c86 by kernel_rfl) (show Tryz.f86.ntmps = 6 by kernel_rfl) (show Tryz.f86.results.toList = [.tmp 2] by kernel_rfl) rfl ((F86_eq s g R).mpr hF)

/- 87 pilaster/scope.Unbound$1$1 -/
noncomputable def c87 : Code := match Tryz.f87.body with
  | some c => c
  | none => .skip
noncomputable def cfg87 : Cfg := ⟨Tryz.prog, TT, FNS, [], [], [], TCH, false, false⟩
def an87 : AnnG := (.seq .leaf (.seq (.tree 3 (.quiet 0 (.quiet 1 (.eff 2 .fin .fin)))) .leaf))
def F87 (n : ByteArray) (c0 : Option Addr) (g : G) (R : Value → G → Prop) : Prop :=
  ∀ g1 : G, Ex g g1 →
  derefP c0 fun ad => ∃ x : ByteArray, g1.w.cell? ad = some (.string x) ∧ (CallsP Tryz.prog 88 #[(.int .i64 (4 : Int)), (.string n)] g1 fun v g2 =>
  ∃ x_1 : ByteArray, v = (.string x_1) ∧ ∀ g3 : G, Ex g2 g3 →
  R (.bool (strEq x x_1)) g3)
theorem F87_eq (n : ByteArray) (c0 : Option Addr) (g : G) (R : Value → G → Prop) : fnG cfg87 8 [.tmp 3] c87 an87 [(.string n), (.pointer c0)] g nobody R = F87 n c0 g R := by kernel_rfl
theorem call87 (n : ByteArray) (c0 : Option Addr) (g : G) (R : Value → G → Prop) (hF : F87 n c0 g R) : CallsG Tryz.prog 87 #[(.string n), (.pointer c0)] g nobody R :=
  fn_soundG (c := cfg87) TTok FNSok mixed Tryz.func87 (show Tryz.f87.body = some c87 by kernel_rfl) (show Tryz.f87.ntmps = 8 by kernel_rfl) (show Tryz.f87.results.toList = [.tmp 3] by kernel_rfl) rfl ((F87_eq n c0 g R).mpr hF)

/- 90 pilaster/pilasterref07.Builtin -/
noncomputable def c90 : Code := match Tryz.f90.body with
  | some c => c
  | none => .skip
noncomputable def cfg90 : Cfg := ⟨Tryz.prog, TT, FNS, [], [], [], TCH, false, false⟩
def an90 : AnnG := (.seq .leaf (.seq .leaf .leaf))
def F90 (s : ByteArray) (g : G) (R : Value → G → Prop) : Prop :=
  ∀ g1 : G, NewL g g1 9 [(.string (bs [116, 121, 112, 101, 46, 105, 110, 116])), (.string (bs [116, 121, 112, 101, 46, 116, 101, 120, 116])), (.string (bs [116, 121, 112, 101, 46, 98, 111, 111, 108])), (.string (bs [116, 121, 112, 101, 46, 117, 110, 105, 116])), (.string (bs [118, 97, 108, 46, 110, 111, 116])), (.string (bs [118, 97, 108, 46, 115, 105, 122, 101])), (.string (bs [118, 97, 108, 46, 115, 104, 111, 119])), (.string (bs [118, 97, 108, 46, 115, 97, 109, 101])), (.string (bs [118, 97, 108, 46, 112, 114, 105, 110, 116])), (.string (bs [118, 97, 108, 46, 97, 98, 111, 114, 116])), (.string (bs [99, 111, 110, 46, 84, 114, 117, 101])), (.string (bs [99, 111, 110, 46, 70, 97, 108, 115, 101]))] →
  (CallsP Tryz.prog 79 #[(.slice (some ⟨g.w.heap.size, 0, none⟩) 12 12), (.string s)] g1 fun v g2 =>
  ∃ x : Bool, v = (.bool x) ∧ ∀ g3 : G, Ex g2 g3 →
  R (.bool x) g3)
theorem F90_eq (s : ByteArray) (g : G) (R : Value → G → Prop) : fnG cfg90 6 [.tmp 2] c90 an90 [(.string s)] g nobody R = F90 s g R := by kernel_rfl
theorem call90 (s : ByteArray) (g : G) (R : Value → G → Prop) (hF : F90 s g R) : CallsG Tryz.prog 90 #[(.string s)] g nobody R :=
  fn_soundG (c := cfg90) TTok FNSok mixed Tryz.func90 (show Tryz.f90.body = some c90 by kernel_rfl) (show Tryz.f90.ntmps = 6 by kernel_rfl) (show Tryz.f90.results.toList = [.tmp 2] by kernel_rfl) rfl ((F90_eq s g R).mpr hF)
end Go.Proofs.YtkocjbgdmocmlaaGreatDoor.PL9
