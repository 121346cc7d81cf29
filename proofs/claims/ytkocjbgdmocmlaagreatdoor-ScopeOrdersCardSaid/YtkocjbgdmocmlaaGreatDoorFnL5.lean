/- Printed by a program (wip/tools/gen2.py): for each function its condition as a plain formula, and that the formula gives the call. -/
import Derived.Test.YtkocjbgdmocmlaaGreatDoorProg
import Derived.Test.YtkocjbgdmocmlaaGreatDoorVda
namespace Go.Proofs.YtkocjbgdmocmlaaGreatDoor.PL5
open Go Go.Vc Go.RowKit
set_option maxRecDepth 100000
set_option linter.unusedVariables false
def TT : List TI := [
  ⟨3, .int .i64, 1, 8, some (.int .i64 (0 : Int)), (.e (.one (.int .i64)))⟩,
  ⟨4, .bool, 1, 1, some (.bool false), (.e (.one (.bool)))⟩,
  ⟨9, .string, 1, 16, some (.string (bs [])), (.e (.one (.str)))⟩,
  ⟨22, .slice 9, 1, 24, some (.slice none 0 0), (.e (.one (.sl)))⟩,
  ⟨29, .tuple #[22, 28], 1, 0, some (.tuple ⟨[(.slice none 0 0), (.int .i64 (0 : Int))]⟩), (.tup [(.one (.sl)), (.one (.int .i64))])⟩,
  ⟨43, .slice 46, 1, 24, some (.slice none 0 0), (.e (.one (.sl)))⟩,
  ⟨46, .struct #[{ name := "Name", type := 9, offset := 0, embedded := false, tag := "", pkgPath := "", byteOffset := 0 }, { name := "Imports", type := 22, offset := 1, embedded := false, tag := "", pkgPath := "", byteOffset := 16 }, { name := "Decls", type := 23, offset := 2, embedded := false, tag := "", pkgPath := "", byteOffset := 40 }], 3, 64, some (.agg ⟨[(.string (bs [])), (.slice none 0 0), (.slice none 0 0)]⟩), (.e (.agg [(.str), (.sl), (.sl)]))⟩,
  ⟨49, .tuple #[22, 3], 1, 0, some (.tuple ⟨[(.slice none 0 0), (.int .i64 (0 : Int))]⟩), (.tup [(.one (.sl)), (.one (.int .i64))])⟩]
theorem TTok : TOk Tryz.prog TT := tok_of (by kernel_rfl)
def FNS : List Nat := [11, 21, 25, 27, 28, 29, 39, 67, 79]
theorem FNSok : FOk Tryz.prog FNS := fok_of (by kernel_rfl)
theorem mixed : Tryz.prog.follows .mixedOrders = true := by kernel_rfl
def TCH : List Nat := [12, 16]

/- 5 pilaster/pilasterlaw07.ScopeOrders -/
noncomputable def c5 : Code := match Tryz.f5.body with
  | some c => c
  | none => .skip
noncomputable def cfg5 : Cfg := ⟨Tryz.prog, TT, FNS, [], [], [], TCH, false, false⟩
def an5 : AnnG := (.seq .leaf (.seq (.seq .leaf (.cond (.seq .leaf .leaf) .leaf)) (.join ⟨[], [], []⟩ (.seq .leaf (.cond (.seq .leaf .leaf) .leaf)) (.seq .leaf (.seq .leaf (.seq .leaf .leaf))))))
def F5 (la : Option Addr) (ll : Nat) (lc : Nat) (g : G) (R : Value → G → Prop) : Prop :=
  (CallsP Tryz.prog 11 #[] g fun v g1 =>
  ∃ x : Bool, v = (.bool x) ∧ ifB (!x)
  (∀ g2 : G, Ex g1 g2 →
  R (.bool false) g2)
  (∀ J : G → Prop,
  (∀ g3 : G, ((CallsP Tryz.prog 28 #[(.slice la ll lc)] g3 fun v g4 =>
  ∃ x0a : Option Addr, ∃ x0l : Nat, ∃ x0c : Nat, ∃ x1 : Int, v = (.tuple ⟨[(.slice x0a x0l x0c), (.int .i64 x1)]⟩) ∧ (CallsP Tryz.prog 29 #[(.slice la ll lc)] g4 fun v g5 =>
  ∃ x0a_1 : Option Addr, ∃ x0l_1 : Nat, ∃ x0c_1 : Nat, ∃ x1_1 : Int, v = (.tuple ⟨[(.slice x0a_1 x0l_1 x0c_1), (.int .i64 x1_1)]⟩) ∧ (CallsP Tryz.prog 21 #[(.slice x0a x0l x0c), (.slice x0a_1 x0l_1 x0c_1)] g5 fun v g6 =>
  ∃ x_1 : Bool, v = (.bool x_1) ∧ ifB x_1
  (∀ g7 : G, Ex g6 g7 →
  R (.bool (eqI x1 x1_1)) g7)
  (∀ g8 : G, Ex g6 g8 →
  R (.bool false) g8))))) → J g3) →
  ifB (ltI (20 : Int) ((ll : Nat) : Int))
  (∀ g9 : G, Ex g1 g9 →
  R (.bool true) g9)
  ((CallsP Tryz.prog 25 #[(.slice la ll lc), (.func (.func 26) #[] #[])] g1 fun v g10 =>
  ∃ x_2 : Bool, v = (.bool x_2) ∧ ifB x_2
  (∀ g11 : G, Ex g10 g11 →
  R (.bool true) g11)
  (J g10)))))
theorem F5_eq (la : Option Addr) (ll : Nat) (lc : Nat) (g : G) (R : Value → G → Prop) : fnG cfg5 34 [.tmp 2] c5 an5 [(.slice la ll lc)] g nobody R = F5 la ll lc g R := by kernel_rfl
theorem call5 (la : Option Addr) (ll : Nat) (lc : Nat) (g : G) (R : Value → G → Prop) (hF : F5 la ll lc g R) : CallsG Tryz.prog 5 #[(.slice la ll lc)] g nobody R :=
  fn_soundG (c := cfg5) TTok FNSok mixed Tryz.func5 (show Tryz.f5.body = some c5 by kernel_rfl) (show Tryz.f5.ntmps = 34 by kernel_rfl) (show Tryz.f5.results.toList = [.tmp 2] by kernel_rfl) rfl ((F5_eq la ll lc g R).mpr hF)

/- 26 pilaster/pilasterlaw07.ScopeOrders$1 -/
noncomputable def c26 : Code := match Tryz.f26.body with
  | some c => c
  | none => .skip
noncomputable def cfg26 : Cfg := ⟨Tryz.prog, TT, FNS, [1], [(1, 1)], [], TCH, false, false⟩
def an26 : AnnG := (.seq .leaf (.seq .leaf .leaf))
def F26 (u0 : ByteArray) (u1a : Option Addr) (u1l : Nat) (u1c : Nat) (u2a : Option Addr) (u2l : Nat) (u2c : Nat) (g : G) (R : Value → G → Prop) : Prop :=
  ∀ g1 : G, Ex g g1 →
  (CallsP Tryz.prog 27 #[(.agg ⟨[(.string u0), (.slice u1a u1l u1c), (.slice u2a u2l u2c)]⟩)] g1 fun v g2 =>
  ∃ x : Bool, v = (.bool x) ∧ ∀ g3 : G, Ex g2 g3 →
  R (.bool (!x)) g3)
theorem F26_eq (u0 : ByteArray) (u1a : Option Addr) (u1l : Nat) (u1c : Nat) (u2a : Option Addr) (u2l : Nat) (u2c : Nat) (g : G) (R : Value → G → Prop) : fnG cfg26 6 [.tmp 2] c26 an26 [(.agg ⟨[(.string u0), (.slice u1a u1l u1c), (.slice u2a u2l u2c)]⟩)] g nobody R = F26 u0 u1a u1l u1c u2a u2l u2c g R := by kernel_rfl
theorem call26 (u0 : ByteArray) (u1a : Option Addr) (u1l : Nat) (u1c : Nat) (u2a : Option Addr) (u2l : Nat) (u2c : Nat) (g : G) (R : Value → G → Prop) (hF : F26 u0 u1a u1l u1c u2a u2l u2c g R) : CallsG Tryz.prog 26 #[(.agg ⟨[(.string u0), (.slice u1a u1l u1c), (.slice u2a u2l u2c)]⟩)] g nobody R :=
  fn_soundG (c := cfg26) TTok FNSok mixed Tryz.func26 (show Tryz.f26.body = some c26 by kernel_rfl) (show Tryz.f26.ntmps = 6 by kernel_rfl) (show Tryz.f26.results.toList = [.tmp 2] by kernel_rfl) rfl ((F26_eq u0 u1a u1l u1c u2a u2l u2c g R).mpr hF)

/- 29 pilaster/pilasterref07.Order -/
noncomputable def c29 : Code := match Tryz.f29.body with
  | some c => c
  | none => .skip
noncomputable def cfg29 : Cfg := ⟨Tryz.prog, TT, FNS, [], [], [], TCH, false, false⟩
def an29 : AnnG := (.seq .leaf (.seq (.seq .leaf (.cond (.seq .leaf .leaf) .leaf)) (.seq .leaf (.seq (.seq .leaf (.blk (.loop ⟨[(4, .sl), (5, .int .i64)], [], []⟩ (.seq (.seq .leaf (.cond .leaf .leaf)) (.seq (.blk (.seq (.seq .leaf (.cond (.seq .leaf .leaf) .leaf)) .leaf)) .leaf))))) (.seq (.seq .leaf (.cond (.seq .leaf .leaf) .leaf)) (.seq (.seq .leaf (.blk (.loop ⟨[(6, .int .i64)], [], []⟩ (.seq (.seq .leaf (.cond .leaf .leaf)) (.seq (.blk (.seq .leaf (.blk (.loop ⟨[(7, .int .i64)], [], []⟩ (.seq (.seq .leaf (.cond .leaf .leaf)) (.seq (.blk (.seq .leaf (.cond (.seq .leaf .leaf) .leaf))) .leaf)))))) .leaf))))) (.seq .leaf (.seq (.blk (.loop ⟨[(8, .sl)], [], []⟩ (.seq (.seq .leaf (.cond .leaf .leaf)) (.blk (.seq .leaf (.seq (.seq .leaf (.blk (.loop ⟨[(9, .str), (10, .int .i64)], [], []⟩ (.seq (.seq .leaf (.cond .leaf .leaf)) (.seq (.blk (.seq .leaf (.seq (.seq .leaf (.blk (.loop ⟨[(11, .bool), (12, .int .i64)], [], []⟩ (.seq (.seq .leaf (.cond .leaf .leaf)) (.seq (.blk .leaf) .leaf))))) (.join ⟨[(120, .bool)], [], []⟩ .leaf (.cond .leaf .leaf))))) .leaf))))) (.seq (.seq .leaf (.cond (.seq .leaf .leaf) .leaf)) .leaf))))))) (.seq .leaf .leaf)))))))))
def F29 (la : Option Addr) (ll : Nat) (lc : Nat) (g : G) (R : Value → G → Prop) : Prop :=
  ifB (ltI (16 : Int) ((ll : Nat) : Int))
  (∀ g1 : G, Ex g g1 →
  R (.tuple ⟨[(.slice none 0 0), (.int .i64 (5 : Int))]⟩) g1)
  (∃ Inv : Nat → Option Addr → Nat → Nat → Int → G → Prop, ((∃ m0 : Nat, Inv m0 none 0 0 (0 : Int) g)) ∧
  ∀ m : Nat, ∀ namesa : Option Addr, ∀ namesl : Nat, ∀ namesc : Nat, ∀ i : Int, ∀ g2 : G, Le g g2 → Inv m namesa namesl namesc i g2 →
  ifB (ltI i ((ll : Nat) : Int))
  ((0 ≤ i ∧ i < ((ll : Nat) : Int)) ∧ derefP la fun ad => ∃ x0 : ByteArray, ∃ x1a : Option Addr, ∃ x1l : Nat, ∃ x1c : Nat, ∃ x2a : Option Addr, ∃ x2l : Nat, ∃ x2c : Nat, g2.w.cell? (Addr.add ad (Int.toNat i * 3)) = some (.string x0) ∧ g2.w.cell? (Addr.add (Addr.add ad (Int.toNat i * 3)) 1) = some (.slice x1a x1l x1c) ∧ g2.w.cell? (Addr.add (Addr.add ad (Int.toNat i * 3)) 2) = some (.slice x2a x2l x2c) ∧ (CallsP Tryz.prog 39 #[(.agg ⟨[(.string x0), (.slice x1a x1l x1c), (.slice x2a x2l x2c)]⟩)] g2 fun v g3 =>
  ∃ x : Bool, v = (.bool x) ∧ ifB (!x)
  (∀ g4 : G, Ex g3 g4 →
  R (.tuple ⟨[(.slice none 0 0), (.int .i64 (1 : Int))]⟩) g4)
  ((0 ≤ i ∧ i < ((ll : Nat) : Int)) ∧ derefP la fun ad_1 => ∃ x_1 : ByteArray, g3.w.cell? (Addr.add ad_1 (Int.toNat i * 3)) = some (.string x_1) ∧ ∀ g5 : G, NewL g3 g5 9 [(.string x_1)] →
  ∃ namesa_1 : Option Addr, ∃ namesl_1 : Nat, ∃ namesc_1 : Nat, ∃ wo1 : World, Sem.run Tryz.prog (Builtin.append_ #[22, 22] 22 #[(.slice namesa namesl namesc), (.slice (some ⟨g3.w.heap.size, 0, none⟩) 1 1)]) g5.w = .ok (.slice namesa_1 namesl_1 namesc_1) wo1 ∧ ∃ g6 : G, g6.w = wo1 ∧ Stp g.w.heap.size nobody g5 g6 ∧ InI64 (i + (1 : Int)) ∧ (∃ m_1 : Nat, m_1 < m ∧ Inv m_1 namesa_1 namesl_1 namesc_1 (i + (1 : Int)) g6))))
  ((CallsP Tryz.prog 67 #[(.slice namesa namesl namesc)] g2 fun v g7 =>
  ∃ x_2 : Bool, v = (.bool x_2) ∧ ifB x_2
  (∀ g8 : G, Ex g7 g8 →
  R (.tuple ⟨[(.slice none 0 0), (.int .i64 (9 : Int))]⟩) g8)
  (∃ Inv_1 : Nat → Int → G → Prop, ((∃ m0 : Nat, Inv_1 m0 (0 : Int) g7)) ∧
  ∀ m_2 : Nat, ∀ i_1 : Int, ∀ g9 : G, Le g7 g9 → Inv_1 m_2 i_1 g9 →
  ifB (ltI i_1 ((ll : Nat) : Int))
  (∃ Inv_2 : Nat → Int → G → Prop, ((∃ m0 : Nat, Inv_2 m0 (0 : Int) g9)) ∧
  ∀ m_4 : Nat, ∀ k : Int, ∀ g10 : G, Le g9 g10 → Inv_2 m_4 k g10 →
  (0 ≤ i_1 ∧ i_1 < ((ll : Nat) : Int)) ∧ derefP la fun ad_2 => ∃ xa : Option Addr, ∃ xl : Nat, ∃ xc : Nat, g10.w.cell? (Addr.add (Addr.add ad_2 (Int.toNat i_1 * 3)) 1) = some (.slice xa xl xc) ∧ ifB (ltI k ((xl : Nat) : Int))
  ((0 ≤ i_1 ∧ i_1 < ((ll : Nat) : Int)) ∧ derefP la fun ad_3 => ∃ xa_1 : Option Addr, ∃ xl_1 : Nat, ∃ xc_1 : Nat, g10.w.cell? (Addr.add (Addr.add ad_3 (Int.toNat i_1 * 3)) 1) = some (.slice xa_1 xl_1 xc_1) ∧ (0 ≤ k ∧ k < ((xl_1 : Nat) : Int)) ∧ derefP xa_1 fun ad_4 => ∃ x_3 : ByteArray, g10.w.cell? (Addr.add ad_4 (Int.toNat k * 1)) = some (.string x_3) ∧ (CallsP Tryz.prog 79 #[(.slice namesa namesl namesc), (.string x_3)] g10 fun v g11 =>
  ∃ x_4 : Bool, v = (.bool x_4) ∧ ifB (!x_4)
  (∀ g12 : G, Ex g11 g12 →
  R (.tuple ⟨[(.slice none 0 0), (.int .i64 (17 : Int))]⟩) g12)
  (InI64 (k + (1 : Int)) ∧ (∃ m_5 : Nat, m_5 < m_4 ∧ Inv_2 m_5 (k + (1 : Int)) g11))))
  (InI64 (i_1 + (1 : Int)) ∧ (∃ m_3 : Nat, m_3 < m_2 ∧ Inv_1 m_3 (i_1 + (1 : Int)) g10)))
  (∃ Inv_3 : Nat → Option Addr → Nat → Nat → G → Prop, ((∃ m0 : Nat, Inv_3 m0 none 0 0 g9)) ∧
  ∀ m_6 : Nat, ∀ outa : Option Addr, ∀ outl : Nat, ∀ outc : Nat, ∀ g13 : G, Le g9 g13 → Inv_3 m_6 outa outl outc g13 →
  ifB (ltI ((outl : Nat) : Int) ((ll : Nat) : Int))
  (∃ Inv_4 : Nat → ByteArray → Int → G → Prop, ((∃ m0 : Nat, Inv_4 m0 (bs []) (0 : Int) g13)) ∧
  ∀ m_8 : Nat, ∀ best : ByteArray, ∀ i_2 : Int, ∀ g14 : G, Le g13 g14 → Inv_4 m_8 best i_2 g14 →
  ifB (ltI i_2 ((ll : Nat) : Int))
  ((0 ≤ i_2 ∧ i_2 < ((ll : Nat) : Int)) ∧ derefP la fun ad_5 => ∃ x_5 : ByteArray, g14.w.cell? (Addr.add ad_5 (Int.toNat i_2 * 3)) = some (.string x_5) ∧ (CallsP Tryz.prog 79 #[(.slice outa outl outc), (.string x_5)] g14 fun v g15 =>
  ∃ x_6 : Bool, v = (.bool x_6) ∧ ∃ Inv_5 : Nat → Bool → Int → G → Prop, ((∃ m0 : Nat, Inv_5 m0 (!x_6) (0 : Int) g15)) ∧
  ∀ m_10 : Nat, ∀ ready : Bool, ∀ k_1 : Int, ∀ g16 : G, Le g15 g16 → Inv_5 m_10 ready k_1 g16 →
  (0 ≤ i_2 ∧ i_2 < ((ll : Nat) : Int)) ∧ derefP la fun ad_6 => ∃ xa_2 : Option Addr, ∃ xl_2 : Nat, ∃ xc_2 : Nat, g16.w.cell? (Addr.add (Addr.add ad_6 (Int.toNat i_2 * 3)) 1) = some (.slice xa_2 xl_2 xc_2) ∧ ifB (ltI k_1 ((xl_2 : Nat) : Int))
  (ifB ready
  ((0 ≤ i_2 ∧ i_2 < ((ll : Nat) : Int)) ∧ derefP la fun ad_7 => ∃ xa_3 : Option Addr, ∃ xl_3 : Nat, ∃ xc_3 : Nat, g16.w.cell? (Addr.add (Addr.add ad_7 (Int.toNat i_2 * 3)) 1) = some (.slice xa_3 xl_3 xc_3) ∧ (0 ≤ k_1 ∧ k_1 < ((xl_3 : Nat) : Int)) ∧ derefP xa_3 fun ad_8 => ∃ x_7 : ByteArray, g16.w.cell? (Addr.add ad_8 (Int.toNat k_1 * 1)) = some (.string x_7) ∧ (CallsP Tryz.prog 79 #[(.slice outa outl outc), (.string x_7)] g16 fun v g17 =>
  ∃ x_8 : Bool, v = (.bool x_8) ∧ InI64 (k_1 + (1 : Int)) ∧ (∃ m_11 : Nat, m_11 < m_10 ∧ Inv_5 m_11 x_8 (k_1 + (1 : Int)) g17)))
  (InI64 (k_1 + (1 : Int)) ∧ (∃ m_11 : Nat, m_11 < m_10 ∧ Inv_5 m_11 false (k_1 + (1 : Int)) g16)))
  (∀ J : Bool → G → Prop,
  (∀ v_1 : Bool, ∀ g18 : G, (ifB v_1
  ((0 ≤ i_2 ∧ i_2 < ((ll : Nat) : Int)) ∧ derefP la fun ad_9 => ∃ best_1 : ByteArray, g18.w.cell? (Addr.add ad_9 (Int.toNat i_2 * 3)) = some (.string best_1) ∧ InI64 (i_2 + (1 : Int)) ∧ (∃ m_9 : Nat, m_9 < m_8 ∧ Inv_4 m_9 best_1 (i_2 + (1 : Int)) g18))
  (InI64 (i_2 + (1 : Int)) ∧ (∃ m_9 : Nat, m_9 < m_8 ∧ Inv_4 m_9 best (i_2 + (1 : Int)) g18))) → J v_1 g18) →
  ifB ready
  (ifB (strEq best (bs []))
  (J true g16)
  ((0 ≤ i_2 ∧ i_2 < ((ll : Nat) : Int)) ∧ derefP la fun ad_10 => ∃ x_9 : ByteArray, g16.w.cell? (Addr.add ad_10 (Int.toNat i_2 * 3)) = some (.string x_9) ∧ J (strLt x_9 best) g16))
  (J false g16))))
  (ifB (strEq best (bs []))
  (∀ g19 : G, Ex g14 g19 →
  R (.tuple ⟨[(.slice none 0 0), (.int .i64 (21 : Int))]⟩) g19)
  (∀ g20 : G, NewL g14 g20 9 [(.string best)] →
  ∃ outa_1 : Option Addr, ∃ outl_1 : Nat, ∃ outc_1 : Nat, ∃ wo2 : World, Sem.run Tryz.prog (Builtin.append_ #[22, 22] 22 #[(.slice outa outl outc), (.slice (some ⟨g14.w.heap.size, 0, none⟩) 1 1)]) g20.w = .ok (.slice outa_1 outl_1 outc_1) wo2 ∧ ∃ g21 : G, g21.w = wo2 ∧ Stp g.w.heap.size nobody g20 g21 ∧ (∃ m_7 : Nat, m_7 < m_6 ∧ Inv_3 m_7 outa_1 outl_1 outc_1 g21))))
  (∀ g22 : G, Ex g13 g22 →
  R (.tuple ⟨[(.slice outa outl outc), (.int .i64 (0 : Int))]⟩) g22))))))
theorem F29_eq (la : Option Addr) (ll : Nat) (lc : Nat) (g : G) (R : Value → G → Prop) : fnG cfg29 133 [.tmp 2, .tmp 3] c29 an29 [(.slice la ll lc)] g nobody R = F29 la ll lc g R := by kernel_rfl
theorem call29 (la : Option Addr) (ll : Nat) (lc : Nat) (g : G) (R : Value → G → Prop) (hF : F29 la ll lc g R) : CallsG Tryz.prog 29 #[(.slice la ll lc)] g nobody R :=
  fn_soundG (c := cfg29) TTok FNSok mixed Tryz.func29 (show Tryz.f29.body = some c29 by kernel_rfl) (show Tryz.f29.ntmps = 133 by kernel_rfl) (show Tryz.f29.results.toList = [.tmp 2, .tmp 3] by kernel_rfl) rfl ((F29_eq la ll lc g R).mpr hF)
end Go.Proofs.YtkocjbgdmocmlaaGreatDoor.PL5
