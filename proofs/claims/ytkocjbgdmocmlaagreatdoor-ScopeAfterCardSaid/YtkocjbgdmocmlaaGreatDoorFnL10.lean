/- Printed by a program (wip/tools/gen2.py): for each function its condition as a plain formula, and that the formula gives the call. -/
import Derived.Test.YtkocjbgdmocmlaaGreatDoorProg
import Derived.Test.YtkocjbgdmocmlaaGreatDoorVda
namespace Go.Proofs.YtkocjbgdmocmlaaGreatDoor.PL10
open Go Go.Vc Go.RowKit
set_option maxRecDepth 100000
set_option linter.unusedVariables false
def TT : List TI := [
  ⟨0, .tuple #[], 1, 0, some (.tuple ⟨[]⟩), (.tup [])⟩,
  ⟨3, .int .i64, 1, 8, some (.int .i64 (0 : Int)), (.e (.one (.int .i64)))⟩,
  ⟨4, .bool, 1, 1, some (.bool false), (.e (.one (.bool)))⟩,
  ⟨9, .string, 1, 16, some (.string (bs [])), (.e (.one (.str)))⟩,
  ⟨22, .slice 9, 1, 24, some (.slice none 0 0), (.e (.one (.sl)))⟩,
  ⟨28, .int .i64, 1, 8, some (.int .i64 (0 : Int)), (.e (.one (.int .i64)))⟩,
  ⟨29, .tuple #[22, 28], 1, 0, some (.tuple ⟨[(.slice none 0 0), (.int .i64 (0 : Int))]⟩), (.tup [(.one (.sl)), (.one (.int .i64))])⟩,
  ⟨43, .slice 46, 1, 24, some (.slice none 0 0), (.e (.one (.sl)))⟩,
  ⟨46, .struct #[{ name := "Name", type := 9, offset := 0, embedded := false, tag := "", pkgPath := "", byteOffset := 0 }, { name := "Imports", type := 22, offset := 1, embedded := false, tag := "", pkgPath := "", byteOffset := 16 }, { name := "Decls", type := 23, offset := 2, embedded := false, tag := "", pkgPath := "", byteOffset := 40 }], 3, 64, some (.agg ⟨[(.string (bs [])), (.slice none 0 0), (.slice none 0 0)]⟩), (.e (.agg [(.str), (.sl), (.sl)]))⟩,
  ⟨47, .func #[46] #[4] false, 1, 8, some .nilFunc, (.e (.one (.fn)))⟩,
  ⟨60, .int .u16, 1, 2, some (.int .u16 (0 : Int)), (.e (.one (.int .u16)))⟩,
  ⟨64, .func #[9] #[3] false, 1, 8, some .nilFunc, (.e (.one (.fn)))⟩,
  ⟨94, .slice 43, 1, 24, some (.slice none 0 0), (.e (.one (.sl)))⟩]
theorem TTok : TOk Tryz.prog TT := tok_of (by kernel_rfl)
def FNS : List Nat := [11, 21, 25, 27, 28, 33, 42, 43, 45, 48, 49, 70, 91]
theorem FNSok : FOk Tryz.prog FNS := fok_of (by kernel_rfl)
theorem mixed : Tryz.prog.follows .mixedOrders = true := by kernel_rfl
def TCH : List Nat := [12, 16, 20, 22, 31, 43, 49]

/- 10 pilaster/pilasterlaw07.ScopeAfter -/
noncomputable def c10 : Code := match Tryz.f10.body with
  | some c => c
  | none => .skip
noncomputable def cfg10 : Cfg := ⟨Tryz.prog, TT, FNS, [], [], [5, 10], TCH, false, false⟩
def an10 : AnnG := (.seq .leaf (.seq (.seq .leaf (.cond (.seq .leaf .leaf) .leaf)) (.join ⟨[], [], []⟩ (.seq .leaf (.cond (.seq .leaf .leaf) .leaf)) (.seq .leaf (.seq (.tree 16 (.quiet 0 (.quiet 1 (.quiet 2 (.quiet 3 (.quiet 4 (.quiet 5 (.quiet 6 (.quiet 7 (.quiet 8 (.quiet 9 (.quiet 10 (.quiet 11 (.quiet 12 (.quiet 13 (.quiet 14 (.quiet 15 .fin))))))))))))))))) (.seq .leaf (.seq .leaf (.join ⟨[], [], []⟩ (.seq .leaf (.cond (.seq .leaf .leaf) .leaf)) (.seq .leaf (.seq (.seq .leaf (.blk (.seq .leaf (.cond (.seq .leaf .leaf) (.seq .leaf (.cond (.seq .leaf (.blk (.loop ⟨[], [], []⟩ (.blk (.seq .leaf (.seq .leaf (.seq .leaf (.cond (.seq .leaf .leaf) .leaf)))))))) .leaf)))))) (.seq .leaf .leaf)))))))))))
def F10 (la : Option Addr) (ll : Nat) (lc : Nat) (seed : Int) (g : G) (R : Value → G → Prop) : Prop :=
  (CallsP Tryz.prog 11 #[] g fun v g1 =>
  ∃ x : Bool, v = (.bool x) ∧ ifB (!x)
  (∀ g2 : G, Ex g1 g2 →
  R (.bool false) g2)
  (∀ J : G → Prop,
  (∀ g3 : G, ((CallsP Tryz.prog 28 #[(.slice la ll lc)] g3 fun v g4 =>
  ∃ x0a : Option Addr, ∃ x0l : Nat, ∃ x0c : Nat, ∃ x1 : Int, v = (.tuple ⟨[(.slice x0a x0l x0c), (.int .i64 x1)]⟩) ∧ ∀ g5 : G, NewD g4 g5 22 [(.slice none 0 0)] →
  stOk g5.w ⟨g4.w.heap.size, 0, none⟩ 1 ∧ ¬ g5.X (Addr.block ⟨g4.w.heap.size, 0, none⟩) ∧ mutAt g5 ⟨g4.w.heap.size, 0, none⟩ 1 ∧ ((Addr.block ⟨g4.w.heap.size, 0, none⟩) < g.w.heap.size → nobody (Addr.block ⟨g4.w.heap.size, 0, none⟩)) ∧ ∀ g6 : G, StG true g5 ⟨g4.w.heap.size, 0, none⟩ [(.slice x0a x0l x0c)] g6 →
  ∀ g7 : G, Ex g6 g7 →
  InI64 seed ∧ InI64 (((ll : Nat) : Int) + (1 : Int)) ∧ (((ll : Nat) : Int) + (1 : Int)) ≠ 0 ∧ (0 ≤ (Int.tmod seed (((ll : Nat) : Int) + (1 : Int))) ∧ (Int.tmod seed (((ll : Nat) : Int) + (1 : Int))) ≤ ((ll : Nat) : Int)) ∧ InI64 seed ∧ InI64 (((ll : Nat) : Int) + (1 : Int)) ∧ (((ll : Nat) : Int) + (1 : Int)) ≠ 0 ∧ (0 ≤ (Int.tmod seed (((ll : Nat) : Int) + (1 : Int))) ∧ (Int.tmod seed (((ll : Nat) : Int) + (1 : Int))) ≤ ((lc : Nat) : Int)) ∧ ∀ g8 : G, NewL g7 g8 43 [(.slice (slAddr la lc (Int.toNat (Int.tmod seed (((ll : Nat) : Int) + (1 : Int)))) 3) (ll - (Int.toNat (Int.tmod seed (((ll : Nat) : Int) + (1 : Int))))) (lc - (Int.toNat (Int.tmod seed (((ll : Nat) : Int) + (1 : Int)))))), (.slice (slAddr la lc 0 3) ((Int.toNat (Int.tmod seed (((ll : Nat) : Int) + (1 : Int)))) - 0) (lc - 0))] →
  (CallsP Tryz.prog 42 #[(.slice (some ⟨g7.w.heap.size, 0, none⟩) 2 2)] g8 fun v g9 =>
  ∃ turneda : Option Addr, ∃ turnedl : Nat, ∃ turnedc : Nat, v = (.slice turneda turnedl turnedc) ∧ ∃ M2 : Nat → Prop, (∀ b, b < g.w.heap.size → M2 b → nobody b) ∧ (CallsG Tryz.prog 43 #[(.slice turneda turnedl turnedc)] g9 M2 fun v g10 =>
  v = (.tuple ⟨[]⟩) ∧ (CallsP Tryz.prog 28 #[(.slice turneda turnedl turnedc)] g10 fun v g11 =>
  ∃ x0a_1 : Option Addr, ∃ x0l_1 : Nat, ∃ x0c_1 : Nat, ∃ x1_1 : Int, v = (.tuple ⟨[(.slice x0a_1 x0l_1 x0c_1), (.int .i64 x1_1)]⟩) ∧ ∀ J_1 : G → Prop,
  (∀ g12 : G, (∀ g13 : G, NewD g12 g13 64 [.nilFunc] →
  stOk g13.w ⟨g12.w.heap.size, 0, none⟩ 1 ∧ ¬ g13.X (Addr.block ⟨g12.w.heap.size, 0, none⟩) ∧ mutAt g13 ⟨g12.w.heap.size, 0, none⟩ 1 ∧ ((Addr.block ⟨g12.w.heap.size, 0, none⟩) < g.w.heap.size → nobody (Addr.block ⟨g12.w.heap.size, 0, none⟩)) ∧ ∀ g14 : G, StG true g13 ⟨g12.w.heap.size, 0, none⟩ [(.func (.func 44) #[] ⟨[(.pointer (some ⟨g4.w.heap.size, 0, none⟩))]⟩)] g14 →
  ifB (eqI x1 (0 : Int))
  (∃ oa : Option Addr, ∃ ol : Nat, ∃ oc : Nat, g14.w.cell? ⟨g4.w.heap.size, 0, none⟩ = some (.slice oa ol oc) ∧ ifB (eqI ((ol : Nat) : Int) ((ll : Nat) : Int))
  ((CallsP Tryz.prog 25 #[(.slice la ll lc), (.func (.func 46) #[] ⟨[(.pointer (some ⟨g12.w.heap.size, 0, none⟩))]⟩)] g14 fun v g15 =>
  ∃ x_1 : Bool, v = (.bool x_1) ∧ ∀ g16 : G, Ex g15 g16 →
  R (.bool (!x_1)) g16))
  (∀ g17 : G, Ex g14 g17 →
  R (.bool false) g17))
  (ifB (eqI x1 (21 : Int))
  ((CallsP Tryz.prog 48 #[(.slice la ll lc)] g14 fun v g18 =>
  ∃ xa : Option Addr, ∃ xl : Nat, ∃ xc : Nat, v = (.slice xa xl xc) ∧ ∀ g19 : G, NewD g18 g19 43 [(.slice none 0 0)] →
  stOk g19.w ⟨g18.w.heap.size, 0, none⟩ 1 ∧ ¬ g19.X (Addr.block ⟨g18.w.heap.size, 0, none⟩) ∧ mutAt g19 ⟨g18.w.heap.size, 0, none⟩ 1 ∧ ((Addr.block ⟨g18.w.heap.size, 0, none⟩) < g.w.heap.size → nobody (Addr.block ⟨g18.w.heap.size, 0, none⟩)) ∧ ∀ g20 : G, StG false g19 ⟨g18.w.heap.size, 0, none⟩ [(.slice xa xl xc)] g20 →
  ∃ Inv : Nat → G → Prop, ((∃ m0 : Nat, Inv m0 g20)) ∧
  ∀ m : Nat, ∀ g21 : G, Le g20 g21 → Inv m g21 →
  ∃ lefta : Option Addr, ∃ leftl : Nat, ∃ leftc : Nat, g21.w.cell? ⟨g18.w.heap.size, 0, none⟩ = some (.slice lefta leftl leftc) ∧ ∃ lefta_1 : Option Addr, ∃ leftl_1 : Nat, ∃ leftc_1 : Nat, g21.w.cell? ⟨g18.w.heap.size, 0, none⟩ = some (.slice lefta_1 leftl_1 leftc_1) ∧ ∃ M1 : Nat → Prop, (∀ b, b < g.w.heap.size → M1 b → nobody b) ∧ (CallsG Tryz.prog 49 #[(.slice lefta_1 leftl_1 leftc_1), (.func (.func 50) #[] ⟨[(.pointer (some ⟨g18.w.heap.size, 0, none⟩))]⟩)] g21 M1 fun v g22 =>
  ∃ xa_1 : Option Addr, ∃ xl_1 : Nat, ∃ xc_1 : Nat, v = (.slice xa_1 xl_1 xc_1) ∧ stOk g22.w ⟨g18.w.heap.size, 0, none⟩ 1 ∧ ¬ g22.X (Addr.block ⟨g18.w.heap.size, 0, none⟩) ∧ mutAt g22 ⟨g18.w.heap.size, 0, none⟩ 1 ∧ ((Addr.block ⟨g18.w.heap.size, 0, none⟩) < g.w.heap.size → nobody (Addr.block ⟨g18.w.heap.size, 0, none⟩)) ∧ ∀ g23 : G, StG false g22 ⟨g18.w.heap.size, 0, none⟩ [(.slice xa_1 xl_1 xc_1)] g23 →
  ∃ lefta_2 : Option Addr, ∃ leftl_2 : Nat, ∃ leftc_2 : Nat, g23.w.cell? ⟨g18.w.heap.size, 0, none⟩ = some (.slice lefta_2 leftl_2 leftc_2) ∧ ifB (eqI ((leftl_2 : Nat) : Int) ((leftl : Nat) : Int))
  (ifB (ltI (0 : Int) ((leftl : Nat) : Int))
  (∃ oa_1 : Option Addr, ∃ ol_1 : Nat, ∃ oc_1 : Nat, g23.w.cell? ⟨g4.w.heap.size, 0, none⟩ = some (.slice oa_1 ol_1 oc_1) ∧ ∀ g24 : G, Ex g23 g24 →
  R (.bool (eqI ((ol_1 : Nat) : Int) (0 : Int))) g24)
  (∀ g25 : G, Ex g23 g25 →
  R (.bool false) g25))
  ((∃ m_1 : Nat, m_1 < m ∧ Inv m_1 g23)))))
  (∃ oa_2 : Option Addr, ∃ ol_2 : Nat, ∃ oc_2 : Nat, g14.w.cell? ⟨g4.w.heap.size, 0, none⟩ = some (.slice oa_2 ol_2 oc_2) ∧ ∀ g26 : G, Ex g14 g26 →
  R (.bool (eqI ((ol_2 : Nat) : Int) (0 : Int))) g26))) → J_1 g12) →
  ifB (!eqI x1 x1_1)
  (∀ g27 : G, Ex g11 g27 →
  R (.bool false) g27)
  (∃ oa_3 : Option Addr, ∃ ol_3 : Nat, ∃ oc_3 : Nat, g11.w.cell? ⟨g4.w.heap.size, 0, none⟩ = some (.slice oa_3 ol_3 oc_3) ∧ (CallsP Tryz.prog 21 #[(.slice oa_3 ol_3 oc_3), (.slice x0a_1 x0l_1 x0c_1)] g11 fun v g28 =>
  ∃ x_2 : Bool, v = (.bool x_2) ∧ ifB (!x_2)
  (∀ g29 : G, Ex g28 g29 →
  R (.bool false) g29)
  (J_1 g28)))))))) → J g3) →
  ifB (ltI (16 : Int) ((ll : Nat) : Int))
  (∀ g30 : G, Ex g1 g30 →
  R (.bool true) g30)
  ((CallsP Tryz.prog 25 #[(.slice la ll lc), (.func (.func 41) #[] #[])] g1 fun v g31 =>
  ∃ x_3 : Bool, v = (.bool x_3) ∧ ifB x_3
  (∀ g32 : G, Ex g31 g32 →
  R (.bool true) g32)
  (J g31)))))
theorem F10_eq (la : Option Addr) (ll : Nat) (lc : Nat) (seed : Int) (g : G) (R : Value → G → Prop) : fnG cfg10 99 [.tmp 4] c10 an10 [(.slice la ll lc), (.int .u16 seed)] g nobody R = F10 la ll lc seed g R := by kernel_rfl
theorem call10 (la : Option Addr) (ll : Nat) (lc : Nat) (seed : Int) (g : G) (R : Value → G → Prop) (hF : F10 la ll lc seed g R) : CallsG Tryz.prog 10 #[(.slice la ll lc), (.int .u16 seed)] g nobody R :=
  fn_soundG (c := cfg10) TTok FNSok mixed Tryz.func10 (show Tryz.f10.body = some c10 by kernel_rfl) (show Tryz.f10.ntmps = 99 by kernel_rfl) (show Tryz.f10.results.toList = [.tmp 4] by kernel_rfl) rfl ((F10_eq la ll lc seed g R).mpr hF)

/- 41 pilaster/pilasterlaw07.ScopeAfter$1 -/
noncomputable def c41 : Code := match Tryz.f41.body with
  | some c => c
  | none => .skip
noncomputable def cfg41 : Cfg := ⟨Tryz.prog, TT, FNS, [1], [(1, 1)], [], TCH, false, false⟩
def an41 : AnnG := (.seq .leaf (.seq .leaf .leaf))
def F41 (u0 : ByteArray) (u1a : Option Addr) (u1l : Nat) (u1c : Nat) (u2a : Option Addr) (u2l : Nat) (u2c : Nat) (g : G) (R : Value → G → Prop) : Prop :=
  ∀ g1 : G, Ex g g1 →
  (CallsP Tryz.prog 27 #[(.agg ⟨[(.string u0), (.slice u1a u1l u1c), (.slice u2a u2l u2c)]⟩)] g1 fun v g2 =>
  ∃ x : Bool, v = (.bool x) ∧ ∀ g3 : G, Ex g2 g3 →
  R (.bool (!x)) g3)
theorem F41_eq (u0 : ByteArray) (u1a : Option Addr) (u1l : Nat) (u1c : Nat) (u2a : Option Addr) (u2l : Nat) (u2c : Nat) (g : G) (R : Value → G → Prop) : fnG cfg41 6 [.tmp 2] c41 an41 [(.agg ⟨[(.string u0), (.slice u1a u1l u1c), (.slice u2a u2l u2c)]⟩)] g nobody R = F41 u0 u1a u1l u1c u2a u2l u2c g R := by kernel_rfl
theorem call41 (u0 : ByteArray) (u1a : Option Addr) (u1l : Nat) (u1c : Nat) (u2a : Option Addr) (u2l : Nat) (u2c : Nat) (g : G) (R : Value → G → Prop) (hF : F41 u0 u1a u1l u1c u2a u2l u2c g R) : CallsG Tryz.prog 41 #[(.agg ⟨[(.string u0), (.slice u1a u1l u1c), (.slice u2a u2l u2c)]⟩)] g nobody R :=
  fn_soundG (c := cfg41) TTok FNSok mixed Tryz.func41 (show Tryz.f41.body = some c41 by kernel_rfl) (show Tryz.f41.ntmps = 6 by kernel_rfl) (show Tryz.f41.results.toList = [.tmp 2] by kernel_rfl) rfl ((F41_eq u0 u1a u1l u1c u2a u2l u2c g R).mpr hF)

/- 42 slices.Concat[[]pilaster/api.Unit,pilaster/api.Unit] -/
noncomputable def c42 : Code := match Tryz.f42.body with
  | some c => c
  | none => .skip
noncomputable def cfg42 : Cfg := ⟨Tryz.prog, TT, FNS, [], [], [], TCH, false, false⟩
def an42 : AnnG := (.seq .leaf (.seq .leaf (.seq (.seq .leaf (.blk (.loop ⟨[(3, .int .i64), (11, .int .i64)], [], []⟩ (.seq .leaf (.seq (.cond .leaf .leaf) (.seq (.blk (.seq .leaf (.seq .leaf (.seq .leaf (.cond .leaf .leaf))))) .leaf)))))) (.seq .leaf (.seq (.seq .leaf (.blk (.loop ⟨[(6, .sl), (27, .int .i64)], [], []⟩ (.seq .leaf (.seq (.cond .leaf .leaf) (.seq (.blk (.seq .leaf .leaf)) .leaf)))))) (.seq .leaf .leaf))))))
def F42 (slicesa : Option Addr) (slicesl : Nat) (slicesc : Nat) (g : G) (R : Value → G → Prop) : Prop :=
  ∃ Inv : Nat → Int → Int → G → Prop, ((∃ m0 : Nat, Inv m0 (0 : Int) (0 : Int) g)) ∧
  ∀ m : Nat, ∀ size : Int, ∀ v_1 : Int, ∀ g1 : G, Le g g1 → Inv m size v_1 g1 →
  ifB (ltI v_1 ((slicesl : Nat) : Int))
  ((0 ≤ v_1 ∧ v_1 < ((slicesl : Nat) : Int)) ∧ derefP slicesa fun ad => ∃ sa : Option Addr, ∃ sl : Nat, ∃ sc : Nat, g1.w.cell? (Addr.add ad (Int.toNat v_1 * 1)) = some (.slice sa sl sc) ∧ InI64 (size + ((sl : Nat) : Int)) ∧ ifB (ltI (size + ((sl : Nat) : Int)) (0 : Int))
  (False)
  (InI64 (v_1 + (1 : Int)) ∧ (∃ m_1 : Nat, m_1 < m ∧ Inv m_1 (size + ((sl : Nat) : Int)) (v_1 + (1 : Int)) g1)))
  ((CallsP Tryz.prog 91 #[(.slice none 0 0), (.int .i64 size)] g1 fun v g2 =>
  ∃ newslicea : Option Addr, ∃ newslicel : Nat, ∃ newslicec : Nat, v = (.slice newslicea newslicel newslicec) ∧ ∃ Inv_1 : Nat → Option Addr → Nat → Nat → Int → G → Prop, ((∃ m0 : Nat, Inv_1 m0 newslicea newslicel newslicec (0 : Int) g2)) ∧
  ∀ m_2 : Nat, ∀ newslicea_1 : Option Addr, ∀ newslicel_1 : Nat, ∀ newslicec_1 : Nat, ∀ v_2 : Int, ∀ g3 : G, Le g2 g3 → Inv_1 m_2 newslicea_1 newslicel_1 newslicec_1 v_2 g3 →
  ifB (ltI v_2 ((slicesl : Nat) : Int))
  ((0 ≤ v_2 ∧ v_2 < ((slicesl : Nat) : Int)) ∧ derefP slicesa fun ad_1 => ∃ sa_1 : Option Addr, ∃ sl_1 : Nat, ∃ sc_1 : Nat, g3.w.cell? (Addr.add ad_1 (Int.toNat v_2 * 1)) = some (.slice sa_1 sl_1 sc_1) ∧ ∃ newslicea_2 : Option Addr, ∃ newslicel_2 : Nat, ∃ newslicec_2 : Nat, ∃ wo1 : World, Sem.run Tryz.prog (Builtin.append_ #[43, 43] 43 #[(.slice newslicea_1 newslicel_1 newslicec_1), (.slice sa_1 sl_1 sc_1)]) g3.w = .ok (.slice newslicea_2 newslicel_2 newslicec_2) wo1 ∧ ∃ g4 : G, g4.w = wo1 ∧ Stp g.w.heap.size nobody g3 g4 ∧ InI64 (v_2 + (1 : Int)) ∧ (∃ m_3 : Nat, m_3 < m_2 ∧ Inv_1 m_3 newslicea_2 newslicel_2 newslicec_2 (v_2 + (1 : Int)) g4))
  (∀ g5 : G, Ex g3 g5 →
  R (.slice newslicea_1 newslicel_1 newslicec_1) g5)))
theorem F42_eq (slicesa : Option Addr) (slicesl : Nat) (slicesc : Nat) (g : G) (R : Value → G → Prop) : fnG cfg42 36 [.tmp 2] c42 an42 [(.slice slicesa slicesl slicesc)] g nobody R = F42 slicesa slicesl slicesc g R := by kernel_rfl
theorem call42 (slicesa : Option Addr) (slicesl : Nat) (slicesc : Nat) (g : G) (R : Value → G → Prop) (hF : F42 slicesa slicesl slicesc g R) : CallsG Tryz.prog 42 #[(.slice slicesa slicesl slicesc)] g nobody R :=
  fn_soundG (c := cfg42) TTok FNSok mixed Tryz.func42 (show Tryz.f42.body = some c42 by kernel_rfl) (show Tryz.f42.ntmps = 36 by kernel_rfl) (show Tryz.f42.results.toList = [.tmp 2] by kernel_rfl) rfl ((F42_eq slicesa slicesl slicesc g R).mpr hF)

/- 43 slices.Reverse[[]pilaster/api.Unit,pilaster/api.Unit] -/
/- 44 pilaster/pilasterlaw07.ScopeAfter$2 -/
noncomputable def c44 : Code := match Tryz.f44.body with
  | some c => c
  | none => .skip
noncomputable def cfg44 : Cfg := ⟨Tryz.prog, TT, FNS, [], [], [], TCH, false, false⟩
def an44 : AnnG := (.seq .leaf (.seq .leaf .leaf))
def F44 (name : ByteArray) (c0 : Option Addr) (g : G) (R : Value → G → Prop) : Prop :=
  derefP c0 fun ad => ∃ xa : Option Addr, ∃ xl : Nat, ∃ xc : Nat, g.w.cell? ad = some (.slice xa xl xc) ∧ (CallsP Tryz.prog 45 #[(.slice xa xl xc), (.string name)] g fun v g1 =>
  ∃ x : Int, v = (.int .i64 x) ∧ ∀ g2 : G, Ex g1 g2 →
  R (.int .i64 x) g2)
theorem F44_eq (name : ByteArray) (c0 : Option Addr) (g : G) (R : Value → G → Prop) : fnG cfg44 7 [.tmp 3] c44 an44 [(.string name), (.pointer c0)] g nobody R = F44 name c0 g R := by kernel_rfl
theorem call44 (name : ByteArray) (c0 : Option Addr) (g : G) (R : Value → G → Prop) (hF : F44 name c0 g R) : CallsG Tryz.prog 44 #[(.string name), (.pointer c0)] g nobody R :=
  fn_soundG (c := cfg44) TTok FNSok mixed Tryz.func44 (show Tryz.f44.body = some c44 by kernel_rfl) (show Tryz.f44.ntmps = 7 by kernel_rfl) (show Tryz.f44.results.toList = [.tmp 3] by kernel_rfl) rfl ((F44_eq name c0 g R).mpr hF)

/- 45 slices.Index[[]string,string] -/
noncomputable def c45 : Code := match Tryz.f45.body with
  | some c => c
  | none => .skip
noncomputable def cfg45 : Cfg := ⟨Tryz.prog, TT, FNS, [], [], [], TCH, false, false⟩
def an45 : AnnG := (.seq .leaf (.seq (.seq .leaf (.blk (.loop ⟨[(8, .int .i64)], [], []⟩ (.seq .leaf (.seq (.cond .leaf .leaf) (.seq (.blk (.seq .leaf (.seq .leaf (.cond (.seq .leaf .leaf) .leaf)))) .leaf)))))) (.seq .leaf .leaf)))
def F45 (sa : Option Addr) (sl : Nat) (sc : Nat) (v_1 : ByteArray) (g : G) (R : Value → G → Prop) : Prop :=
  ∃ Inv : Nat → Int → G → Prop, ((∃ m0 : Nat, Inv m0 (0 : Int) g)) ∧
  ∀ m : Nat, ∀ v_2 : Int, ∀ g1 : G, Le g g1 → Inv m v_2 g1 →
  ifB (ltI v_2 ((sl : Nat) : Int))
  ((0 ≤ v_2 ∧ v_2 < ((sl : Nat) : Int)) ∧ derefP sa fun ad => ∃ x : ByteArray, g1.w.cell? (Addr.add ad (Int.toNat v_2 * 1)) = some (.string x) ∧ ifB (strEq v_1 x)
  (∀ g2 : G, Ex g1 g2 →
  R (.int .i64 v_2) g2)
  (InI64 (v_2 + (1 : Int)) ∧ (∃ m_1 : Nat, m_1 < m ∧ Inv m_1 (v_2 + (1 : Int)) g1)))
  (∀ g3 : G, Ex g1 g3 →
  R (.int .i64 (-1 : Int)) g3)
theorem F45_eq (sa : Option Addr) (sl : Nat) (sc : Nat) (v_1 : ByteArray) (g : G) (R : Value → G → Prop) : fnG cfg45 19 [.tmp 4] c45 an45 [(.slice sa sl sc), (.string v_1)] g nobody R = F45 sa sl sc v_1 g R := by kernel_rfl
theorem call45 (sa : Option Addr) (sl : Nat) (sc : Nat) (v_1 : ByteArray) (g : G) (R : Value → G → Prop) (hF : F45 sa sl sc v_1 g R) : CallsG Tryz.prog 45 #[(.slice sa sl sc), (.string v_1)] g nobody R :=
  fn_soundG (c := cfg45) TTok FNSok mixed Tryz.func45 (show Tryz.f45.body = some c45 by kernel_rfl) (show Tryz.f45.ntmps = 19 by kernel_rfl) (show Tryz.f45.results.toList = [.tmp 4] by kernel_rfl) rfl ((F45_eq sa sl sc v_1 g R).mpr hF)

/- 46 pilaster/pilasterlaw07.ScopeAfter$3 -/
noncomputable def c46 : Code := match Tryz.f46.body with
  | some c => c
  | none => .skip
noncomputable def cfg46 : Cfg := ⟨Tryz.prog, TT, FNS, [2], [(2, 2), (6, 2), (12, 2)], [4], TCH, false, false⟩
def an46 : AnnG := (.seq .leaf (.seq .leaf (.seq .leaf .leaf)))
def F46 (u0 : ByteArray) (u1a : Option Addr) (u1l : Nat) (u1c : Nat) (u2a : Option Addr) (u2l : Nat) (u2c : Nat) (c0 : Option Addr) (g : G) (R : Value → G → Prop) : Prop :=
  ∀ g1 : G, Ex g g1 →
  derefP c0 fun ad => ∃ xf : FuncId, ∃ xc : Array Value, g1.w.cell? ad = some (.func (.func xf) #[] xc) ∧ Enters Tryz.prog xf ∧ (CallsP Tryz.prog xf ((⟨[(.string u0)]⟩ : Array Value) ++ xc) g1 fun v g2 =>
  ∃ x : Int, v = (.int .i64 x) ∧ ∀ g3 : G, NewD g2 g3 3 [(.int .i64 (0 : Int))] →
  stOk g3.w ⟨g2.w.heap.size, 0, none⟩ 1 ∧ ¬ g3.X (Addr.block ⟨g2.w.heap.size, 0, none⟩) ∧ mutAt g3 ⟨g2.w.heap.size, 0, none⟩ 1 ∧ ((Addr.block ⟨g2.w.heap.size, 0, none⟩) < g.w.heap.size → nobody (Addr.block ⟨g2.w.heap.size, 0, none⟩)) ∧ ∀ g4 : G, StG true g3 ⟨g2.w.heap.size, 0, none⟩ [(.int .i64 x)] g4 →
  ∃ at0 : Int, g4.w.cell? ⟨g2.w.heap.size, 0, none⟩ = some (.int .i64 at0) ∧ ifB (ltI at0 (0 : Int))
  (∀ g5 : G, Ex g4 g5 →
  R (.bool true) g5)
  ((CallsP Tryz.prog 33 #[(.slice u1a u1l u1c), (.func (.func 47) #[] ⟨[(.pointer c0), (.pointer (some ⟨g2.w.heap.size, 0, none⟩))]⟩)] g4 fun v g6 =>
  ∃ x_1 : Bool, v = (.bool x_1) ∧ ∀ g7 : G, Ex g6 g7 →
  R (.bool x_1) g7)))
theorem F46_eq (u0 : ByteArray) (u1a : Option Addr) (u1l : Nat) (u1c : Nat) (u2a : Option Addr) (u2l : Nat) (u2c : Nat) (c0 : Option Addr) (g : G) (R : Value → G → Prop) : fnG cfg46 17 [.tmp 3] c46 an46 [(.agg ⟨[(.string u0), (.slice u1a u1l u1c), (.slice u2a u2l u2c)]⟩), (.pointer c0)] g nobody R = F46 u0 u1a u1l u1c u2a u2l u2c c0 g R := by kernel_rfl
theorem call46 (u0 : ByteArray) (u1a : Option Addr) (u1l : Nat) (u1c : Nat) (u2a : Option Addr) (u2l : Nat) (u2c : Nat) (c0 : Option Addr) (g : G) (R : Value → G → Prop) (hF : F46 u0 u1a u1l u1c u2a u2l u2c c0 g R) : CallsG Tryz.prog 46 #[(.agg ⟨[(.string u0), (.slice u1a u1l u1c), (.slice u2a u2l u2c)]⟩), (.pointer c0)] g nobody R :=
  fn_soundG (c := cfg46) TTok FNSok mixed Tryz.func46 (show Tryz.f46.body = some c46 by kernel_rfl) (show Tryz.f46.ntmps = 17 by kernel_rfl) (show Tryz.f46.results.toList = [.tmp 3] by kernel_rfl) rfl ((F46_eq u0 u1a u1l u1c u2a u2l u2c c0 g R).mpr hF)

/- 47 pilaster/pilasterlaw07.ScopeAfter$3$1 -/
noncomputable def c47 : Code := match Tryz.f47.body with
  | some c => c
  | none => .skip
noncomputable def cfg47 : Cfg := ⟨Tryz.prog, TT, FNS, [], [], [], TCH, false, false⟩
def an47 : AnnG := (.seq .leaf (.seq .leaf (.seq .leaf .leaf)))
def F47 (s : ByteArray) (c0 : Option Addr) (c1 : Option Addr) (g : G) (R : Value → G → Prop) : Prop :=
  derefP c0 fun ad => ∃ xf : FuncId, ∃ xc : Array Value, g.w.cell? ad = some (.func (.func xf) #[] xc) ∧ Enters Tryz.prog xf ∧ (CallsP Tryz.prog xf ((⟨[(.string s)]⟩ : Array Value) ++ xc) g fun v g1 =>
  ∃ i : Int, v = (.int .i64 i) ∧ ifB (ltI i (0 : Int))
  (∀ g2 : G, Ex g1 g2 →
  R (.bool true) g2)
  (derefP c1 fun ad_1 => ∃ x : Int, g1.w.cell? ad_1 = some (.int .i64 x) ∧ ∀ g3 : G, Ex g1 g3 →
  R (.bool (leI x i)) g3))
theorem F47_eq (s : ByteArray) (c0 : Option Addr) (c1 : Option Addr) (g : G) (R : Value → G → Prop) : fnG cfg47 16 [.tmp 4] c47 an47 [(.string s), (.pointer c0), (.pointer c1)] g nobody R = F47 s c0 c1 g R := by kernel_rfl
theorem call47 (s : ByteArray) (c0 : Option Addr) (c1 : Option Addr) (g : G) (R : Value → G → Prop) (hF : F47 s c0 c1 g R) : CallsG Tryz.prog 47 #[(.string s), (.pointer c0), (.pointer c1)] g nobody R :=
  fn_soundG (c := cfg47) TTok FNSok mixed Tryz.func47 (show Tryz.f47.body = some c47 by kernel_rfl) (show Tryz.f47.ntmps = 16 by kernel_rfl) (show Tryz.f47.results.toList = [.tmp 4] by kernel_rfl) rfl ((F47_eq s c0 c1 g R).mpr hF)

/- 48 slices.Clone[[]pilaster/api.Unit,pilaster/api.Unit] -/
noncomputable def c48 : Code := match Tryz.f48.body with
  | some c => c
  | none => .skip
noncomputable def cfg48 : Cfg := ⟨Tryz.prog, TT, FNS, [], [], [], TCH, false, false⟩
def an48 : AnnG := (.seq .leaf (.seq (.seq .leaf (.cond (.seq .leaf .leaf) .leaf)) (.seq .leaf .leaf)))
def F48 (sa : Option Addr) (sl : Nat) (sc : Nat) (g : G) (R : Value → G → Prop) : Prop :=
  ifB sa.isNone
  (∀ g1 : G, Ex g g1 →
  R (.slice none 0 0) g1)
  (∀ g2 : G, NewL g g2 46 [] →
  ∃ xa : Option Addr, ∃ xl : Nat, ∃ xc : Nat, ∃ wo1 : World, Sem.run Tryz.prog (Builtin.append_ #[43, 43] 43 #[(.slice (some ⟨g.w.heap.size, 0, none⟩) 0 0), (.slice sa sl sc)]) g2.w = .ok (.slice xa xl xc) wo1 ∧ ∃ g3 : G, g3.w = wo1 ∧ Stp g.w.heap.size nobody g2 g3 ∧ ∀ g4 : G, Ex g3 g4 →
  R (.slice xa xl xc) g4)
theorem F48_eq (sa : Option Addr) (sl : Nat) (sc : Nat) (g : G) (R : Value → G → Prop) : fnG cfg48 8 [.tmp 2] c48 an48 [(.slice sa sl sc)] g nobody R = F48 sa sl sc g R := by kernel_rfl
theorem call48 (sa : Option Addr) (sl : Nat) (sc : Nat) (g : G) (R : Value → G → Prop) (hF : F48 sa sl sc g R) : CallsG Tryz.prog 48 #[(.slice sa sl sc)] g nobody R :=
  fn_soundG (c := cfg48) TTok FNSok mixed Tryz.func48 (show Tryz.f48.body = some c48 by kernel_rfl) (show Tryz.f48.ntmps = 8 by kernel_rfl) (show Tryz.f48.results.toList = [.tmp 2] by kernel_rfl) rfl ((F48_eq sa sl sc g R).mpr hF)

/- 49 slices.DeleteFunc[[]pilaster/api.Unit,pilaster/api.Unit] -/
noncomputable def c49 : Code := match Tryz.f49.body with
  | some c => c
  | none => .skip
noncomputable def cfg49 : Cfg := ⟨Tryz.prog, TT, FNS, [7], [(7, 7)], [], TCH, false, false⟩
def an49 : AnnG := (.seq .leaf (.seq .leaf (.seq (.seq .leaf (.cond (.seq .leaf .leaf) .leaf)) (.seq (.seq .leaf (.blk (.loop ⟨[(5, .int .i64), (6, .int .i64)], [], []⟩ (.seq (.seq .leaf (.cond .leaf .leaf)) (.seq (.blk (.seq .leaf (.seq .leaf (.cond (.seq .leaf .leaf) .leaf)))) .leaf))))) (.seq .leaf (.seq .leaf .leaf))))))
def F49 (sa : Option Addr) (sl : Nat) (sc : Nat) (delf : FuncId) (delc : Array Value) (g : G) (M : Nat → Prop) (R : Value → G → Prop) : Prop :=
  (CallsP Tryz.prog 70 #[(.slice sa sl sc), (.func (.func delf) #[] delc)] g fun v g1 =>
  ∃ i : Int, v = (.int .i64 i) ∧ ifB (eqI i (-1 : Int))
  (∀ g2 : G, Ex g1 g2 →
  R (.slice sa sl sc) g2)
  (InI64 (i + (1 : Int)) ∧ ∃ Inv : Nat → Int → Int → G → Prop, ((∃ m0 : Nat, Inv m0 i (i + (1 : Int)) g1)) ∧
  ∀ m : Nat, ∀ i_1 : Int, ∀ j : Int, ∀ g3 : G, Le g1 g3 → Inv m i_1 j g3 →
  ifB (ltI j ((sl : Nat) : Int))
  ((0 ≤ j ∧ j < ((sl : Nat) : Int)) ∧ derefP sa fun ad => ∃ x0 : ByteArray, ∃ x1a : Option Addr, ∃ x1l : Nat, ∃ x1c : Nat, ∃ x2a : Option Addr, ∃ x2l : Nat, ∃ x2c : Nat, g3.w.cell? (Addr.add ad (Int.toNat j * 3)) = some (.string x0) ∧ g3.w.cell? (Addr.add (Addr.add ad (Int.toNat j * 3)) 1) = some (.slice x1a x1l x1c) ∧ g3.w.cell? (Addr.add (Addr.add ad (Int.toNat j * 3)) 2) = some (.slice x2a x2l x2c) ∧ ∀ g4 : G, Ex g3 g4 →
  Enters Tryz.prog delf ∧ (CallsP Tryz.prog delf ((⟨[(.agg ⟨[(.string x0), (.slice x1a x1l x1c), (.slice x2a x2l x2c)]⟩)]⟩ : Array Value) ++ delc) g4 fun v g5 =>
  ∃ x : Bool, v = (.bool x) ∧ ifB (!x)
  ((0 ≤ i_1 ∧ i_1 < ((sl : Nat) : Int)) ∧ derefP sa fun ad_1 => stOk g5.w (Addr.add ad_1 (Int.toNat i_1 * 3)) 3 ∧ ¬ g5.X (Addr.block (Addr.add ad_1 (Int.toNat i_1 * 3))) ∧ mutAt g5 (Addr.add ad_1 (Int.toNat i_1 * 3)) 3 ∧ ((Addr.block (Addr.add ad_1 (Int.toNat i_1 * 3))) < g.w.heap.size → M (Addr.block (Addr.add ad_1 (Int.toNat i_1 * 3)))) ∧ ∀ g6 : G, StG false g5 (Addr.add ad_1 (Int.toNat i_1 * 3)) [(.string x0), (.slice x1a x1l x1c), (.slice x2a x2l x2c)] g6 →
  InI64 (i_1 + (1 : Int)) ∧ InI64 (j + (1 : Int)) ∧ (∃ m_1 : Nat, m_1 < m ∧ Inv m_1 (i_1 + (1 : Int)) (j + (1 : Int)) g6))
  (InI64 (j + (1 : Int)) ∧ (∃ m_1 : Nat, m_1 < m ∧ Inv m_1 i_1 (j + (1 : Int)) g5))))
  ((0 ≤ i_1 ∧ i_1 ≤ ((sl : Nat) : Int)) ∧ ∃ wo1 : World, Sem.run Tryz.prog (Builtin.clear_ #[43] 0 #[(.slice (slAddr sa sc (Int.toNat i_1) 3) (sl - (Int.toNat i_1)) (sc - (Int.toNat i_1)))]) g3.w = .ok (.tuple ⟨[]⟩) wo1 ∧ ∃ g7 : G, g7.w = wo1 ∧ Stp g.w.heap.size M g3 g7 ∧ (0 ≤ i_1 ∧ i_1 ≤ ((sc : Nat) : Int)) ∧ ∀ g8 : G, Ex g7 g8 →
  R (.slice (slAddr sa sc 0 3) ((Int.toNat i_1) - 0) (sc - 0)) g8)))
theorem F49_eq (sa : Option Addr) (sl : Nat) (sc : Nat) (delf : FuncId) (delc : Array Value) (g : G) (M : Nat → Prop) (R : Value → G → Prop) : fnG cfg49 42 [.tmp 4] c49 an49 [(.slice sa sl sc), (.func (.func delf) #[] delc)] g M R = F49 sa sl sc delf delc g M R := by kernel_rfl
theorem call49 (sa : Option Addr) (sl : Nat) (sc : Nat) (delf : FuncId) (delc : Array Value) (g : G) (M : Nat → Prop) (R : Value → G → Prop) (hF : F49 sa sl sc delf delc g M R) : CallsG Tryz.prog 49 #[(.slice sa sl sc), (.func (.func delf) #[] delc)] g M R :=
  fn_soundG (c := cfg49) TTok FNSok mixed Tryz.func49 (show Tryz.f49.body = some c49 by kernel_rfl) (show Tryz.f49.ntmps = 42 by kernel_rfl) (show Tryz.f49.results.toList = [.tmp 4] by kernel_rfl) rfl ((F49_eq sa sl sc delf delc g M R).mpr hF)

/- 50 pilaster/pilasterlaw07.ScopeAfter$4 -/
noncomputable def c50 : Code := match Tryz.f50.body with
  | some c => c
  | none => .skip
noncomputable def cfg50 : Cfg := ⟨Tryz.prog, TT, FNS, [2], [(2, 2), (4, 2)], [], TCH, false, false⟩
def an50 : AnnG := (.seq .leaf (.seq .leaf .leaf))
def F50 (u0 : ByteArray) (u1a : Option Addr) (u1l : Nat) (u1c : Nat) (u2a : Option Addr) (u2l : Nat) (u2c : Nat) (c0 : Value) (g : G) (R : Value → G → Prop) : Prop :=
  ∀ g1 : G, Ex g g1 →
  (CallsP Tryz.prog 33 #[(.slice u1a u1l u1c), (.func (.func 51) #[] ⟨[c0]⟩)] g1 fun v g2 =>
  ∃ x : Bool, v = (.bool x) ∧ ∀ g3 : G, Ex g2 g3 →
  R (.bool (!x)) g3)
theorem F50_eq (u0 : ByteArray) (u1a : Option Addr) (u1l : Nat) (u1c : Nat) (u2a : Option Addr) (u2l : Nat) (u2c : Nat) (c0 : Value) (g : G) (R : Value → G → Prop) : fnG cfg50 9 [.tmp 3] c50 an50 [(.agg ⟨[(.string u0), (.slice u1a u1l u1c), (.slice u2a u2l u2c)]⟩), c0] g nobody R = F50 u0 u1a u1l u1c u2a u2l u2c c0 g R := by kernel_rfl
theorem call50 (u0 : ByteArray) (u1a : Option Addr) (u1l : Nat) (u1c : Nat) (u2a : Option Addr) (u2l : Nat) (u2c : Nat) (c0 : Value) (g : G) (R : Value → G → Prop) (hF : F50 u0 u1a u1l u1c u2a u2l u2c c0 g R) : CallsG Tryz.prog 50 #[(.agg ⟨[(.string u0), (.slice u1a u1l u1c), (.slice u2a u2l u2c)]⟩), c0] g nobody R :=
  fn_soundG (c := cfg50) TTok FNSok mixed Tryz.func50 (show Tryz.f50.body = some c50 by kernel_rfl) (show Tryz.f50.ntmps = 9 by kernel_rfl) (show Tryz.f50.results.toList = [.tmp 3] by kernel_rfl) rfl ((F50_eq u0 u1a u1l u1c u2a u2l u2c c0 g R).mpr hF)

/- 51 pilaster/pilasterlaw07.ScopeAfter$4$1 -/
noncomputable def c51 : Code := match Tryz.f51.body with
  | some c => c
  | none => .skip
noncomputable def cfg51 : Cfg := ⟨Tryz.prog, TT, FNS, [], [], [2], TCH, false, false⟩
def an51 : AnnG := (.seq .leaf (.seq .leaf .leaf))
def F51 (s : ByteArray) (c0 : Option Addr) (g : G) (R : Value → G → Prop) : Prop :=
  ∀ g1 : G, NewL g g1 9 ([(.string s)] : List Value) →
  derefP c0 fun ad => ∃ xa : Option Addr, ∃ xl : Nat, ∃ xc : Nat, g1.w.cell? ad = some (.slice xa xl xc) ∧ (CallsP Tryz.prog 25 #[(.slice xa xl xc), (.func (.func 52) #[] ⟨[(.pointer (some ⟨g.w.heap.size, 0, none⟩))]⟩)] g1 fun v g2 =>
  ∃ x : Bool, v = (.bool x) ∧ ∀ g3 : G, Ex g2 g3 →
  R (.bool x) g3)
theorem F51_eq (s : ByteArray) (c0 : Option Addr) (g : G) (R : Value → G → Prop) : fnG cfg51 7 [.tmp 3] c51 an51 [(.string s), (.pointer c0)] g nobody R = F51 s c0 g R := by kernel_rfl
theorem call51 (s : ByteArray) (c0 : Option Addr) (g : G) (R : Value → G → Prop) (hF : F51 s c0 g R) : CallsG Tryz.prog 51 #[(.string s), (.pointer c0)] g nobody R :=
  fn_soundG (c := cfg51) TTok FNSok mixed Tryz.func51 (show Tryz.f51.body = some c51 by kernel_rfl) (show Tryz.f51.ntmps = 7 by kernel_rfl) (show Tryz.f51.results.toList = [.tmp 3] by kernel_rfl) rfl ((F51_eq s c0 g R).mpr hF)

/- 52 pilaster/pilasterlaw07.ScopeAfter$4$1$1 -/
noncomputable def c52 : Code := match Tryz.f52.body with
  | some c => c
  | none => .skip
noncomputable def cfg52 : Cfg := ⟨Tryz.prog, TT, FNS, [2], [(2, 2), (4, 2)], [], TCH, false, false⟩
def an52 : AnnG := (.seq .leaf (.seq .leaf .leaf))
def F52 (v0 : ByteArray) (v1a : Option Addr) (v1l : Nat) (v1c : Nat) (v2a : Option Addr) (v2l : Nat) (v2c : Nat) (c0 : Option Addr) (g : G) (R : Value → G → Prop) : Prop :=
  ∀ g1 : G, Ex g g1 →
  derefP c0 fun ad => ∃ x : ByteArray, g1.w.cell? ad = some (.string x) ∧ ∀ g2 : G, Ex g1 g2 →
  R (.bool (strEq v0 x)) g2
theorem F52_eq (v0 : ByteArray) (v1a : Option Addr) (v1l : Nat) (v1c : Nat) (v2a : Option Addr) (v2l : Nat) (v2c : Nat) (c0 : Option Addr) (g : G) (R : Value → G → Prop) : fnG cfg52 8 [.tmp 3] c52 an52 [(.agg ⟨[(.string v0), (.slice v1a v1l v1c), (.slice v2a v2l v2c)]⟩), (.pointer c0)] g nobody R = F52 v0 v1a v1l v1c v2a v2l v2c c0 g R := by kernel_rfl
theorem call52 (v0 : ByteArray) (v1a : Option Addr) (v1l : Nat) (v1c : Nat) (v2a : Option Addr) (v2l : Nat) (v2c : Nat) (c0 : Option Addr) (g : G) (R : Value → G → Prop) (hF : F52 v0 v1a v1l v1c v2a v2l v2c c0 g R) : CallsG Tryz.prog 52 #[(.agg ⟨[(.string v0), (.slice v1a v1l v1c), (.slice v2a v2l v2c)]⟩), (.pointer c0)] g nobody R :=
  fn_soundG (c := cfg52) TTok FNSok mixed Tryz.func52 (show Tryz.f52.body = some c52 by kernel_rfl) (show Tryz.f52.ntmps = 8 by kernel_rfl) (show Tryz.f52.results.toList = [.tmp 3] by kernel_rfl) rfl ((F52_eq v0 v1a v1l v1c v2a v2l v2c c0 g R).mpr hF)

/- 91 slices.Grow[[]pilaster/api.Unit,pilaster/api.Unit] -/
noncomputable def c91 : Code := match Tryz.f91.body with
  | some c => c
  | none => .skip
noncomputable def cfg91 : Cfg := ⟨Tryz.prog, TT, FNS, [], [], [], TCH, false, false⟩
def an91 : AnnG := (.seq .leaf (.join ⟨[], [], []⟩ (.seq .leaf (.cond .leaf .leaf)) (.seq (.seq .leaf (.seq .leaf (.cond .leaf .leaf))) (.seq .leaf .leaf))))
def F91 (sa : Option Addr) (sl : Nat) (sc : Nat) (n : Int) (g : G) (R : Value → G → Prop) : Prop :=
  ∀ J : G → Prop,
  (∀ g1 : G, (InI64 (((sc : Nat) : Int) - ((sl : Nat) : Int)) ∧ InI64 (n - (((sc : Nat) : Int) - ((sl : Nat) : Int))) ∧ ifB (ltI (0 : Int) (n - (((sc : Nat) : Int) - ((sl : Nat) : Int))))
  ((0 ≤ ((sc : Nat) : Int) ∧ ((sc : Nat) : Int) ≤ ((sc : Nat) : Int)) ∧ ∃ xa : Option Addr, ∃ xl : Nat, ∃ xc : Nat, ∃ wo1 : World, Sem.run Tryz.prog (Builtin.append_ #[43, 3] 43 #[(.slice (slAddr sa sc 0 3) ((Int.toNat ((sc : Nat) : Int)) - 0) (sc - 0)), (.int .i64 (n - (((sc : Nat) : Int) - ((sl : Nat) : Int))))]) g1.w = .ok (.slice xa xl xc) wo1 ∧ ∃ g2 : G, g2.w = wo1 ∧ Stp g.w.heap.size nobody g1 g2 ∧ (0 ≤ ((sl : Nat) : Int) ∧ ((sl : Nat) : Int) ≤ ((xc : Nat) : Int)) ∧ ∀ g3 : G, Ex g2 g3 →
  R (.slice (slAddr xa xc 0 3) ((Int.toNat ((sl : Nat) : Int)) - 0) (xc - 0)) g3)
  (∀ g4 : G, Ex g1 g4 →
  R (.slice sa sl sc) g4)) → J g1) →
  ifB (ltI n (0 : Int))
  (False)
  (J g)
theorem F91_eq (sa : Option Addr) (sl : Nat) (sc : Nat) (n : Int) (g : G) (R : Value → G → Prop) : fnG cfg91 27 [.tmp 4] c91 an91 [(.slice sa sl sc), (.int .i64 n)] g nobody R = F91 sa sl sc n g R := by kernel_rfl
theorem call91 (sa : Option Addr) (sl : Nat) (sc : Nat) (n : Int) (g : G) (R : Value → G → Prop) (hF : F91 sa sl sc n g R) : CallsG Tryz.prog 91 #[(.slice sa sl sc), (.int .i64 n)] g nobody R :=
  fn_soundG (c := cfg91) TTok FNSok mixed Tryz.func91 (show Tryz.f91.body = some c91 by kernel_rfl) (show Tryz.f91.ntmps = 27 by kernel_rfl) (show Tryz.f91.results.toList = [.tmp 4] by kernel_rfl) rfl ((F91_eq sa sl sc n g R).mpr hF)
end Go.Proofs.YtkocjbgdmocmlaaGreatDoor.PL10
