/- Printed by a program (wip/tools/gen2.py): for each function its condition as a plain formula, and that the formula gives the call. -/
import Derived.Test.YtkocjbgdmocmlaaGreatDoorProg
import Derived.Test.YtkocjbgdmocmlaaGreatDoorVda
namespace Go.Proofs.YtkocjbgdmocmlaaGreatDoor.PL7
open Go Go.Vc Go.RowKit
set_option maxRecDepth 100000
set_option linter.unusedVariables false
def TT : List TI := [
  ⟨0, .tuple #[], 1, 0, some (.tuple ⟨[]⟩), (.tup [])⟩,
  ⟨3, .int .i64, 1, 8, some (.int .i64 (0 : Int)), (.e (.one (.int .i64)))⟩,
  ⟨4, .bool, 1, 1, some (.bool false), (.e (.one (.bool)))⟩,
  ⟨9, .string, 1, 16, some (.string (bs [])), (.e (.one (.str)))⟩,
  ⟨22, .slice 9, 1, 24, some (.slice none 0 0), (.e (.one (.sl)))⟩,
  ⟨23, .slice 25, 1, 24, some (.slice none 0 0), (.e (.one (.sl)))⟩,
  ⟨25, .struct #[{ name := "Op", type := 3, offset := 0, embedded := false, tag := "", pkgPath := "", byteOffset := 0 }, { name := "N", type := 3, offset := 1, embedded := false, tag := "", pkgPath := "", byteOffset := 8 }, { name := "S", type := 9, offset := 2, embedded := false, tag := "", pkgPath := "", byteOffset := 16 }, { name := "Names", type := 22, offset := 3, embedded := false, tag := "", pkgPath := "", byteOffset := 32 }, { name := "L", type := 23, offset := 4, embedded := false, tag := "", pkgPath := "", byteOffset := 56 }], 5, 80, some (.agg ⟨[(.int .i64 (0 : Int)), (.int .i64 (0 : Int)), (.string (bs [])), (.slice none 0 0), (.slice none 0 0)]⟩), (.e (.agg [(.int .i64), (.int .i64), (.str), (.sl), (.sl)]))⟩,
  ⟨28, .int .i64, 1, 8, some (.int .i64 (0 : Int)), (.e (.one (.int .i64)))⟩,
  ⟨29, .tuple #[22, 28], 1, 0, some (.tuple ⟨[(.slice none 0 0), (.int .i64 (0 : Int))]⟩), (.tup [(.one (.sl)), (.one (.int .i64))])⟩,
  ⟨54, .func #[25] #[] false, 1, 8, some .nilFunc, (.e (.one (.fn)))⟩]
theorem TTok : TOk Tryz.prog TT := tok_of (by kernel_rfl)
def FNS : List Nat := [11, 12, 13, 17, 19, 22, 32, 33, 80, 115]
theorem FNSok : FOk Tryz.prog FNS := fok_of (by kernel_rfl)
theorem mixed : Tryz.prog.follows .mixedOrders = true := by kernel_rfl
def TCH : List Nat := [12, 16, 20, 22, 31]

/- 7 pilaster/pilasterlaw07.ScopePaths -/
noncomputable def c7 : Code := match Tryz.f7.body with
  | some c => c
  | none => .skip
noncomputable def cfg7 : Cfg := ⟨Tryz.prog, TT, FNS, [3], [(3, 3)], [8], TCH, true, false⟩
def an7 : AnnG := (.seq .leaf (.seq (.seq .leaf (.cond (.seq .leaf .leaf) .leaf)) (.seq (.seq .leaf (.cond (.seq .leaf .leaf) .leaf)) (.seq .leaf (.seq (.seq .leaf (.cond (.seq .leaf .leaf) .leaf)) (.seq .leaf (.seq .leaf (.seq .leaf (.seq .leaf (.seq .leaf .leaf))))))))))
def F7 (cat : Int) (t0 : Int) (t1 : Int) (t2 : ByteArray) (t3a : Option Addr) (t3l : Nat) (t3c : Nat) (t4a : Option Addr) (t4l : Nat) (t4c : Nat) (g : G) (R : Value → G → Prop) : Prop :=
  ∀ g1 : G, Ex g g1 →
  (CallsP Tryz.prog 11 #[] g1 fun v g2 =>
  ∃ x : Bool, v = (.bool x) ∧ ifB (!x)
  (∀ g3 : G, Ex g2 g3 →
  R (.bool false) g3)
  (∀ g4 : G, NewL g2 g4 25 [(.int .i64 t0), (.int .i64 t1), (.string t2), (.slice t3a t3l t3c), (.slice t4a t4l t4c)] →
  ∃ M3 : Nat → Prop, (∀ b, b < g.w.heap.size → M3 b → nobody b) ∧ (CallsG Tryz.prog 12 #[(.slice (some ⟨g2.w.heap.size, 0, none⟩) 1 1)] g4 M3 fun v g5 =>
  ∃ x_1 : Bool, v = (.bool x_1) ∧ ifB (!x_1)
  (∀ g6 : G, Ex g5 g6 →
  R (.bool true) g6)
  ((CallsP Tryz.prog 13 #[(.int .i64 cat), (.agg ⟨[(.int .i64 t0), (.int .i64 t1), (.string t2), (.slice t3a t3l t3c), (.slice t4a t4l t4c)]⟩)] g5 fun v g7 =>
  ∃ x0a : Option Addr, ∃ x0l : Nat, ∃ x0c : Nat, ∃ x1 : Int, v = (.tuple ⟨[(.slice x0a x0l x0c), (.int .i64 x1)]⟩) ∧ ifB (!eqI x1 (0 : Int))
  (∀ g8 : G, Ex g7 g8 →
  R (.bool (eqI ((x0l : Nat) : Int) (0 : Int))) g8)
  (∀ g9 : G, NewD g7 g9 22 [(.slice none 0 0)] →
  ∀ g10 : G, NewD g9 g10 54 [.nilFunc] →
  stOk g10.w ⟨g9.w.heap.size, 0, none⟩ 1 ∧ ¬ g10.X (Addr.block ⟨g9.w.heap.size, 0, none⟩) ∧ mutAt g10 ⟨g9.w.heap.size, 0, none⟩ 1 ∧ ((Addr.block ⟨g9.w.heap.size, 0, none⟩) < g.w.heap.size → nobody (Addr.block ⟨g9.w.heap.size, 0, none⟩)) ∧ ∀ g11 : G, StG true g10 ⟨g9.w.heap.size, 0, none⟩ [(.func (.func 31) #[] ⟨[(.pointer (some ⟨g7.w.heap.size, 0, none⟩)), (.pointer (some ⟨g9.w.heap.size, 0, none⟩))]⟩)] g11 →
  ∃ allf : FuncId, ∃ allc : Array Value, g11.w.cell? ⟨g9.w.heap.size, 0, none⟩ = some (.func (.func allf) #[] allc) ∧ Enters Tryz.prog allf ∧ ∃ M2 : Nat → Prop, (∀ b, b < g.w.heap.size → M2 b → nobody b) ∧ (CallsG Tryz.prog allf ((⟨[(.agg ⟨[(.int .i64 t0), (.int .i64 t1), (.string t2), (.slice t3a t3l t3c), (.slice t4a t4l t4c)]⟩)]⟩ : Array Value) ++ allc) g11 M2 fun v g12 =>
  v = (.tuple ⟨[]⟩) ∧ (CallsP Tryz.prog 32 #[(.slice x0a x0l x0c)] g12 fun v g13 =>
  ∃ x_2 : Bool, v = (.bool x_2) ∧ ifB x_2
  ((CallsP Tryz.prog 17 #[(.slice x0a x0l x0c)] g13 fun v g14 =>
  ∃ xa : Option Addr, ∃ xl : Nat, ∃ xc : Nat, v = (.slice xa xl xc) ∧ ∃ M1 : Nat → Prop, (∀ b, b < g.w.heap.size → M1 b → nobody b) ∧ (CallsG Tryz.prog 22 #[(.slice xa xl xc)] g14 M1 fun v g15 =>
  ∃ xa_1 : Option Addr, ∃ xl_1 : Nat, ∃ xc_1 : Nat, v = (.slice xa_1 xl_1 xc_1) ∧ ifB (eqI ((xl_1 : Nat) : Int) ((x0l : Nat) : Int))
  ((CallsP Tryz.prog 33 #[(.slice x0a x0l x0c), (.func (.func 34) #[] ⟨[(.pointer (some ⟨g7.w.heap.size, 0, none⟩))]⟩)] g15 fun v g16 =>
  ∃ x_3 : Bool, v = (.bool x_3) ∧ ∀ g17 : G, Ex g16 g17 →
  R (.bool (!x_3)) g17))
  (∀ g18 : G, Ex g15 g18 →
  R (.bool false) g18))))
  (∀ g19 : G, Ex g13 g19 →
  R (.bool false) g19)))))))))
theorem F7_eq (cat : Int) (t0 : Int) (t1 : Int) (t2 : ByteArray) (t3a : Option Addr) (t3l : Nat) (t3c : Nat) (t4a : Option Addr) (t4l : Nat) (t4c : Nat) (g : G) (R : Value → G → Prop) : fnG cfg7 47 [.tmp 4] c7 an7 [(.int .i64 cat), (.agg ⟨[(.int .i64 t0), (.int .i64 t1), (.string t2), (.slice t3a t3l t3c), (.slice t4a t4l t4c)]⟩)] g nobody R = F7 cat t0 t1 t2 t3a t3l t3c t4a t4l t4c g R := by kernel_rfl
theorem call7 (cat : Int) (t0 : Int) (t1 : Int) (t2 : ByteArray) (t3a : Option Addr) (t3l : Nat) (t3c : Nat) (t4a : Option Addr) (t4l : Nat) (t4c : Nat) (g : G) (R : Value → G → Prop) (hF : F7 cat t0 t1 t2 t3a t3l t3c t4a t4l t4c g R) : CallsG Tryz.prog 7 #[(.int .i64 cat), (.agg ⟨[(.int .i64 t0), (.int .i64 t1), (.string t2), (.slice t3a t3l t3c), (.slice t4a t4l t4c)]⟩)] g nobody R :=
  fn_soundG (c := cfg7) TTok FNSok mixed Tryz.func7 (show Tryz.f7.body = some c7 by kernel_rfl) (show Tryz.f7.ntmps = 47 by kernel_rfl) (show Tryz.f7.results.toList = [.tmp 4] by kernel_rfl) rfl ((F7_eq cat t0 t1 t2 t3a t3l t3c t4a t4l t4c g R).mpr hF)

/- 31 pilaster/pilasterlaw07.ScopePaths$1 -/
noncomputable def c31 : Code := match Tryz.f31.body with
  | some c => c
  | none => .skip
noncomputable def cfg31 : Cfg := ⟨Tryz.prog, TT, FNS, [3, 7], [(3, 3), (7, 7), (8, 3), (13, 3), (20, 3), (32, 3), (40, 3)], [], TCH, true, false⟩
def an31 : AnnG := (.seq .leaf (.join ⟨[], [], []⟩ (.seq .leaf (.cond (.tree 7 (.quiet 0 (.quiet 1 (.quiet 2 (.quiet 3 (.quiet 4 (.quiet 5 (.eff 6 .fin .fin)))))))) (.seq .leaf (.cond (.seq .leaf (.blk (.loop ⟨[(26, .int .i64)], [], []⟩ (.seq .leaf (.seq (.cond .leaf .leaf) (.seq (.blk (.seq .leaf (.tree 8 (.quiet 0 (.quiet 1 (.quiet 2 (.quiet 3 (.quiet 4 (.quiet 5 (.quiet 6 (.eff 7 .fin .fin))))))))))) .leaf)))))) .leaf)))) (.seq .leaf (.blk (.loop ⟨[(43, .int .i64)], [], []⟩ (.seq .leaf (.seq (.cond .leaf .leaf) (.seq (.blk (.seq .leaf .leaf)) .leaf))))))))
def F31 (t0 : Int) (t1 : Int) (t2 : ByteArray) (t3a : Option Addr) (t3l : Nat) (t3c : Nat) (t4a : Option Addr) (t4l : Nat) (t4c : Nat) (c0 : Option Addr) (c1 : Option Addr) (g : G) (M : Nat → Prop) (R : Value → G → Prop) : Prop :=
  ∀ J : G → Prop,
  (∀ g1 : G, (∃ Inv : Nat → Int → G → Prop, ((∃ m0 : Nat, Inv m0 (0 : Int) g1)) ∧
  ∀ m : Nat, ∀ v_1 : Int, ∀ g2 : G, Le g1 g2 → Inv m v_1 g2 →
  ifB (ltI v_1 ((t4l : Nat) : Int))
  ((0 ≤ v_1 ∧ v_1 < ((t4l : Nat) : Int)) ∧ derefP t4a fun ad => ∃ x0 : Int, ∃ x1 : Int, ∃ x2 : ByteArray, ∃ x3a : Option Addr, ∃ x3l : Nat, ∃ x3c : Nat, ∃ x4a : Option Addr, ∃ x4l : Nat, ∃ x4c : Nat, g2.w.cell? (Addr.add ad (Int.toNat v_1 * 5)) = some (.int .i64 x0) ∧ g2.w.cell? (Addr.add (Addr.add ad (Int.toNat v_1 * 5)) 1) = some (.int .i64 x1) ∧ g2.w.cell? (Addr.add (Addr.add ad (Int.toNat v_1 * 5)) 2) = some (.string x2) ∧ g2.w.cell? (Addr.add (Addr.add ad (Int.toNat v_1 * 5)) 3) = some (.slice x3a x3l x3c) ∧ g2.w.cell? (Addr.add (Addr.add ad (Int.toNat v_1 * 5)) 4) = some (.slice x4a x4l x4c) ∧ ∀ g3 : G, Ex g2 g3 →
  derefP c1 fun ad_1 => ∃ xf : FuncId, ∃ xc : Array Value, g3.w.cell? ad_1 = some (.func (.func xf) #[] xc) ∧ Enters Tryz.prog xf ∧ ∃ M1 : Nat → Prop, (∀ b, b < g.w.heap.size → M1 b → M b) ∧ (CallsG Tryz.prog xf ((⟨[(.agg ⟨[(.int .i64 x0), (.int .i64 x1), (.string x2), (.slice x3a x3l x3c), (.slice x4a x4l x4c)]⟩)]⟩ : Array Value) ++ xc) g3 M1 fun v g4 =>
  v = (.tuple ⟨[]⟩) ∧ InI64 (v_1 + (1 : Int)) ∧ (∃ m_1 : Nat, m_1 < m ∧ Inv m_1 (v_1 + (1 : Int)) g4)))
  (∀ g5 : G, Ex g2 g5 →
  R (.tuple ⟨[]⟩) g5)) → J g1) →
  ifB (ltI (1 : Int) ((t3l : Nat) : Int))
  (∀ g6 : G, Ex g g6 →
  derefP c0 fun ad_2 => ∃ xa : Option Addr, ∃ xl : Nat, ∃ xc_1 : Nat, g6.w.cell? ad_2 = some (.slice xa xl xc_1) ∧ (0 ≤ (0 : Int) ∧ (0 : Int) < ((t3l : Nat) : Int)) ∧ derefP t3a fun ad_3 => ∃ x : ByteArray, g6.w.cell? (Addr.add ad_3 (Int.toNat (0 : Int) * 1)) = some (.string x) ∧ (bs [109, 111, 100, 46]).size + x.size ≤ 9223372036854775807 ∧ ∀ g7 : G, NewL g6 g7 9 [(.string ((bs [109, 111, 100, 46]) ++ x))] →
  ∃ xa_1 : Option Addr, ∃ xl_1 : Nat, ∃ xc_2 : Nat, ∃ wo1 : World, Sem.run Tryz.prog (Builtin.append_ #[22, 22] 22 #[(.slice xa xl xc_1), (.slice (some ⟨g6.w.heap.size, 0, none⟩) 1 1)]) g7.w = .ok (.slice xa_1 xl_1 xc_2) wo1 ∧ ∃ g8 : G, g8.w = wo1 ∧ Stp g.w.heap.size M g7 g8 ∧ derefP c0 fun ad_4 => stOk g8.w ad_4 1 ∧ ¬ g8.X (Addr.block ad_4) ∧ mutAt g8 ad_4 1 ∧ ((Addr.block ad_4) < g.w.heap.size → M (Addr.block ad_4)) ∧ ∀ g9 : G, StG false g8 ad_4 [(.slice xa_1 xl_1 xc_2)] g9 →
  J g9)
  (ifB (eqI ((t3l : Nat) : Int) (1 : Int))
  (∀ g10 : G, Ex g g10 →
  ∀ g11 : G, NewL g10 g11 9 [(.string (bs [118, 97, 108, 46])), (.string (bs [116, 121, 112, 101, 46])), (.string (bs [99, 111, 110, 46])), (.string (bs [109, 111, 100, 46])), (.string (bs [115, 105, 103, 46]))] →
  ∃ Inv_1 : Nat → Int → G → Prop, ((∃ m0 : Nat, Inv_1 m0 (0 : Int) g11)) ∧
  ∀ m_2 : Nat, ∀ v_2 : Int, ∀ g12 : G, Le g11 g12 → Inv_1 m_2 v_2 g12 →
  ifB (ltI v_2 ((5 : Nat) : Int))
  ((0 ≤ v_2 ∧ v_2 < ((5 : Nat) : Int)) ∧ ∃ head : ByteArray, g12.w.cell? (Addr.add ⟨g10.w.heap.size, 0, none⟩ (Int.toNat v_2 * 1)) = some (.string head) ∧ ∀ g13 : G, Ex g12 g13 →
  derefP c0 fun ad_5 => ∃ xa_2 : Option Addr, ∃ xl_2 : Nat, ∃ xc_3 : Nat, g13.w.cell? ad_5 = some (.slice xa_2 xl_2 xc_3) ∧ (0 ≤ (0 : Int) ∧ (0 : Int) < ((t3l : Nat) : Int)) ∧ derefP t3a fun ad_6 => ∃ x_1 : ByteArray, g13.w.cell? (Addr.add ad_6 (Int.toNat (0 : Int) * 1)) = some (.string x_1) ∧ head.size + x_1.size ≤ 9223372036854775807 ∧ ∀ g14 : G, NewL g13 g14 9 [(.string (head ++ x_1))] →
  ∃ xa_3 : Option Addr, ∃ xl_3 : Nat, ∃ xc_4 : Nat, ∃ wo2 : World, Sem.run Tryz.prog (Builtin.append_ #[22, 22] 22 #[(.slice xa_2 xl_2 xc_3), (.slice (some ⟨g13.w.heap.size, 0, none⟩) 1 1)]) g14.w = .ok (.slice xa_3 xl_3 xc_4) wo2 ∧ ∃ g15 : G, g15.w = wo2 ∧ Stp g.w.heap.size M g14 g15 ∧ derefP c0 fun ad_7 => stOk g15.w ad_7 1 ∧ ¬ g15.X (Addr.block ad_7) ∧ mutAt g15 ad_7 1 ∧ ((Addr.block ad_7) < g.w.heap.size → M (Addr.block ad_7)) ∧ ∀ g16 : G, StG false g15 ad_7 [(.slice xa_3 xl_3 xc_4)] g16 →
  InI64 (v_2 + (1 : Int)) ∧ (∃ m_3 : Nat, m_3 < m_2 ∧ Inv_1 m_3 (v_2 + (1 : Int)) g16))
  (J g12))
  (∀ g17 : G, Ex g g17 →
  J g17))
theorem F31_eq (t0 : Int) (t1 : Int) (t2 : ByteArray) (t3a : Option Addr) (t3l : Nat) (t3c : Nat) (t4a : Option Addr) (t4l : Nat) (t4c : Nat) (c0 : Option Addr) (c1 : Option Addr) (g : G) (M : Nat → Prop) (R : Value → G → Prop) : fnG cfg31 51 [] c31 an31 [(.agg ⟨[(.int .i64 t0), (.int .i64 t1), (.string t2), (.slice t3a t3l t3c), (.slice t4a t4l t4c)]⟩), (.pointer c0), (.pointer c1)] g M R = F31 t0 t1 t2 t3a t3l t3c t4a t4l t4c c0 c1 g M R := by kernel_rfl
theorem call31 (t0 : Int) (t1 : Int) (t2 : ByteArray) (t3a : Option Addr) (t3l : Nat) (t3c : Nat) (t4a : Option Addr) (t4l : Nat) (t4c : Nat) (c0 : Option Addr) (c1 : Option Addr) (g : G) (M : Nat → Prop) (R : Value → G → Prop) (hF : F31 t0 t1 t2 t3a t3l t3c t4a t4l t4c c0 c1 g M R) : CallsG Tryz.prog 31 #[(.agg ⟨[(.int .i64 t0), (.int .i64 t1), (.string t2), (.slice t3a t3l t3c), (.slice t4a t4l t4c)]⟩), (.pointer c0), (.pointer c1)] g M R :=
  fn_soundG (c := cfg31) TTok FNSok mixed Tryz.func31 (show Tryz.f31.body = some c31 by kernel_rfl) (show Tryz.f31.ntmps = 51 by kernel_rfl) (show Tryz.f31.results.toList = [] by kernel_rfl) rfl ((F31_eq t0 t1 t2 t3a t3l t3c t4a t4l t4c c0 c1 g M R).mpr hF)

/- 32 slices.IsSorted[[]string,string] -/
noncomputable def c32 : Code := match Tryz.f32.body with
  | some c => c
  | none => .skip
noncomputable def cfg32 : Cfg := ⟨Tryz.prog, TT, FNS, [], [], [], TCH, false, false⟩
def an32 : AnnG := (.seq .leaf (.seq (.seq .leaf (.blk (.loop ⟨[(3, .int .i64)], [], []⟩ (.seq (.seq .leaf (.cond .leaf .leaf)) (.seq (.blk (.seq (.tree 9 (.quiet 0 (.quiet 1 (.quiet 2 (.quiet 3 (.quiet 4 (.quiet 5 (.quiet 6 (.quiet 7 (.quiet 8 .fin)))))))))) (.cond (.seq .leaf .leaf) .leaf))) .leaf))))) (.seq .leaf .leaf)))
def F32 (xa : Option Addr) (xl : Nat) (xc : Nat) (g : G) (R : Value → G → Prop) : Prop :=
  InI64 (((xl : Nat) : Int) - (1 : Int)) ∧ ∃ Inv : Nat → Int → G → Prop, ((∃ m0 : Nat, Inv m0 (((xl : Nat) : Int) - (1 : Int)) g)) ∧
  ∀ m : Nat, ∀ i : Int, ∀ g1 : G, Le g g1 → Inv m i g1 →
  ifB (ltI (0 : Int) i)
  (∀ g2 : G, Ex g1 g2 →
  (0 ≤ i ∧ i < ((xl : Nat) : Int)) ∧ derefP xa fun ad => ∃ x : ByteArray, g2.w.cell? (Addr.add ad (Int.toNat i * 1)) = some (.string x) ∧ InI64 (i - (1 : Int)) ∧ (0 ≤ (i - (1 : Int)) ∧ (i - (1 : Int)) < ((xl : Nat) : Int)) ∧ derefP xa fun ad_1 => ∃ x_1 : ByteArray, g2.w.cell? (Addr.add ad_1 (Int.toNat (i - (1 : Int)) * 1)) = some (.string x_1) ∧ (CallsP Tryz.prog 80 #[(.string x), (.string x_1)] g2 fun v g3 =>
  ∃ x_2 : Bool, v = (.bool x_2) ∧ ifB x_2
  (∀ g4 : G, Ex g3 g4 →
  R (.bool false) g4)
  (InI64 (i - (1 : Int)) ∧ (∃ m_1 : Nat, m_1 < m ∧ Inv m_1 (i - (1 : Int)) g3))))
  (∀ g5 : G, Ex g1 g5 →
  R (.bool true) g5)
theorem F32_eq (xa : Option Addr) (xl : Nat) (xc : Nat) (g : G) (R : Value → G → Prop) : fnG cfg32 21 [.tmp 2] c32 an32 [(.slice xa xl xc)] g nobody R = F32 xa xl xc g R := by kernel_rfl
theorem call32 (xa : Option Addr) (xl : Nat) (xc : Nat) (g : G) (R : Value → G → Prop) (hF : F32 xa xl xc g R) : CallsG Tryz.prog 32 #[(.slice xa xl xc)] g nobody R :=
  fn_soundG (c := cfg32) TTok FNSok mixed Tryz.func32 (show Tryz.f32.body = some c32 by kernel_rfl) (show Tryz.f32.ntmps = 21 by kernel_rfl) (show Tryz.f32.results.toList = [.tmp 2] by kernel_rfl) rfl ((F32_eq xa xl xc g R).mpr hF)

/- 34 pilaster/pilasterlaw07.ScopePaths$2 -/
noncomputable def c34 : Code := match Tryz.f34.body with
  | some c => c
  | none => .skip
noncomputable def cfg34 : Cfg := ⟨Tryz.prog, TT, FNS, [], [], [], TCH, false, false⟩
def an34 : AnnG := (.seq .leaf (.seq .leaf .leaf))
def F34 (s : ByteArray) (c0 : Option Addr) (g : G) (R : Value → G → Prop) : Prop :=
  derefP c0 fun ad => ∃ xa : Option Addr, ∃ xl : Nat, ∃ xc : Nat, g.w.cell? ad = some (.slice xa xl xc) ∧ (CallsP Tryz.prog 19 #[(.slice xa xl xc), (.string s)] g fun v g1 =>
  ∃ x : Bool, v = (.bool x) ∧ ∀ g2 : G, Ex g1 g2 →
  R (.bool (!x)) g2)
theorem F34_eq (s : ByteArray) (c0 : Option Addr) (g : G) (R : Value → G → Prop) : fnG cfg34 8 [.tmp 3] c34 an34 [(.string s), (.pointer c0)] g nobody R = F34 s c0 g R := by kernel_rfl
theorem call34 (s : ByteArray) (c0 : Option Addr) (g : G) (R : Value → G → Prop) (hF : F34 s c0 g R) : CallsG Tryz.prog 34 #[(.string s), (.pointer c0)] g nobody R :=
  fn_soundG (c := cfg34) TTok FNSok mixed Tryz.func34 (show Tryz.f34.body = some c34 by kernel_rfl) (show Tryz.f34.ntmps = 8 by kernel_rfl) (show Tryz.f34.results.toList = [.tmp 3] by kernel_rfl) rfl ((F34_eq s c0 g R).mpr hF)

/- 80 cmp.Less[string] -/
noncomputable def c80 : Code := match Tryz.f80.body with
  | some c => c
  | none => .skip
noncomputable def cfg80 : Cfg := ⟨Tryz.prog, TT, FNS, [], [], [], TCH, false, false⟩
def an80 : AnnG := (.seq .leaf (.seq .leaf .leaf))
def F80 (x : ByteArray) (y : ByteArray) (g : G) (R : Value → G → Prop) : Prop :=
  (CallsP Tryz.prog 115 #[(.string x)] g fun v g1 =>
  ∃ x_1 : Bool, v = (.bool x_1) ∧ ifB x_1
  ((CallsP Tryz.prog 115 #[(.string y)] g1 fun v g2 =>
  ∃ x_2 : Bool, v = (.bool x_2) ∧ ifB (!x_2)
  (∀ g3 : G, Ex g2 g3 →
  R (.bool true) g3)
  (∀ g4 : G, Ex g2 g4 →
  R (.bool (strLt x y)) g4)))
  (∀ g5 : G, Ex g1 g5 →
  R (.bool (strLt x y)) g5))
theorem F80_eq (x : ByteArray) (y : ByteArray) (g : G) (R : Value → G → Prop) : fnG cfg80 17 [.tmp 4] c80 an80 [(.string x), (.string y)] g nobody R = F80 x y g R := by kernel_rfl
theorem call80 (x : ByteArray) (y : ByteArray) (g : G) (R : Value → G → Prop) (hF : F80 x y g R) : CallsG Tryz.prog 80 #[(.string x), (.string y)] g nobody R :=
  fn_soundG (c := cfg80) TTok FNSok mixed Tryz.func80 (show Tryz.f80.body = some c80 by kernel_rfl) (show Tryz.f80.ntmps = 17 by kernel_rfl) (show Tryz.f80.results.toList = [.tmp 4] by kernel_rfl) rfl ((F80_eq x y g R).mpr hF)

/- 115 cmp.isNaN[string] -/
noncomputable def c115 : Code := match Tryz.f115.body with
  | some c => c
  | none => .skip
noncomputable def cfg115 : Cfg := ⟨Tryz.prog, TT, FNS, [], [], [], TCH, false, false⟩
def an115 : AnnG := (.seq .leaf (.seq .leaf .leaf))
def F115 (x : ByteArray) (g : G) (R : Value → G → Prop) : Prop :=
  ∀ g1 : G, Ex g g1 →
  R (.bool (!strEq x x)) g1
theorem F115_eq (x : ByteArray) (g : G) (R : Value → G → Prop) : fnG cfg115 6 [.tmp 2] c115 an115 [(.string x)] g nobody R = F115 x g R := by kernel_rfl
theorem call115 (x : ByteArray) (g : G) (R : Value → G → Prop) (hF : F115 x g R) : CallsG Tryz.prog 115 #[(.string x)] g nobody R :=
  fn_soundG (c := cfg115) TTok FNSok mixed Tryz.func115 (show Tryz.f115.body = some c115 by kernel_rfl) (show Tryz.f115.ntmps = 6 by kernel_rfl) (show Tryz.f115.results.toList = [.tmp 2] by kernel_rfl) rfl ((F115_eq x g R).mpr hF)
end Go.Proofs.YtkocjbgdmocmlaaGreatDoor.PL7
