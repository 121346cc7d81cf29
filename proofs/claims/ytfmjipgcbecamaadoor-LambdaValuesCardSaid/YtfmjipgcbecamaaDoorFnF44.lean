/- Printed by a program (wip/tools/gen2.py): for each function its condition as a plain formula, and that the formula gives the call. -/
import Derived.Test.YtfmjipgcbecamaaDoorProg
import Derived.Test.YtfmjipgcbecamaaDoorVda
namespace Go.Proofs.YtfmjipgcbecamaaDoor.PF
open Go Go.Vc Go.RowKit
set_option maxRecDepth 100000
set_option linter.unusedVariables false
def TT : List TI := [
  ⟨0, .tuple #[], 1, 0, some (.tuple ⟨[]⟩), (.tup [])⟩,
  ⟨3, .int .i64, 1, 8, some (.int .i64 (0 : Int)), (.e (.one (.int .i64)))⟩,
  ⟨4, .bool, 1, 1, some (.bool false), (.e (.one (.bool)))⟩,
  ⟨22, .slice 24, 1, 24, some (.slice none 0 0), (.e (.one (.sl)))⟩,
  ⟨24, .struct #[{ name := "Op", type := 3, offset := 0, embedded := false, tag := "", pkgPath := "", byteOffset := 0 }, { name := "N", type := 3, offset := 1, embedded := false, tag := "", pkgPath := "", byteOffset := 8 }, { name := "S", type := 9, offset := 2, embedded := false, tag := "", pkgPath := "", byteOffset := 16 }, { name := "L", type := 22, offset := 3, embedded := false, tag := "", pkgPath := "", byteOffset := 32 }], 4, 56, some (.agg ⟨[(.int .i64 (0 : Int)), (.int .i64 (0 : Int)), (.string (bs [])), (.slice none 0 0)]⟩), (.e (.agg [(.int .i64), (.int .i64), (.str), (.sl)]))⟩,
  ⟨36, .slice 3, 1, 24, some (.slice none 0 0), (.e (.one (.sl)))⟩,
  ⟨72, .map 3 4, 1, 8, some (.map none), (.e (.one (.map)))⟩]
theorem TTok : TOk Tryd.prog TT := tok_of (by kernel_rfl)
def FNS : List Nat := [27, 41, 42, 57]
theorem FNSok : FOk Tryd.prog FNS := fok_of (by kernel_rfl)
theorem mixed : Tryd.prog.follows .mixedOrders = true := by kernel_rfl
def TCH : List Nat := [41, 42]
def PNF : List Nat := []

/- 24 pilaster/lambda.Free -/
noncomputable def c24 : Code := match Tryd.f24.body with
  | some c => c
  | none => .skip
noncomputable def cfg24 : Cfg := ⟨Tryd.prog, TT, FNS, [1], [(1, 1), (1000015, 72)], [], TCH, false, false, none, PNF, false⟩
def an24 : AnnG := (.seq .leaf (.seq (.seq .leaf (.cond (.seq .leaf .leaf) .leaf)) (.seq .leaf (.seq .leaf (.seq .leaf (.seq (.seq .leaf (.blk (.loop ⟨[(5, .sl)], [], []⟩ (.seq .leaf (.seq (.cond .leaf .leaf) (.blk (.seq .leaf .leaf))))))) (.seq .leaf (.seq .leaf .leaf))))))))
def F24 (x0 : Int) (x1 : Int) (x2 : ByteArray) (x3a : Option Addr) (x3l : Nat) (x3c : Nat) (g : G) (R : Value → G → Prop) : Prop :=
  ∀ g1 : G, Ex g g1 →
  (CallsP Tryd.prog 27 #[(.agg ⟨[(.int .i64 x0), (.int .i64 x1), (.string x2), (.slice x3a x3l x3c)]⟩)] g1 fun v g2 =>
  ∃ x : Bool, v = (.bool x) ∧ ifB (!x)
  (∀ g3 : G, Ex g2 g3 →
  R (.tuple ⟨[(.slice none 0 0), (.int .i64 (1 : Int))]⟩) g3)
  (∀ g4 : G, NewM g2 g4 →
  ∃ M3 : Nat → Prop, (∀ b, b < g.w.heap.size → M3 b → nobody b) ∧ (CallsG Tryd.prog 41 #[(.map (some g2.w.heap.size)), (.agg ⟨[(.int .i64 x0), (.int .i64 x1), (.string x2), (.slice x3a x3l x3c)]⟩), (.int .i64 (0 : Int))] g4 M3 fun v g5 =>
  v = (.tuple ⟨[]⟩) ∧ ∃ x_1 : Option Addr, ∃ wo1 : World, Sem.run Tryd.prog (Instr.range 72 (.map (some g2.w.heap.size))) g5.w = .ok (.pointer x_1) wo1 ∧ ∃ g6 : G, g6.w = wo1 ∧ Stp g.w.heap.size nobody g5 g6 ∧ ∃ Inv : Nat → Option Addr → Nat → Nat → G → Prop, ((∃ m0 : Nat, Inv m0 none 0 0 g6)) ∧
  ∀ m : Nat, ∀ outa : Option Addr, ∀ outl : Nat, ∀ outc : Nat, ∀ g7 : G, Le g6 g7 → Inv m outa outl outc g7 →
  (∃ wo2 : World, Sem.run Tryd.prog (Instr.next (.pointer x_1) false 0) g7.w = .ok (.tuple ⟨[(.bool false)]⟩) wo2 ∧ ∃ g8 : G, g8.w = wo2 ∧ Stp g.w.heap.size nobody g7 g8 ∧ ∃ M1 : Nat → Prop, (∀ b, b < g.w.heap.size → M1 b → nobody b) ∧ (CallsG Tryd.prog 42 #[(.slice outa outl outc)] g8 M1 fun v g9 =>
  v = (.tuple ⟨[]⟩) ∧ ∀ g10 : G, Ex g9 g10 →
  R (.tuple ⟨[(.slice outa outl outc), (.int .i64 (0 : Int))]⟩) g10)) ∨
  (∃ x0_1 : Bool, ∃ x1_1 : Int, ∃ x2_1 : Bool, ∃ wo3 : World, Sem.run Tryd.prog (Instr.next (.pointer x_1) false 0) g7.w = .ok (.tuple ⟨[(.bool x0_1), (.int .i64 x1_1), (.bool x2_1)]⟩) wo3 ∧ ∃ g11 : G, g11.w = wo3 ∧ Stp g.w.heap.size nobody g7 g11 ∧ ifB x0_1
  (∃ x0_2 : Int, ∃ x1_2 : Bool, ∃ wo4 : World, Sem.run Tryd.prog (Instr.entry (.pointer x_1)) g11.w = .ok (.tuple ⟨[(.int .i64 x0_2), (.bool x1_2)]⟩) wo4 ∧ ∃ g12 : G, g12.w = wo4 ∧ Stp g.w.heap.size nobody g11 g12 ∧ ∀ g13 : G, NewL g12 g13 3 [(.int .i64 x0_2)] →
  ∃ outa_1 : Option Addr, ∃ outl_1 : Nat, ∃ outc_1 : Nat, ∃ wo5 : World, Sem.run Tryd.prog (Builtin.append_ #[36, 36] 36 #[(.slice outa outl outc), (.slice (some ⟨g12.w.heap.size, 0, none⟩) 1 1)]) g13.w = .ok (.slice outa_1 outl_1 outc_1) wo5 ∧ ∃ g14 : G, g14.w = wo5 ∧ Stp g.w.heap.size nobody g13 g14 ∧ (∃ m_1 : Nat, m_1 < m ∧ Inv m_1 outa_1 outl_1 outc_1 g14))
  (∃ M2 : Nat → Prop, (∀ b, b < g.w.heap.size → M2 b → nobody b) ∧ (CallsG Tryd.prog 42 #[(.slice outa outl outc)] g11 M2 fun v g15 =>
  v = (.tuple ⟨[]⟩) ∧ ∀ g16 : G, Ex g15 g16 →
  R (.tuple ⟨[(.slice outa outl outc), (.int .i64 (0 : Int))]⟩) g16))))))
theorem F24_eq (x0 : Int) (x1 : Int) (x2 : ByteArray) (x3a : Option Addr) (x3l : Nat) (x3c : Nat) (g : G) (R : Value → G → Prop) : fnG cfg24 27 [.tmp 2, .tmp 3] c24 an24 [(.agg ⟨[(.int .i64 x0), (.int .i64 x1), (.string x2), (.slice x3a x3l x3c)]⟩)] g nobody R = F24 x0 x1 x2 x3a x3l x3c g R := by kernel_rfl
theorem call24 (x0 : Int) (x1 : Int) (x2 : ByteArray) (x3a : Option Addr) (x3l : Nat) (x3c : Nat) (g : G) (R : Value → G → Prop) (hF : F24 x0 x1 x2 x3a x3l x3c g R) : CallsG Tryd.prog 24 #[(.agg ⟨[(.int .i64 x0), (.int .i64 x1), (.string x2), (.slice x3a x3l x3c)]⟩)] g nobody R :=
  fn_soundG (c := cfg24) TTok FNSok mixed Tryd.func24 (show Tryd.f24.body = some c24 by kernel_rfl) (show Tryd.f24.ntmps = 27 by kernel_rfl) (show Tryd.f24.results.toList = [.tmp 2, .tmp 3] by kernel_rfl) rfl ((F24_eq x0 x1 x2 x3a x3l x3c g R ).mpr hF)

/- 41 pilaster/lambda.collect -/
noncomputable def c41 : Code := match Tryd.f41.body with
  | some c => c
  | none => .skip
noncomputable def cfg41 : Cfg := ⟨Tryd.prog, TT, FNS, [4, 7], [(4, 4), (7, 7), (9, 4), (13, 4), (19, 4), (23, 4)], [], TCH, false, false, none, PNF, false⟩
def an41 : AnnG := (.seq .leaf (.join ⟨[], [], []⟩ (.seq .leaf (.cond .leaf .leaf)) (.seq .leaf (.blk (.loop ⟨[(26, .int .i64)], [], []⟩ (.seq .leaf (.seq (.cond .leaf .leaf) (.seq (.blk (.seq .leaf (.seq .leaf (.seq (.seq .leaf (.cond .leaf .leaf)) .leaf)))) .leaf))))))))
def F41 (m : Option Nat) (x0 : Int) (x1 : Int) (x2 : ByteArray) (x3a : Option Addr) (x3l : Nat) (x3c : Nat) (depth : Int) (g : G) (M : Nat → Prop) (R : Value → G → Prop) : Prop :=
  ∀ J : G → Prop,
  (∀ g1 : G, (∃ Inv : Nat → Int → G → Prop, ((∃ m0 : Nat, Inv m0 (0 : Int) g1)) ∧
  ∀ m_1 : Nat, ∀ v_1 : Int, ∀ g2 : G, Le g1 g2 → Inv m_1 v_1 g2 →
  ifB (ltI v_1 ((x3l : Nat) : Int))
  ((0 ≤ v_1 ∧ v_1 < ((x3l : Nat) : Int)) ∧ derefP x3a fun ad => ∃ x0_1 : Int, ∃ x1_1 : Int, ∃ x2_1 : ByteArray, ∃ x3a_1 : Option Addr, ∃ x3l_1 : Nat, ∃ x3c_1 : Nat, g2.w.cell? (Addr.add ad (Int.toNat v_1 * 4)) = some (.int .i64 x0_1) ∧ g2.w.cell? (Addr.add (Addr.add ad (Int.toNat v_1 * 4)) 1) = some (.int .i64 x1_1) ∧ g2.w.cell? (Addr.add (Addr.add ad (Int.toNat v_1 * 4)) 2) = some (.string x2_1) ∧ g2.w.cell? (Addr.add (Addr.add ad (Int.toNat v_1 * 4)) 3) = some (.slice x3a_1 x3l_1 x3c_1) ∧ ∀ g3 : G, Ex g2 g3 →
  (CallsP Tryd.prog 57 #[(.agg ⟨[(.int .i64 x0), (.int .i64 x1), (.string x2), (.slice x3a x3l x3c)]⟩), (.int .i64 v_1)] g3 fun v g4 =>
  ∃ x : Bool, v = (.bool x) ∧ ifB x
  (InI64 (depth + (1 : Int)) ∧ ∃ M1 : Nat → Prop, (∀ b, b < g.w.heap.size → M1 b → M b) ∧ (CallsG Tryd.prog 41 #[(.map m), (.agg ⟨[(.int .i64 x0_1), (.int .i64 x1_1), (.string x2_1), (.slice x3a_1 x3l_1 x3c_1)]⟩), (.int .i64 (depth + (1 : Int)))] g4 M1 fun v g5 =>
  v = (.tuple ⟨[]⟩) ∧ InI64 (v_1 + (1 : Int)) ∧ (∃ m_2 : Nat, m_2 < m_1 ∧ Inv m_2 (v_1 + (1 : Int)) g5)))
  (∃ M2 : Nat → Prop, (∀ b, b < g.w.heap.size → M2 b → M b) ∧ (CallsG Tryd.prog 41 #[(.map m), (.agg ⟨[(.int .i64 x0_1), (.int .i64 x1_1), (.string x2_1), (.slice x3a_1 x3l_1 x3c_1)]⟩), (.int .i64 depth)] g4 M2 fun v g6 =>
  v = (.tuple ⟨[]⟩) ∧ InI64 (v_1 + (1 : Int)) ∧ (∃ m_2 : Nat, m_2 < m_1 ∧ Inv m_2 (v_1 + (1 : Int)) g6)))))
  (∀ g7 : G, Ex g2 g7 →
  R (.tuple ⟨[]⟩) g7)) → J g1) →
  ifB (eqI x0 (1 : Int))
  (ifB (leI depth x1)
  (InI64 (x1 - depth) ∧ ∀ g8 : G, Ex g g8 →
  ∃ wo1 : World, Sem.run Tryd.prog (Instr.mapUpdate 72 (.map m) (.int .i64 (x1 - depth)) (.bool true)) g8.w = .ok () wo1 ∧ ∃ g9 : G, g9.w = wo1 ∧ Stp g.w.heap.size M g8 g9 ∧ J g9)
  (∀ g10 : G, Ex g g10 →
  J g10))
  (∀ g11 : G, Ex g g11 →
  J g11)
theorem F41_eq (m : Option Nat) (x0 : Int) (x1 : Int) (x2 : ByteArray) (x3a : Option Addr) (x3l : Nat) (x3c : Nat) (depth : Int) (g : G) (M : Nat → Prop) (R : Value → G → Prop) : fnG cfg41 42 [] c41 an41 [(.map m), (.agg ⟨[(.int .i64 x0), (.int .i64 x1), (.string x2), (.slice x3a x3l x3c)]⟩), (.int .i64 depth)] g M R = F41 m x0 x1 x2 x3a x3l x3c depth g M R := by kernel_rfl
theorem call41 (m : Option Nat) (x0 : Int) (x1 : Int) (x2 : ByteArray) (x3a : Option Addr) (x3l : Nat) (x3c : Nat) (depth : Int) (g : G) (M : Nat → Prop) (R : Value → G → Prop) (hF : F41 m x0 x1 x2 x3a x3l x3c depth g M R) : CallsG Tryd.prog 41 #[(.map m), (.agg ⟨[(.int .i64 x0), (.int .i64 x1), (.string x2), (.slice x3a x3l x3c)]⟩), (.int .i64 depth)] g M R :=
  fn_soundG (c := cfg41) TTok FNSok mixed Tryd.func41 (show Tryd.f41.body = some c41 by kernel_rfl) (show Tryd.f41.ntmps = 42 by kernel_rfl) (show Tryd.f41.results.toList = [] by kernel_rfl) rfl ((F41_eq m x0 x1 x2 x3a x3l x3c depth g M R ).mpr hF)
end Go.Proofs.YtfmjipgcbecamaaDoor.PF
