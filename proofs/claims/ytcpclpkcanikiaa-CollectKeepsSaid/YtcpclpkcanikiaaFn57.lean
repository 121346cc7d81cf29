/- Printed by a program (wip/tools/gen2.py): for each function its condition as a plain formula, and that the formula gives the call. -/
import Derived.Test.YtcpclpkcanikiaaProg
import Derived.Test.YtcpclpkcanikiaaVda
namespace Go.Proofs.Ytcpclpkcanikiaa.P57
open Go Go.Vc Go.RowKit
set_option maxRecDepth 100000
set_option linter.unusedVariables false
def TT : List TI := [
  ⟨0, .tuple #[], 1, 0, some (.tuple ⟨[]⟩), (.tup [])⟩,
  ⟨3, .int .i64, 1, 8, some (.int .i64 (0 : Int)), (.e (.one (.int .i64)))⟩,
  ⟨22, .slice 41, 1, 24, some (.slice none 0 0), (.e (.one (.sl)))⟩,
  ⟨24, .struct #[{ name := "Words", type := 22, offset := 0, embedded := false, tag := "", pkgPath := "", byteOffset := 0 }, { name := "Free", type := 3, offset := 1, embedded := false, tag := "", pkgPath := "", byteOffset := 24 }, { name := "Limit", type := 3, offset := 2, embedded := false, tag := "", pkgPath := "", byteOffset := 32 }], 3, 40, some (.agg ⟨[(.slice none 0 0), (.int .i64 (0 : Int)), (.int .i64 (0 : Int))]⟩), (.e (.agg [(.sl), (.int .i64), (.int .i64)]))⟩,
  ⟨27, .int .i64, 1, 8, some (.int .i64 (0 : Int)), (.e (.one (.int .i64)))⟩,
  ⟨55, .slice 3, 1, 24, some (.slice none 0 0), (.e (.one (.sl)))⟩,
  ⟨110, .tuple #[109, 27], 1, 0, some (.tuple ⟨[(.map none), (.int .i64 (0 : Int))]⟩), (.tup [(.one (.map)), (.one (.int .i64))])⟩,
  ⟨113, .tuple #[112, 22], 1, 0, some (.tuple ⟨[(.pointer none), (.slice none 0 0)]⟩), (.tup [(.one (.ptr)), (.one (.sl))])⟩,
  ⟨115, .map 3 3, 1, 8, some (.map none), (.e (.one (.map)))⟩,
  ⟨117, .struct #[{ name := "from", type := 24, offset := 0, embedded := false, tag := "", pkgPath := "pilaster/collect", byteOffset := 0 }, { name := "to", type := 24, offset := 3, embedded := false, tag := "", pkgPath := "pilaster/collect", byteOffset := 40 }, { name := "copies", type := 115, offset := 6, embedded := false, tag := "", pkgPath := "pilaster/collect", byteOffset := 80 }], 7, 88, some (.agg ⟨[(.slice none 0 0), (.int .i64 (0 : Int)), (.int .i64 (0 : Int)), (.slice none 0 0), (.int .i64 (0 : Int)), (.int .i64 (0 : Int)), (.map none)]⟩), (.e (.agg [(.sl), (.int .i64), (.int .i64), (.sl), (.int .i64), (.int .i64), (.map)]))⟩]
theorem TTok : TOk Try.prog TT := tok_of (by kernel_rfl)
def FNS : List Nat := [83, 84, 92]
theorem FNSok : FOk Try.prog FNS := fok_of (by kernel_rfl)
theorem mixed : Try.prog.follows .mixedOrders = true := by kernel_rfl
def TCH : List Nat := [92]

/- 57 pilaster/collect.Reachable -/
noncomputable def c57 : Code := match Try.f57.body with
  | some c => c
  | none => .skip
noncomputable def cfg57 : Cfg := ⟨Try.prog, TT, FNS, [2], [(2, 2), (1000031, 115)], [], TCH, false, false⟩
def an57 : AnnG := (.seq .leaf (.seq (.seq .leaf (.seq .leaf (.cond (.seq .leaf .leaf) .leaf))) (.seq .leaf (.seq .leaf (.seq (.seq .leaf (.blk (.loop ⟨[(10, .sl)], [], []⟩ (.seq .leaf (.seq (.cond .leaf .leaf) (.blk (.seq .leaf .leaf))))))) (.seq .leaf (.seq .leaf .leaf)))))))
def F57 (h0a : Option Addr) (h0l : Nat) (h0c : Nat) (h1 : Int) (h2 : Int) (rootsa : Option Addr) (rootsl : Nat) (rootsc : Nat) (g : G) (R : Value → G → Prop) : Prop :=
  ∀ g1 : G, Ex g g1 →
  (CallsP Try.prog 83 #[(.agg ⟨[(.slice h0a h0l h0c), (.int .i64 h1), (.int .i64 h2)]⟩), (.slice rootsa rootsl rootsc)] g1 fun v g2 =>
  ∃ x0 : Option Nat, ∃ x1 : Int, v = (.tuple ⟨[(.map x0), (.int .i64 x1)]⟩) ∧ ifB (!eqI x1 (0 : Int))
  (∀ g3 : G, Ex g2 g3 →
  R (.tuple ⟨[(.slice none 0 0), (.int .i64 x1)]⟩) g3)
  ((CallsP Try.prog 84 #[(.agg ⟨[(.slice h0a h0l h0c), (.int .i64 h1), (.int .i64 h2)]⟩), (.slice rootsa rootsl rootsc)] g2 fun v g4 =>
  ∃ x0_1 : Option Addr, ∃ x1a : Option Addr, ∃ x1l : Nat, ∃ x1c : Nat, v = (.tuple ⟨[(.pointer x0_1), (.slice x1a x1l x1c)]⟩) ∧ derefP x0_1 fun ad => ∃ x : Option Nat, g4.w.cell? (Addr.add ad 6) = some (.map x) ∧ ∃ x_1 : Option Addr, ∃ wo1 : World, Sem.run Try.prog (Instr.range 115 (.map x)) g4.w = .ok (.pointer x_1) wo1 ∧ ∃ g5 : G, g5.w = wo1 ∧ Stp g.w.heap.size nobody g4 g5 ∧ ∃ Inv : Nat → Option Addr → Nat → Nat → G → Prop, ((∃ m0 : Nat, Inv m0 none 0 0 g5)) ∧
  ∀ m : Nat, ∀ outa : Option Addr, ∀ outl : Nat, ∀ outc : Nat, ∀ g6 : G, Le g5 g6 → Inv m outa outl outc g6 →
  (∃ wo2 : World, Sem.run Try.prog (Instr.next (.pointer x_1) false 0) g6.w = .ok (.tuple ⟨[(.bool false)]⟩) wo2 ∧ ∃ g7 : G, g7.w = wo2 ∧ Stp g.w.heap.size nobody g6 g7 ∧ ∃ M1 : Nat → Prop, (∀ b, b < g.w.heap.size → M1 b → nobody b) ∧ (CallsG Try.prog 92 #[(.slice outa outl outc)] g7 M1 fun v g8 =>
  v = (.tuple ⟨[]⟩) ∧ ∀ g9 : G, Ex g8 g9 →
  R (.tuple ⟨[(.slice outa outl outc), (.int .i64 (0 : Int))]⟩) g9)) ∨
  (∃ x0_2 : Bool, ∃ x1_1 : Int, ∃ x2 : Int, ∃ wo3 : World, Sem.run Try.prog (Instr.next (.pointer x_1) false 0) g6.w = .ok (.tuple ⟨[(.bool x0_2), (.int .i64 x1_1), (.int .i64 x2)]⟩) wo3 ∧ ∃ g10 : G, g10.w = wo3 ∧ Stp g.w.heap.size nobody g6 g10 ∧ ifB x0_2
  (∃ x0_3 : Int, ∃ x1_2 : Int, ∃ wo4 : World, Sem.run Try.prog (Instr.entry (.pointer x_1)) g10.w = .ok (.tuple ⟨[(.int .i64 x0_3), (.int .i64 x1_2)]⟩) wo4 ∧ ∃ g11 : G, g11.w = wo4 ∧ Stp g.w.heap.size nobody g10 g11 ∧ ∀ g12 : G, NewL g11 g12 3 [(.int .i64 x0_3)] →
  ∃ outa_1 : Option Addr, ∃ outl_1 : Nat, ∃ outc_1 : Nat, ∃ wo5 : World, Sem.run Try.prog (Builtin.append_ #[55, 55] 55 #[(.slice outa outl outc), (.slice (some ⟨g11.w.heap.size, 0, none⟩) 1 1)]) g12.w = .ok (.slice outa_1 outl_1 outc_1) wo5 ∧ ∃ g13 : G, g13.w = wo5 ∧ Stp g.w.heap.size nobody g12 g13 ∧ (∃ m_1 : Nat, m_1 < m ∧ Inv m_1 outa_1 outl_1 outc_1 g13))
  (∃ M2 : Nat → Prop, (∀ b, b < g.w.heap.size → M2 b → nobody b) ∧ (CallsG Try.prog 92 #[(.slice outa outl outc)] g10 M2 fun v g14 =>
  v = (.tuple ⟨[]⟩) ∧ ∀ g15 : G, Ex g14 g15 →
  R (.tuple ⟨[(.slice outa outl outc), (.int .i64 (0 : Int))]⟩) g15))))))
theorem F57_eq (h0a : Option Addr) (h0l : Nat) (h0c : Nat) (h1 : Int) (h2 : Int) (rootsa : Option Addr) (rootsl : Nat) (rootsc : Nat) (g : G) (R : Value → G → Prop) : fnG cfg57 43 [.tmp 4, .tmp 5] c57 an57 [(.agg ⟨[(.slice h0a h0l h0c), (.int .i64 h1), (.int .i64 h2)]⟩), (.slice rootsa rootsl rootsc)] g nobody R = F57 h0a h0l h0c h1 h2 rootsa rootsl rootsc g R := by kernel_rfl
theorem call57 (h0a : Option Addr) (h0l : Nat) (h0c : Nat) (h1 : Int) (h2 : Int) (rootsa : Option Addr) (rootsl : Nat) (rootsc : Nat) (g : G) (R : Value → G → Prop) (hF : F57 h0a h0l h0c h1 h2 rootsa rootsl rootsc g R) : CallsG Try.prog 57 #[(.agg ⟨[(.slice h0a h0l h0c), (.int .i64 h1), (.int .i64 h2)]⟩), (.slice rootsa rootsl rootsc)] g nobody R :=
  fn_soundG (c := cfg57) TTok FNSok mixed Try.func57 (show Try.f57.body = some c57 by kernel_rfl) (show Try.f57.ntmps = 43 by kernel_rfl) (show Try.f57.results.toList = [.tmp 4, .tmp 5] by kernel_rfl) rfl ((F57_eq h0a h0l h0c h1 h2 rootsa rootsl rootsc g R).mpr hF)
end Go.Proofs.Ytcpclpkcanikiaa.P57
