/- Printed by a program (wip/tools/gen2.py): for each function its condition as a plain formula, and that the formula gives the call. -/
import Derived.Test.YtfmjipgcbecamaaDoorProg
import Derived.Test.YtfmjipgcbecamaaDoorVda
namespace Go.Proofs.YtfmjipgcbecamaaDoor.PB
open Go Go.Vc Go.RowKit
set_option maxRecDepth 100000
set_option linter.unusedVariables false
def TT : List TI := [
  ⟨0, .tuple #[], 1, 0, some (.tuple ⟨[]⟩), (.tup [])⟩,
  ⟨3, .int .i64, 1, 8, some (.int .i64 (0 : Int)), (.e (.one (.int .i64)))⟩,
  ⟨9, .string, 1, 16, some (.string (bs [])), (.e (.one (.str)))⟩,
  ⟨22, .slice 24, 1, 24, some (.slice none 0 0), (.e (.one (.sl)))⟩,
  ⟨24, .struct #[{ name := "Op", type := 3, offset := 0, embedded := false, tag := "", pkgPath := "", byteOffset := 0 }, { name := "N", type := 3, offset := 1, embedded := false, tag := "", pkgPath := "", byteOffset := 8 }, { name := "S", type := 9, offset := 2, embedded := false, tag := "", pkgPath := "", byteOffset := 16 }, { name := "L", type := 22, offset := 3, embedded := false, tag := "", pkgPath := "", byteOffset := 32 }], 4, 56, some (.agg ⟨[(.int .i64 (0 : Int)), (.int .i64 (0 : Int)), (.string (bs [])), (.slice none 0 0)]⟩), (.e (.agg [(.int .i64), (.int .i64), (.str), (.sl)]))⟩,
  ⟨55, .func #[24, 3] #[] false, 1, 8, some .nilFunc, (.e (.one (.fn)))⟩]
theorem TTok : TOk Tryd.prog TT := tok_of (by kernel_rfl)
def FNS : List Nat := []
theorem FNSok : FOk Tryd.prog FNS := fok_of (by kernel_rfl)
theorem mixed : Tryd.prog.follows .mixedOrders = true := by kernel_rfl
def TCH : List Nat := [32]
def PNF : List Nat := []

/- 10 pilaster/pilasterlaw44.big -/
noncomputable def c10 : Code := match Tryd.f10.body with
  | some c => c
  | none => .skip
noncomputable def cfg10 : Cfg := ⟨Tryd.prog, TT, FNS, [1], [(1, 1)], [4], TCH, true, false, none, PNF, false⟩
def an10 : AnnG := (.seq .leaf (.seq .leaf (.seq .leaf (.seq .leaf (.seq .leaf (.seq .leaf .leaf))))))
def F10 (x0 : Int) (x1 : Int) (x2 : ByteArray) (x3a : Option Addr) (x3l : Nat) (x3c : Nat) (g : G) (R : Value → G → Prop) : Prop :=
  ∀ g1 : G, Ex g g1 →
  ∀ g2 : G, NewD g1 g2 3 [(.int .i64 (0 : Int))] →
  stOk g2.w ⟨g1.w.heap.size, 0, none⟩ 1 ∧ ¬ g2.X (Addr.block ⟨g1.w.heap.size, 0, none⟩) ∧ mutAt g2 ⟨g1.w.heap.size, 0, none⟩ 1 ∧ ((Addr.block ⟨g1.w.heap.size, 0, none⟩) < g.w.heap.size → nobody (Addr.block ⟨g1.w.heap.size, 0, none⟩)) ∧ ∀ g3 : G, StG false g2 ⟨g1.w.heap.size, 0, none⟩ [(.int .i64 (0 : Int))] g3 →
  ∀ g4 : G, NewD g3 g4 55 [.nilFunc] →
  stOk g4.w ⟨g3.w.heap.size, 0, none⟩ 1 ∧ ¬ g4.X (Addr.block ⟨g3.w.heap.size, 0, none⟩) ∧ mutAt g4 ⟨g3.w.heap.size, 0, none⟩ 1 ∧ ((Addr.block ⟨g3.w.heap.size, 0, none⟩) < g.w.heap.size → nobody (Addr.block ⟨g3.w.heap.size, 0, none⟩)) ∧ ∀ g5 : G, StG true g4 ⟨g3.w.heap.size, 0, none⟩ [(.func (.func 32) #[] ⟨[(.pointer (some ⟨g1.w.heap.size, 0, none⟩)), (.pointer (some ⟨g3.w.heap.size, 0, none⟩))]⟩)] g5 →
  ∃ walkf : FuncId, ∃ walkc : Array Value, g5.w.cell? ⟨g3.w.heap.size, 0, none⟩ = some (.func (.func walkf) #[] walkc) ∧ Enters Tryd.prog walkf ∧ ∃ M1 : Nat → Prop, (∀ b, b < g.w.heap.size → M1 b → nobody b) ∧ (CallsG Tryd.prog walkf ((⟨[(.agg ⟨[(.int .i64 x0), (.int .i64 x1), (.string x2), (.slice x3a x3l x3c)]⟩), (.int .i64 (1 : Int))]⟩ : Array Value) ++ walkc) g5 M1 fun v g6 =>
  v = (.tuple ⟨[]⟩) ∧ ∃ n : Int, g6.w.cell? ⟨g1.w.heap.size, 0, none⟩ = some (.int .i64 n) ∧ ∀ g7 : G, Ex g6 g7 →
  R (.bool (ltI (200 : Int) n)) g7)
theorem F10_eq (x0 : Int) (x1 : Int) (x2 : ByteArray) (x3a : Option Addr) (x3l : Nat) (x3c : Nat) (g : G) (R : Value → G → Prop) : fnG cfg10 11 [.tmp 2] c10 an10 [(.agg ⟨[(.int .i64 x0), (.int .i64 x1), (.string x2), (.slice x3a x3l x3c)]⟩)] g nobody R = F10 x0 x1 x2 x3a x3l x3c g R := by kernel_rfl
theorem call10 (x0 : Int) (x1 : Int) (x2 : ByteArray) (x3a : Option Addr) (x3l : Nat) (x3c : Nat) (g : G) (R : Value → G → Prop) (hF : F10 x0 x1 x2 x3a x3l x3c g R) : CallsG Tryd.prog 10 #[(.agg ⟨[(.int .i64 x0), (.int .i64 x1), (.string x2), (.slice x3a x3l x3c)]⟩)] g nobody R :=
  fn_soundG (c := cfg10) TTok FNSok mixed Tryd.func10 (show Tryd.f10.body = some c10 by kernel_rfl) (show Tryd.f10.ntmps = 11 by kernel_rfl) (show Tryd.f10.results.toList = [.tmp 2] by kernel_rfl) rfl ((F10_eq x0 x1 x2 x3a x3l x3c g R ).mpr hF)

/- 32 pilaster/pilasterlaw44.big$1 -/
noncomputable def c32 : Code := match Tryd.f32.body with
  | some c => c
  | none => .skip
noncomputable def cfg32 : Cfg := ⟨Tryd.prog, TT, FNS, [4], [(4, 4), (12, 4), (18, 4), (23, 4), (30, 4), (36, 4), (47, 4)], [], TCH, true, false, none, PNF, false⟩
def an32 : AnnG := (.seq .leaf (.seq .leaf (.join ⟨[], [], []⟩ (.seq .leaf (.cond .leaf .leaf)) (.seq .leaf (.blk (.loop ⟨[(6, .int .i64)], [], []⟩ (.join ⟨[], [], []⟩ (.seq .leaf (.cond .leaf .leaf)) (.seq (.blk (.tree 8 (.quiet 0 (.quiet 1 (.quiet 2 (.quiet 3 (.quiet 4 (.quiet 5 (.quiet 6 (.quiet 7 .fin)))))))))) .leaf))))))))
def F32 (x0 : Int) (x1 : Int) (x2 : ByteArray) (x3a : Option Addr) (x3l : Nat) (x3c : Nat) (depth : Int) (c0 : Option Addr) (c1 : Option Addr) (g : G) (M : Nat → Prop) (R : Value → G → Prop) : Prop :=
  ∀ g1 : G, Ex g g1 →
  derefP c0 fun ad => ∃ x : Int, g1.w.cell? ad = some (.int .i64 x) ∧ InI64 (x + (1 : Int)) ∧ derefP c0 fun ad_1 => stOk g1.w ad_1 1 ∧ ¬ g1.X (Addr.block ad_1) ∧ mutAt g1 ad_1 1 ∧ ((Addr.block ad_1) < g.w.heap.size → M (Addr.block ad_1)) ∧ ∀ g2 : G, StG false g1 ad_1 [(.int .i64 (x + (1 : Int)))] g2 →
  ∀ J : G → Prop,
  (∀ g3 : G, (∃ Inv : Nat → Int → G → Prop, ((∃ m0 : Nat, Inv m0 (0 : Int) g3)) ∧
  ∀ m : Nat, ∀ i : Int, ∀ g4 : G, Le g3 g4 → Inv m i g4 →
  ∀ J_1 : G → Prop,
  (∀ g5 : G, (∀ g6 : G, Ex g5 g6 →
  derefP c1 fun ad_2 => ∃ xf : FuncId, ∃ xc : Array Value, g6.w.cell? ad_2 = some (.func (.func xf) #[] xc) ∧ (0 ≤ i ∧ i < ((x3l : Nat) : Int)) ∧ derefP x3a fun ad_3 => ∃ x0_1 : Int, ∃ x1_1 : Int, ∃ x2_1 : ByteArray, ∃ x3a_1 : Option Addr, ∃ x3l_1 : Nat, ∃ x3c_1 : Nat, g6.w.cell? (Addr.add ad_3 (Int.toNat i * 4)) = some (.int .i64 x0_1) ∧ g6.w.cell? (Addr.add (Addr.add ad_3 (Int.toNat i * 4)) 1) = some (.int .i64 x1_1) ∧ g6.w.cell? (Addr.add (Addr.add ad_3 (Int.toNat i * 4)) 2) = some (.string x2_1) ∧ g6.w.cell? (Addr.add (Addr.add ad_3 (Int.toNat i * 4)) 3) = some (.slice x3a_1 x3l_1 x3c_1) ∧ InI64 (depth + (1 : Int)) ∧ Enters Tryd.prog xf ∧ ∃ M1 : Nat → Prop, (∀ b, b < g.w.heap.size → M1 b → M b) ∧ (CallsG Tryd.prog xf ((⟨[(.agg ⟨[(.int .i64 x0_1), (.int .i64 x1_1), (.string x2_1), (.slice x3a_1 x3l_1 x3c_1)]⟩), (.int .i64 (depth + (1 : Int)))]⟩ : Array Value) ++ xc) g6 M1 fun v g7 =>
  v = (.tuple ⟨[]⟩) ∧ InI64 (i + (1 : Int)) ∧ (∃ m_1 : Nat, m_1 < m ∧ Inv m_1 (i + (1 : Int)) g7))) → J_1 g5) →
  ifB (ltI i ((x3l : Nat) : Int))
  (derefP c0 fun ad_4 => ∃ x_1 : Int, g4.w.cell? ad_4 = some (.int .i64 x_1) ∧ ifB (leI x_1 (200 : Int))
  (J_1 g4)
  (∀ g8 : G, Ex g4 g8 →
  R (.tuple ⟨[]⟩) g8))
  (∀ g9 : G, Ex g4 g9 →
  R (.tuple ⟨[]⟩) g9)) → J g3) →
  ifB (ltI (60 : Int) depth)
  (derefP c0 fun ad_5 => stOk g2.w ad_5 1 ∧ ¬ g2.X (Addr.block ad_5) ∧ mutAt g2 ad_5 1 ∧ ((Addr.block ad_5) < g.w.heap.size → M (Addr.block ad_5)) ∧ ∀ g10 : G, StG false g2 ad_5 [(.int .i64 (1000 : Int))] g10 →
  J g10)
  (ifB (ltI (50 : Int) ((x3l : Nat) : Int))
  (derefP c0 fun ad_6 => stOk g2.w ad_6 1 ∧ ¬ g2.X (Addr.block ad_6) ∧ mutAt g2 ad_6 1 ∧ ((Addr.block ad_6) < g.w.heap.size → M (Addr.block ad_6)) ∧ ∀ g11 : G, StG false g2 ad_6 [(.int .i64 (1000 : Int))] g11 →
  J g11)
  (ifB (ltI (1000 : Int) ((x2.size : Nat) : Int))
  (ifB (leI ((x2.size : Nat) : Int) (16384 : Int))
  (derefP c0 fun ad_7 => stOk g2.w ad_7 1 ∧ ¬ g2.X (Addr.block ad_7) ∧ mutAt g2 ad_7 1 ∧ ((Addr.block ad_7) < g.w.heap.size → M (Addr.block ad_7)) ∧ ∀ g12 : G, StG false g2 ad_7 [(.int .i64 (1000 : Int))] g12 →
  J g12)
  (ifB (ltI (20000 : Int) ((x2.size : Nat) : Int))
  (derefP c0 fun ad_8 => stOk g2.w ad_8 1 ∧ ¬ g2.X (Addr.block ad_8) ∧ mutAt g2 ad_8 1 ∧ ((Addr.block ad_8) < g.w.heap.size → M (Addr.block ad_8)) ∧ ∀ g13 : G, StG false g2 ad_8 [(.int .i64 (1000 : Int))] g13 →
  J g13)
  (J g2)))
  (ifB (ltI (20000 : Int) ((x2.size : Nat) : Int))
  (derefP c0 fun ad_9 => stOk g2.w ad_9 1 ∧ ¬ g2.X (Addr.block ad_9) ∧ mutAt g2 ad_9 1 ∧ ((Addr.block ad_9) < g.w.heap.size → M (Addr.block ad_9)) ∧ ∀ g14 : G, StG false g2 ad_9 [(.int .i64 (1000 : Int))] g14 →
  J g14)
  (J g2))))
theorem F32_eq (x0 : Int) (x1 : Int) (x2 : ByteArray) (x3a : Option Addr) (x3l : Nat) (x3c : Nat) (depth : Int) (c0 : Option Addr) (c1 : Option Addr) (g : G) (M : Nat → Prop) (R : Value → G → Prop) : fnG cfg32 55 [] c32 an32 [(.agg ⟨[(.int .i64 x0), (.int .i64 x1), (.string x2), (.slice x3a x3l x3c)]⟩), (.int .i64 depth), (.pointer c0), (.pointer c1)] g M R = F32 x0 x1 x2 x3a x3l x3c depth c0 c1 g M R := by kernel_rfl
theorem call32 (x0 : Int) (x1 : Int) (x2 : ByteArray) (x3a : Option Addr) (x3l : Nat) (x3c : Nat) (depth : Int) (c0 : Option Addr) (c1 : Option Addr) (g : G) (M : Nat → Prop) (R : Value → G → Prop) (hF : F32 x0 x1 x2 x3a x3l x3c depth c0 c1 g M R) : CallsG Tryd.prog 32 #[(.agg ⟨[(.int .i64 x0), (.int .i64 x1), (.string x2), (.slice x3a x3l x3c)]⟩), (.int .i64 depth), (.pointer c0), (.pointer c1)] g M R :=
  fn_soundG (c := cfg32) TTok FNSok mixed Tryd.func32 (show Tryd.f32.body = some c32 by kernel_rfl) (show Tryd.f32.ntmps = 55 by kernel_rfl) (show Tryd.f32.results.toList = [] by kernel_rfl) rfl ((F32_eq x0 x1 x2 x3a x3l x3c depth c0 c1 g M R ).mpr hF)
end Go.Proofs.YtfmjipgcbecamaaDoor.PB
