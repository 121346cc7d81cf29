/- Printed by a program (wip/tools/gen2.py): for each function its condition as a plain formula, and that the formula gives the call. -/
import Derived.Test.YtmakoecgogjemaaDoorProg
import Derived.Test.YtmakoecgogjemaaDoorVda
namespace Go.Proofs.YtmakoecgogjemaaDoor
open Go Go.Vc Go.RowKit
set_option maxRecDepth 100000
set_option linter.unusedVariables false
def TT : List TI := [
  ⟨0, .tuple #[], 1, 0, some (.tuple ⟨[]⟩), (.tup [])⟩,
  ⟨3, .int .i64, 1, 8, some (.int .i64 (0 : Int)), (.e (.one (.int .i64)))⟩,
  ⟨4, .bool, 1, 1, some (.bool false), (.e (.one (.bool)))⟩,
  ⟨5, .int .u8, 1, 1, some (.int .u8 (0 : Int)), (.e (.one (.int .u8)))⟩,
  ⟨9, .string, 1, 16, some (.string (bs [])), (.e (.one (.str)))⟩,
  ⟨22, .slice 9, 1, 24, some (.slice none 0 0), (.e (.one (.sl)))⟩,
  ⟨23, .slice 25, 1, 24, some (.slice none 0 0), (.e (.one (.sl)))⟩,
  ⟨25, .struct #[{ name := "Op", type := 3, offset := 0, embedded := false, tag := "", pkgPath := "", byteOffset := 0 }, { name := "N", type := 3, offset := 1, embedded := false, tag := "", pkgPath := "", byteOffset := 8 }, { name := "S", type := 9, offset := 2, embedded := false, tag := "", pkgPath := "", byteOffset := 16 }, { name := "Names", type := 22, offset := 3, embedded := false, tag := "", pkgPath := "", byteOffset := 32 }, { name := "L", type := 23, offset := 4, embedded := false, tag := "", pkgPath := "", byteOffset := 56 }], 5, 80, some (.agg ⟨[(.int .i64 (0 : Int)), (.int .i64 (0 : Int)), (.string (bs [])), (.slice none 0 0), (.slice none 0 0)]⟩), (.e (.agg [(.int .i64), (.int .i64), (.str), (.sl), (.sl)]))⟩,
  ⟨27, .func #[25] #[4] false, 1, 8, some .nilFunc, (.e (.one (.fn)))⟩,
  ⟨32, .pointer 3, 1, 8, some (.pointer none), (.e (.one (.ptr)))⟩,
  ⟨34, .slice 22, 1, 24, some (.slice none 0 0), (.e (.one (.sl)))⟩,
  ⟨35, .int .i64, 1, 8, some (.int .i64 (0 : Int)), (.e (.one (.int .i64)))⟩,
  ⟨36, .tuple #[34, 35], 1, 0, some (.tuple ⟨[(.slice none 0 0), (.int .i64 (0 : Int))]⟩), (.tup [(.one (.sl)), (.one (.int .i64))])⟩,
  ⟨40, .func #[25, 25] #[4] false, 1, 8, some .nilFunc, (.e (.one (.fn)))⟩,
  ⟨41, .slice 3, 1, 24, some (.slice none 0 0), (.e (.one (.sl)))⟩,
  ⟨42, .tuple #[25, 35], 1, 0, some (.tuple ⟨[(.agg ⟨[(.int .i64 (0 : Int)), (.int .i64 (0 : Int)), (.string (bs [])), (.slice none 0 0), (.slice none 0 0)]⟩), (.int .i64 (0 : Int))]⟩), (.tup [(.agg [(.int .i64), (.int .i64), (.str), (.sl), (.sl)]), (.one (.int .i64))])⟩,
  ⟨44, .tuple #[25, 3], 1, 0, some (.tuple ⟨[(.agg ⟨[(.int .i64 (0 : Int)), (.int .i64 (0 : Int)), (.string (bs [])), (.slice none 0 0), (.slice none 0 0)]⟩), (.int .i64 (0 : Int))]⟩), (.tup [(.agg [(.int .i64), (.int .i64), (.str), (.sl), (.sl)]), (.one (.int .i64))])⟩,
  ⟨48, .tuple #[25, 4], 1, 0, some (.tuple ⟨[(.agg ⟨[(.int .i64 (0 : Int)), (.int .i64 (0 : Int)), (.string (bs [])), (.slice none 0 0), (.slice none 0 0)]⟩), (.bool false)]⟩), (.tup [(.agg [(.int .i64), (.int .i64), (.str), (.sl), (.sl)]), (.one (.bool))])⟩,
  ⟨49, .func #[22, 22] #[4] false, 1, 8, some .nilFunc, (.e (.one (.fn)))⟩,
  ⟨52, .func #[9] #[4] false, 1, 8, some .nilFunc, (.e (.one (.fn)))⟩,
  ⟨54, .func #[25] #[] false, 1, 8, some .nilFunc, (.e (.one (.fn)))⟩,
  ⟨56, .struct #[{ name := "n", type := 4, offset := 0, embedded := false, tag := "", pkgPath := "pilaster/syntax", byteOffset := 0 }, { name := "s", type := 4, offset := 1, embedded := false, tag := "", pkgPath := "pilaster/syntax", byteOffset := 1 }, { name := "names", type := 4, offset := 2, embedded := false, tag := "", pkgPath := "pilaster/syntax", byteOffset := 2 }], 3, 3, some (.agg ⟨[(.bool false), (.bool false), (.bool false)]⟩), (.e (.agg [(.bool), (.bool), (.bool)]))⟩,
  ⟨65, .func #[25, 3, 4] #[4] false, 1, 8, some .nilFunc, (.e (.one (.fn)))⟩,
  ⟨75, .tuple #[9, 4], 1, 0, some (.tuple ⟨[(.string (bs [])), (.bool false)]⟩), (.tup [(.one (.str)), (.one (.bool))])⟩,
  ⟨78, .int .i64, 1, 8, some (.int .i64 (0 : Int)), (.e (.one (.int .i64)))⟩,
  ⟨82, .slice 5, 1, 24, some (.slice none 0 0), (.e (.one (.sl)))⟩]
theorem TTok : TOk Tryd.prog TT := tok_of (by kernel_rfl)
def FNS : List Nat := [9, 10, 11, 12, 13, 14, 15, 17, 18, 19, 20, 21, 22, 23, 24, 25, 26, 27, 28, 30, 31, 32, 33, 34, 35, 37, 39, 41, 42, 43, 45, 46, 47, 48, 50, 51, 53, 54, 55, 56, 57, 58, 59, 61, 62, 63, 64, 65, 66, 67, 68, 69, 71, 72, 75, 77, 78, 79, 80, 81, 82, 83, 84, 85, 86, 87, 88, 89, 90, 91, 92, 93, 94, 95, 96, 97, 100, 101, 102, 104, 105, 106, 107, 108, 109, 112, 113]
theorem FNSok : FOk Tryd.prog FNS := fok_of (by kernel_rfl)
theorem mixed : Tryd.prog.follows .mixedOrders = true := by kernel_rfl
def TCH : List Nat := [15, 37, 38, 40, 49, 52, 55]

/- 3 pilaster/pilasterlaw03.SyntaxForms -/
noncomputable def c3 : Code := match Tryd.f3.body with
  | some c => c
  | none => .skip
noncomputable def cfg3 : Cfg := ⟨Tryd.prog, TT, FNS, [4], [(4, 4)], [], TCH, false, false⟩
def an3 : AnnG := (.seq .leaf (.seq (.seq .leaf (.cond (.seq .leaf .leaf) .leaf)) (.seq (.seq .leaf (.cond (.seq .leaf .leaf) .leaf)) (.seq (.tree 11 (.quiet 0 (.quiet 1 (.quiet 3 (.quiet 4 (.eff 2 (.eff 5 (.quiet 6 (.quiet 7 (.quiet 8 (.quiet 10 (.eff 9 .fin .fin))))) .fin) .fin)))))) .leaf))))
def F3 (cat : Int) (t0 : Int) (t1 : Int) (t2 : ByteArray) (t3a : Option Addr) (t3l : Nat) (t3c : Nat) (t4a : Option Addr) (t4l : Nat) (t4c : Nat) (op : Int) (g : G) (R : Value → G → Prop) : Prop :=
  ∀ g1 : G, Ex g g1 →
  (CallsP Tryd.prog 9 #[] g1 fun v g2 =>
  ∃ x : Bool, v = (.bool x) ∧ ifB (!x)
  (∀ g3 : G, Ex g2 g3 →
  R (.bool false) g3)
  ((CallsP Tryd.prog 10 #[(.agg ⟨[(.int .i64 t0), (.int .i64 t1), (.string t2), (.slice t3a t3l t3c), (.slice t4a t4l t4c)]⟩)] g2 fun v g4 =>
  ∃ x_1 : Bool, v = (.bool x_1) ∧ ifB (!x_1)
  (∀ g5 : G, Ex g4 g5 →
  R (.bool true) g5)
  (∀ g6 : G, Ex g4 g6 →
  (CallsP Tryd.prog 11 #[(.int .i64 cat), (.agg ⟨[(.int .i64 t0), (.int .i64 t1), (.string t2), (.slice t3a t3l t3c), (.slice t4a t4l t4c)]⟩)] g6 fun v g7 =>
  ∃ x_2 : Bool, v = (.bool x_2) ∧ (CallsP Tryd.prog 12 #[(.int .i64 cat), (.agg ⟨[(.int .i64 t0), (.int .i64 t1), (.string t2), (.slice t3a t3l t3c), (.slice t4a t4l t4c)]⟩)] g7 fun v g8 =>
  ∃ x_3 : Bool, v = (.bool x_3) ∧ ifB (x_2 == x_3)
  ((CallsP Tryd.prog 13 #[(.int .i64 op)] g8 fun v g9 =>
  ∃ x_4 : Int, v = (.int .i64 x_4) ∧ (CallsP Tryd.prog 14 #[(.int .i64 op)] g9 fun v g10 =>
  ∃ x_5 : Int, v = (.int .i64 x_5) ∧ ∀ g11 : G, Ex g10 g11 →
  R (.bool (eqI x_4 x_5)) g11)))
  (∀ g12 : G, Ex g8 g12 →
  R (.bool false) g12)))))))
theorem F3_eq (cat : Int) (t0 : Int) (t1 : Int) (t2 : ByteArray) (t3a : Option Addr) (t3l : Nat) (t3c : Nat) (t4a : Option Addr) (t4l : Nat) (t4c : Nat) (op : Int) (g : G) (R : Value → G → Prop) : fnG cfg3 26 [.tmp 6] c3 an3 [(.int .i64 cat), (.agg ⟨[(.int .i64 t0), (.int .i64 t1), (.string t2), (.slice t3a t3l t3c), (.slice t4a t4l t4c)]⟩), (.int .i64 op)] g nobody R = F3 cat t0 t1 t2 t3a t3l t3c t4a t4l t4c op g R := by kernel_rfl
theorem call3 (cat : Int) (t0 : Int) (t1 : Int) (t2 : ByteArray) (t3a : Option Addr) (t3l : Nat) (t3c : Nat) (t4a : Option Addr) (t4l : Nat) (t4c : Nat) (op : Int) (g : G) (R : Value → G → Prop) (hF : F3 cat t0 t1 t2 t3a t3l t3c t4a t4l t4c op g R) : CallsG Tryd.prog 3 #[(.int .i64 cat), (.agg ⟨[(.int .i64 t0), (.int .i64 t1), (.string t2), (.slice t3a t3l t3c), (.slice t4a t4l t4c)]⟩), (.int .i64 op)] g nobody R :=
  fn_soundG (c := cfg3) TTok FNSok mixed Tryd.func3 (show Tryd.f3.body = some c3 by kernel_rfl) (show Tryd.f3.ntmps = 26 by kernel_rfl) (show Tryd.f3.results.toList = [.tmp 6] by kernel_rfl) rfl ((F3_eq cat t0 t1 t2 t3a t3l t3c t4a t4l t4c op g R).mpr hF)

/- 4 pilaster/pilasterlaw03.SyntaxParts -/
noncomputable def c4 : Code := match Tryd.f4.body with
  | some c => c
  | none => .skip
noncomputable def cfg4 : Cfg := ⟨Tryd.prog, TT, FNS, [1], [(1, 1), (11, 1)], [4], TCH, false, false⟩
def an4 : AnnG := (.seq .leaf (.seq (.seq .leaf (.cond (.seq .leaf .leaf) .leaf)) (.seq .leaf (.join ⟨[], [], []⟩ (.seq (.tree 8 (.quiet 0 (.eff 1 (.quiet 2 (.quiet 3 (.quiet 4 (.quiet 5 (.quiet 7 (.eff 6 .fin .fin)))))) .fin))) (.cond (.seq .leaf .leaf) .leaf)) (.seq .leaf (.seq .leaf (.seq .leaf .leaf)))))))
def F4 (t0 : Int) (t1 : Int) (t2 : ByteArray) (t3a : Option Addr) (t3l : Nat) (t3c : Nat) (t4a : Option Addr) (t4l : Nat) (t4c : Nat) (g : G) (R : Value → G → Prop) : Prop :=
  ∀ g1 : G, Ex g g1 →
  (CallsP Tryd.prog 9 #[] g1 fun v g2 =>
  ∃ x : Bool, v = (.bool x) ∧ ifB (!x)
  (∀ g3 : G, Ex g2 g3 →
  R (.bool false) g3)
  (∀ g4 : G, NewD g2 g4 3 [(.int .i64 (0 : Int))] →
  stOk g4.w ⟨g2.w.heap.size, 0, none⟩ 1 ∧ ¬ g4.X (Addr.block ⟨g2.w.heap.size, 0, none⟩) ∧ mutAt g4 ⟨g2.w.heap.size, 0, none⟩ 1 ∧ ((Addr.block ⟨g2.w.heap.size, 0, none⟩) < g.w.heap.size → nobody (Addr.block ⟨g2.w.heap.size, 0, none⟩)) ∧ ∀ g5 : G, StG false g4 ⟨g2.w.heap.size, 0, none⟩ [(.int .i64 (1000 : Int))] g5 →
  ∀ J : G → Prop,
  (∀ g6 : G, (∀ g7 : G, NewD g6 g7 27 [.nilFunc] →
  stOk g7.w ⟨g6.w.heap.size, 0, none⟩ 1 ∧ ¬ g7.X (Addr.block ⟨g6.w.heap.size, 0, none⟩) ∧ mutAt g7 ⟨g6.w.heap.size, 0, none⟩ 1 ∧ ((Addr.block ⟨g6.w.heap.size, 0, none⟩) < g.w.heap.size → nobody (Addr.block ⟨g6.w.heap.size, 0, none⟩)) ∧ ∀ g8 : G, StG true g7 ⟨g6.w.heap.size, 0, none⟩ [(.func (.func 16) #[] ⟨[(.pointer (some ⟨g6.w.heap.size, 0, none⟩))]⟩)] g8 →
  ∃ allf : FuncId, ∃ allc : Array Value, g8.w.cell? ⟨g6.w.heap.size, 0, none⟩ = some (.func (.func allf) #[] allc) ∧ Enters Tryd.prog allf ∧ (CallsP Tryd.prog allf ((⟨[(.agg ⟨[(.int .i64 t0), (.int .i64 t1), (.string t2), (.slice t3a t3l t3c), (.slice t4a t4l t4c)]⟩)]⟩ : Array Value) ++ allc) g8 fun v g9 =>
  ∃ x_1 : Bool, v = (.bool x_1) ∧ ∀ g10 : G, Ex g9 g10 →
  R (.bool x_1) g10)) → J g6) →
  ∀ g11 : G, Ex g5 g11 →
  ∃ M1 : Nat → Prop, (∀ b, b < g.w.heap.size → M1 b → nobody b) ∧ (CallsG Tryd.prog 15 #[(.agg ⟨[(.int .i64 t0), (.int .i64 t1), (.string t2), (.slice t3a t3l t3c), (.slice t4a t4l t4c)]⟩), (.pointer (some ⟨g2.w.heap.size, 0, none⟩)), (.int .i64 (0 : Int))] g11 M1 fun v g12 =>
  ∃ x_2 : Bool, v = (.bool x_2) ∧ SameB g11 g12 ∧ ifB (!x_2)
  (∀ g13 : G, Ex g12 g13 →
  R (.bool true) g13)
  ((CallsP Tryd.prog 13 #[(.int .i64 t0)] g12 fun v g14 =>
  ∃ x_3 : Int, v = (.int .i64 x_3) ∧ (CallsP Tryd.prog 11 #[(.int .i64 x_3), (.agg ⟨[(.int .i64 t0), (.int .i64 t1), (.string t2), (.slice t3a t3l t3c), (.slice t4a t4l t4c)]⟩)] g14 fun v g15 =>
  ∃ x_4 : Bool, v = (.bool x_4) ∧ ifB (!x_4)
  (∀ g16 : G, Ex g15 g16 →
  R (.bool true) g16)
  (J g15)))))))
theorem F4_eq (t0 : Int) (t1 : Int) (t2 : ByteArray) (t3a : Option Addr) (t3l : Nat) (t3c : Nat) (t4a : Option Addr) (t4l : Nat) (t4c : Nat) (g : G) (R : Value → G → Prop) : fnG cfg4 22 [.tmp 2] c4 an4 [(.agg ⟨[(.int .i64 t0), (.int .i64 t1), (.string t2), (.slice t3a t3l t3c), (.slice t4a t4l t4c)]⟩)] g nobody R = F4 t0 t1 t2 t3a t3l t3c t4a t4l t4c g R := by kernel_rfl
theorem call4 (t0 : Int) (t1 : Int) (t2 : ByteArray) (t3a : Option Addr) (t3l : Nat) (t3c : Nat) (t4a : Option Addr) (t4l : Nat) (t4c : Nat) (g : G) (R : Value → G → Prop) (hF : F4 t0 t1 t2 t3a t3l t3c t4a t4l t4c g R) : CallsG Tryd.prog 4 #[(.agg ⟨[(.int .i64 t0), (.int .i64 t1), (.string t2), (.slice t3a t3l t3c), (.slice t4a t4l t4c)]⟩)] g nobody R :=
  fn_soundG (c := cfg4) TTok FNSok mixed Tryd.func4 (show Tryd.f4.body = some c4 by kernel_rfl) (show Tryd.f4.ntmps = 22 by kernel_rfl) (show Tryd.f4.results.toList = [.tmp 2] by kernel_rfl) rfl ((F4_eq t0 t1 t2 t3a t3l t3c t4a t4l t4c g R).mpr hF)

/- 5 pilaster/pilasterlaw03.SyntaxPaths -/
noncomputable def c5 : Code := match Tryd.f5.body with
  | some c => c
  | none => .skip
noncomputable def cfg5 : Cfg := ⟨Tryd.prog, TT, FNS, [1], [(1, 1)], [], TCH, false, false⟩
def an5 : AnnG := (.seq .leaf (.seq (.seq .leaf (.cond (.seq .leaf .leaf) .leaf)) (.seq (.seq .leaf (.cond (.seq .leaf .leaf) .leaf)) (.seq .leaf (.seq (.seq .leaf (.cond (.seq .leaf .leaf) .leaf)) (.seq .leaf .leaf))))))
def F5 (t0 : Int) (t1 : Int) (t2 : ByteArray) (t3a : Option Addr) (t3l : Nat) (t3c : Nat) (t4a : Option Addr) (t4l : Nat) (t4c : Nat) (g : G) (R : Value → G → Prop) : Prop :=
  ∀ g1 : G, Ex g g1 →
  (CallsP Tryd.prog 9 #[] g1 fun v g2 =>
  ∃ x : Bool, v = (.bool x) ∧ ifB (!x)
  (∀ g3 : G, Ex g2 g3 →
  R (.bool false) g3)
  ((CallsP Tryd.prog 10 #[(.agg ⟨[(.int .i64 t0), (.int .i64 t1), (.string t2), (.slice t3a t3l t3c), (.slice t4a t4l t4c)]⟩)] g2 fun v g4 =>
  ∃ x_1 : Bool, v = (.bool x_1) ∧ ifB (!x_1)
  (∀ g5 : G, Ex g4 g5 →
  R (.bool true) g5)
  ((CallsP Tryd.prog 19 #[(.agg ⟨[(.int .i64 t0), (.int .i64 t1), (.string t2), (.slice t3a t3l t3c), (.slice t4a t4l t4c)]⟩)] g4 fun v g6 =>
  ∃ x0a : Option Addr, ∃ x0l : Nat, ∃ x0c : Nat, ∃ x1 : Int, v = (.tuple ⟨[(.slice x0a x0l x0c), (.int .i64 x1)]⟩) ∧ (CallsP Tryd.prog 20 #[(.agg ⟨[(.int .i64 t0), (.int .i64 t1), (.string t2), (.slice t3a t3l t3c), (.slice t4a t4l t4c)]⟩)] g6 fun v g7 =>
  ∃ x_2 : Bool, v = (.bool x_2) ∧ ifB (!x_2)
  (ifB (eqI ((x0l : Nat) : Int) (0 : Int))
  (∀ g8 : G, Ex g7 g8 →
  R (.bool (eqI x1 (1 : Int))) g8)
  (∀ g9 : G, Ex g7 g9 →
  R (.bool false) g9))
  (ifB (eqI x1 (0 : Int))
  ((CallsP Tryd.prog 22 #[(.agg ⟨[(.int .i64 t0), (.int .i64 t1), (.string t2), (.slice t3a t3l t3c), (.slice t4a t4l t4c)]⟩)] g7 fun v g10 =>
  ∃ xa : Option Addr, ∃ xl : Nat, ∃ xc : Nat, v = (.slice xa xl xc) ∧ (CallsP Tryd.prog 21 #[(.slice x0a x0l x0c), (.slice xa xl xc)] g10 fun v g11 =>
  ∃ x_3 : Bool, v = (.bool x_3) ∧ ∀ g12 : G, Ex g11 g12 →
  R (.bool x_3) g12)))
  (∀ g13 : G, Ex g7 g13 →
  R (.bool false) g13))))))))
theorem F5_eq (t0 : Int) (t1 : Int) (t2 : ByteArray) (t3a : Option Addr) (t3l : Nat) (t3c : Nat) (t4a : Option Addr) (t4l : Nat) (t4c : Nat) (g : G) (R : Value → G → Prop) : fnG cfg5 33 [.tmp 2] c5 an5 [(.agg ⟨[(.int .i64 t0), (.int .i64 t1), (.string t2), (.slice t3a t3l t3c), (.slice t4a t4l t4c)]⟩)] g nobody R = F5 t0 t1 t2 t3a t3l t3c t4a t4l t4c g R := by kernel_rfl
theorem call5 (t0 : Int) (t1 : Int) (t2 : ByteArray) (t3a : Option Addr) (t3l : Nat) (t3c : Nat) (t4a : Option Addr) (t4l : Nat) (t4c : Nat) (g : G) (R : Value → G → Prop) (hF : F5 t0 t1 t2 t3a t3l t3c t4a t4l t4c g R) : CallsG Tryd.prog 5 #[(.agg ⟨[(.int .i64 t0), (.int .i64 t1), (.string t2), (.slice t3a t3l t3c), (.slice t4a t4l t4c)]⟩)] g nobody R :=
  fn_soundG (c := cfg5) TTok FNSok mixed Tryd.func5 (show Tryd.f5.body = some c5 by kernel_rfl) (show Tryd.f5.ntmps = 33 by kernel_rfl) (show Tryd.f5.results.toList = [.tmp 2] by kernel_rfl) rfl ((F5_eq t0 t1 t2 t3a t3l t3c t4a t4l t4c g R).mpr hF)

/- 6 pilaster/pilasterlaw03.SyntaxSizes -/
noncomputable def c6 : Code := match Tryd.f6.body with
  | some c => c
  | none => .skip
noncomputable def cfg6 : Cfg := ⟨Tryd.prog, TT, FNS, [2, 3], [(2, 2), (3, 3)], [], TCH, false, false⟩
def an6 : AnnG := (.seq .leaf (.seq (.seq .leaf (.cond (.seq .leaf .leaf) .leaf)) (.join ⟨[], [], []⟩ (.seq .leaf (.cond (.seq .leaf .leaf) .leaf)) (.seq (.tree 24 (.quiet 0 (.quiet 2 (.eff 1 (.eff 3 (.quiet 4 (.quiet 5 (.quiet 6 (.quiet 8 (.eff 7 (.eff 9 (.quiet 10 (.quiet 11 (.quiet 12 (.quiet 13 (.quiet 14 (.quiet 16 (.quiet 17 (.eff 15 (.eff 18 (.quiet 19 (.quiet 20 (.quiet 21 (.quiet 22 (.quiet 23 .fin))))) .fin) .fin)))))))) .fin) .fin))))) .fin) .fin)))) .leaf))))
def F6 (a0 : Int) (a1 : Int) (a2 : ByteArray) (a3a : Option Addr) (a3l : Nat) (a3c : Nat) (a4a : Option Addr) (a4l : Nat) (a4c : Nat) (b0 : Int) (b1 : Int) (b2 : ByteArray) (b3a : Option Addr) (b3l : Nat) (b3c : Nat) (b4a : Option Addr) (b4l : Nat) (b4c : Nat) (g : G) (R : Value → G → Prop) : Prop :=
  ∀ g1 : G, Ex g g1 →
  (CallsP Tryd.prog 9 #[] g1 fun v g2 =>
  ∃ x : Bool, v = (.bool x) ∧ ifB (!x)
  (∀ g3 : G, Ex g2 g3 →
  R (.bool false) g3)
  (∀ J : G → Prop,
  (∀ g4 : G, (∀ g5 : G, Ex g4 g5 →
  (CallsP Tryd.prog 17 #[(.agg ⟨[(.int .i64 a0), (.int .i64 a1), (.string a2), (.slice a3a a3l a3c), (.slice a4a a4l a4c)]⟩)] g5 fun v g6 =>
  ∃ x_1 : Int, v = (.int .i64 x_1) ∧ (CallsP Tryd.prog 23 #[(.agg ⟨[(.int .i64 a0), (.int .i64 a1), (.string a2), (.slice a3a a3l a3c), (.slice a4a a4l a4c)]⟩)] g6 fun v g7 =>
  ∃ x_2 : Int, v = (.int .i64 x_2) ∧ ifB (eqI x_1 x_2)
  ((CallsP Tryd.prog 18 #[(.agg ⟨[(.int .i64 a0), (.int .i64 a1), (.string a2), (.slice a3a a3l a3c), (.slice a4a a4l a4c)]⟩)] g7 fun v g8 =>
  ∃ x_3 : Int, v = (.int .i64 x_3) ∧ (CallsP Tryd.prog 24 #[(.agg ⟨[(.int .i64 a0), (.int .i64 a1), (.string a2), (.slice a3a a3l a3c), (.slice a4a a4l a4c)]⟩)] g8 fun v g9 =>
  ∃ x_4 : Int, v = (.int .i64 x_4) ∧ ifB (eqI x_3 x_4)
  ((CallsP Tryd.prog 25 #[(.agg ⟨[(.int .i64 a0), (.int .i64 a1), (.string a2), (.slice a3a a3l a3c), (.slice a4a a4l a4c)]⟩), (.agg ⟨[(.int .i64 b0), (.int .i64 b1), (.string b2), (.slice b3a b3l b3c), (.slice b4a b4l b4c)]⟩)] g9 fun v g10 =>
  ∃ x_5 : Bool, v = (.bool x_5) ∧ (CallsP Tryd.prog 26 #[(.agg ⟨[(.int .i64 a0), (.int .i64 a1), (.string a2), (.slice a3a a3l a3c), (.slice a4a a4l a4c)]⟩), (.agg ⟨[(.int .i64 b0), (.int .i64 b1), (.string b2), (.slice b3a b3l b3c), (.slice b4a b4l b4c)]⟩)] g10 fun v g11 =>
  ∃ x_6 : Bool, v = (.bool x_6) ∧ ifB (x_5 == x_6)
  ((CallsP Tryd.prog 25 #[(.agg ⟨[(.int .i64 b0), (.int .i64 b1), (.string b2), (.slice b3a b3l b3c), (.slice b4a b4l b4c)]⟩), (.agg ⟨[(.int .i64 b0), (.int .i64 b1), (.string b2), (.slice b3a b3l b3c), (.slice b4a b4l b4c)]⟩)] g11 fun v g12 =>
  ∃ x_7 : Bool, v = (.bool x_7) ∧ ∀ g13 : G, Ex g12 g13 →
  R (.bool x_7) g13))
  (∀ g14 : G, Ex g11 g14 →
  R (.bool false) g14))))
  (∀ g15 : G, Ex g9 g15 →
  R (.bool false) g15))))
  (∀ g16 : G, Ex g7 g16 →
  R (.bool false) g16)))) → J g4) →
  (CallsP Tryd.prog 10 #[(.agg ⟨[(.int .i64 a0), (.int .i64 a1), (.string a2), (.slice a3a a3l a3c), (.slice a4a a4l a4c)]⟩)] g2 fun v g17 =>
  ∃ x_8 : Bool, v = (.bool x_8) ∧ ifB (!x_8)
  (∀ g18 : G, Ex g17 g18 →
  R (.bool true) g18)
  ((CallsP Tryd.prog 10 #[(.agg ⟨[(.int .i64 b0), (.int .i64 b1), (.string b2), (.slice b3a b3l b3c), (.slice b4a b4l b4c)]⟩)] g17 fun v g19 =>
  ∃ x_9 : Bool, v = (.bool x_9) ∧ ifB (!x_9)
  (∀ g20 : G, Ex g19 g20 →
  R (.bool true) g20)
  (J g19))))))
theorem F6_eq (a0 : Int) (a1 : Int) (a2 : ByteArray) (a3a : Option Addr) (a3l : Nat) (a3c : Nat) (a4a : Option Addr) (a4l : Nat) (a4c : Nat) (b0 : Int) (b1 : Int) (b2 : ByteArray) (b3a : Option Addr) (b3l : Nat) (b3c : Nat) (b4a : Option Addr) (b4l : Nat) (b4c : Nat) (g : G) (R : Value → G → Prop) : fnG cfg6 41 [.tmp 4] c6 an6 [(.agg ⟨[(.int .i64 a0), (.int .i64 a1), (.string a2), (.slice a3a a3l a3c), (.slice a4a a4l a4c)]⟩), (.agg ⟨[(.int .i64 b0), (.int .i64 b1), (.string b2), (.slice b3a b3l b3c), (.slice b4a b4l b4c)]⟩)] g nobody R = F6 a0 a1 a2 a3a a3l a3c a4a a4l a4c b0 b1 b2 b3a b3l b3c b4a b4l b4c g R := by kernel_rfl
theorem call6 (a0 : Int) (a1 : Int) (a2 : ByteArray) (a3a : Option Addr) (a3l : Nat) (a3c : Nat) (a4a : Option Addr) (a4l : Nat) (a4c : Nat) (b0 : Int) (b1 : Int) (b2 : ByteArray) (b3a : Option Addr) (b3l : Nat) (b3c : Nat) (b4a : Option Addr) (b4l : Nat) (b4c : Nat) (g : G) (R : Value → G → Prop) (hF : F6 a0 a1 a2 a3a a3l a3c a4a a4l a4c b0 b1 b2 b3a b3l b3c b4a b4l b4c g R) : CallsG Tryd.prog 6 #[(.agg ⟨[(.int .i64 a0), (.int .i64 a1), (.string a2), (.slice a3a a3l a3c), (.slice a4a a4l a4c)]⟩), (.agg ⟨[(.int .i64 b0), (.int .i64 b1), (.string b2), (.slice b3a b3l b3c), (.slice b4a b4l b4c)]⟩)] g nobody R :=
  fn_soundG (c := cfg6) TTok FNSok mixed Tryd.func6 (show Tryd.f6.body = some c6 by kernel_rfl) (show Tryd.f6.ntmps = 41 by kernel_rfl) (show Tryd.f6.results.toList = [.tmp 4] by kernel_rfl) rfl ((F6_eq a0 a1 a2 a3a a3l a3c a4a a4l a4c b0 b1 b2 b3a b3l b3c b4a b4l b4c g R).mpr hF)

/- 7 pilaster/pilasterlaw03.SyntaxReplaces -/
noncomputable def c7 : Code := match Tryd.f7.body with
  | some c => c
  | none => .skip
noncomputable def cfg7 : Cfg := ⟨Tryd.prog, TT, FNS, [3, 5, 7, 9], [(3, 3), (5, 5), (7, 7), (9, 9)], [], TCH, false, false⟩
def an7 : AnnG := (.seq .leaf (.seq (.seq .leaf (.cond (.seq .leaf .leaf) .leaf)) (.join ⟨[], [], []⟩ (.seq .leaf (.cond (.seq .leaf .leaf) .leaf)) (.seq .leaf (.seq .leaf (.seq .leaf .leaf))))))
def F7 (t0 : Int) (t1 : Int) (t2 : ByteArray) (t3a : Option Addr) (t3l : Nat) (t3c : Nat) (t4a : Option Addr) (t4l : Nat) (t4c : Nat) (ata : Option Addr) (atl : Nat) (atc : Nat) (by0 : Int) (by1 : Int) (by2 : ByteArray) (by3a : Option Addr) (by3l : Nat) (by3c : Nat) (by4a : Option Addr) (by4l : Nat) (by4c : Nat) (g : G) (R : Value → G → Prop) : Prop :=
  ∀ g1 : G, Ex g g1 →
  (CallsP Tryd.prog 9 #[] g1 fun v g2 =>
  ∃ x : Bool, v = (.bool x) ∧ ifB (!x)
  (∀ g3 : G, Ex g2 g3 →
  R (.bool false) g3)
  (∀ J : G → Prop,
  (∀ g4 : G, ((CallsP Tryd.prog 27 #[(.agg ⟨[(.int .i64 t0), (.int .i64 t1), (.string t2), (.slice t3a t3l t3c), (.slice t4a t4l t4c)]⟩), (.slice ata atl atc), (.agg ⟨[(.int .i64 by0), (.int .i64 by1), (.string by2), (.slice by3a by3l by3c), (.slice by4a by4l by4c)]⟩)] g4 fun v g5 =>
  ∃ x00 : Int, ∃ x01 : Int, ∃ x02 : ByteArray, ∃ x03a : Option Addr, ∃ x03l : Nat, ∃ x03c : Nat, ∃ x04a : Option Addr, ∃ x04l : Nat, ∃ x04c : Nat, ∃ x1 : Int, v = (.tuple ⟨[(.agg ⟨[(.int .i64 x00), (.int .i64 x01), (.string x02), (.slice x03a x03l x03c), (.slice x04a x04l x04c)]⟩), (.int .i64 x1)]⟩) ∧ ∀ g6 : G, Ex g5 g6 →
  (CallsP Tryd.prog 28 #[(.agg ⟨[(.int .i64 t0), (.int .i64 t1), (.string t2), (.slice t3a t3l t3c), (.slice t4a t4l t4c)]⟩), (.slice ata atl atc), (.agg ⟨[(.int .i64 by0), (.int .i64 by1), (.string by2), (.slice by3a by3l by3c), (.slice by4a by4l by4c)]⟩)] g6 fun v g7 =>
  ∃ x00_1 : Int, ∃ x01_1 : Int, ∃ x02_1 : ByteArray, ∃ x03a_1 : Option Addr, ∃ x03l_1 : Nat, ∃ x03c_1 : Nat, ∃ x04a_1 : Option Addr, ∃ x04l_1 : Nat, ∃ x04c_1 : Nat, ∃ x1_1 : Int, v = (.tuple ⟨[(.agg ⟨[(.int .i64 x00_1), (.int .i64 x01_1), (.string x02_1), (.slice x03a_1 x03l_1 x03c_1), (.slice x04a_1 x04l_1 x04c_1)]⟩), (.int .i64 x1_1)]⟩) ∧ ∀ g8 : G, Ex g7 g8 →
  (CallsP Tryd.prog 26 #[(.agg ⟨[(.int .i64 x00), (.int .i64 x01), (.string x02), (.slice x03a x03l x03c), (.slice x04a x04l x04c)]⟩), (.agg ⟨[(.int .i64 x00_1), (.int .i64 x01_1), (.string x02_1), (.slice x03a_1 x03l_1 x03c_1), (.slice x04a_1 x04l_1 x04c_1)]⟩)] g8 fun v g9 =>
  ∃ x_1 : Bool, v = (.bool x_1) ∧ ifB x_1
  (∀ g10 : G, Ex g9 g10 →
  R (.bool (eqI x1 x1_1)) g10)
  (∀ g11 : G, Ex g9 g11 →
  R (.bool false) g11))))) → J g4) →
  (CallsP Tryd.prog 10 #[(.agg ⟨[(.int .i64 t0), (.int .i64 t1), (.string t2), (.slice t3a t3l t3c), (.slice t4a t4l t4c)]⟩)] g2 fun v g12 =>
  ∃ x_2 : Bool, v = (.bool x_2) ∧ ifB (!x_2)
  (∀ g13 : G, Ex g12 g13 →
  R (.bool true) g13)
  ((CallsP Tryd.prog 10 #[(.agg ⟨[(.int .i64 by0), (.int .i64 by1), (.string by2), (.slice by3a by3l by3c), (.slice by4a by4l by4c)]⟩)] g12 fun v g14 =>
  ∃ x_3 : Bool, v = (.bool x_3) ∧ ifB (!x_3)
  (∀ g15 : G, Ex g14 g15 →
  R (.bool true) g15)
  (ifB (ltI (50 : Int) ((atl : Nat) : Int))
  (∀ g16 : G, Ex g14 g16 →
  R (.bool true) g16)
  (J g14)))))))
theorem F7_eq (t0 : Int) (t1 : Int) (t2 : ByteArray) (t3a : Option Addr) (t3l : Nat) (t3c : Nat) (t4a : Option Addr) (t4l : Nat) (t4c : Nat) (ata : Option Addr) (atl : Nat) (atc : Nat) (by0 : Int) (by1 : Int) (by2 : ByteArray) (by3a : Option Addr) (by3l : Nat) (by3c : Nat) (by4a : Option Addr) (by4l : Nat) (by4c : Nat) (g : G) (R : Value → G → Prop) : fnG cfg7 48 [.tmp 6] c7 an7 [(.agg ⟨[(.int .i64 t0), (.int .i64 t1), (.string t2), (.slice t3a t3l t3c), (.slice t4a t4l t4c)]⟩), (.slice ata atl atc), (.agg ⟨[(.int .i64 by0), (.int .i64 by1), (.string by2), (.slice by3a by3l by3c), (.slice by4a by4l by4c)]⟩)] g nobody R = F7 t0 t1 t2 t3a t3l t3c t4a t4l t4c ata atl atc by0 by1 by2 by3a by3l by3c by4a by4l by4c g R := by kernel_rfl
theorem call7 (t0 : Int) (t1 : Int) (t2 : ByteArray) (t3a : Option Addr) (t3l : Nat) (t3c : Nat) (t4a : Option Addr) (t4l : Nat) (t4c : Nat) (ata : Option Addr) (atl : Nat) (atc : Nat) (by0 : Int) (by1 : Int) (by2 : ByteArray) (by3a : Option Addr) (by3l : Nat) (by3c : Nat) (by4a : Option Addr) (by4l : Nat) (by4c : Nat) (g : G) (R : Value → G → Prop) (hF : F7 t0 t1 t2 t3a t3l t3c t4a t4l t4c ata atl atc by0 by1 by2 by3a by3l by3c by4a by4l by4c g R) : CallsG Tryd.prog 7 #[(.agg ⟨[(.int .i64 t0), (.int .i64 t1), (.string t2), (.slice t3a t3l t3c), (.slice t4a t4l t4c)]⟩), (.slice ata atl atc), (.agg ⟨[(.int .i64 by0), (.int .i64 by1), (.string by2), (.slice by3a by3l by3c), (.slice by4a by4l by4c)]⟩)] g nobody R :=
  fn_soundG (c := cfg7) TTok FNSok mixed Tryd.func7 (show Tryd.f7.body = some c7 by kernel_rfl) (show Tryd.f7.ntmps = 48 by kernel_rfl) (show Tryd.f7.results.toList = [.tmp 6] by kernel_rfl) rfl ((F7_eq t0 t1 t2 t3a t3l t3c t4a t4l t4c ata atl atc by0 by1 by2 by3a by3l by3c by4a by4l by4c g R).mpr hF)

/- 8 pilaster/pilasterlaw03.SyntaxAgain -/
noncomputable def c8 : Code := match Tryd.f8.body with
  | some c => c
  | none => .skip
noncomputable def cfg8 : Cfg := ⟨Tryd.prog, TT, FNS, [3, 5, 10, 12, 14, 16, 18], [(3, 3), (5, 5), (10, 10), (12, 12), (14, 14), (16, 16), (18, 18), (36, 3), (62, 12), (86, 12)], [4], TCH, false, false⟩
def an8 : AnnG := (.seq .leaf (.seq (.seq .leaf (.cond (.seq .leaf .leaf) .leaf)) (.seq .leaf (.join ⟨[], [], []⟩ (.seq (.tree 18 (.quiet 0 (.eff 1 (.quiet 2 (.quiet 3 (.quiet 4 (.eff 5 (.quiet 6 (.quiet 7 (.quiet 8 (.quiet 9 (.quiet 10 (.quiet 11 (.quiet 12 (.quiet 13 (.quiet 14 (.quiet 15 (.quiet 17 (.eff 16 .fin .fin)))))))))))) .fin)))) .fin))) (.cond (.seq .leaf .leaf) .leaf)) (.seq .leaf (.seq .leaf (.seq .leaf (.seq (.seq .leaf (.cond (.seq .leaf .leaf) .leaf)) (.seq .leaf (.join ⟨[], [], []⟩ (.seq .leaf (.cond (.seq .leaf .leaf) .leaf)) (.seq (.seq .leaf (.cond (.seq .leaf .leaf) .leaf)) (.seq .leaf (.seq .leaf (.seq (.tree 25 (.quiet 0 (.quiet 1 (.quiet 2 (.quiet 3 (.eff 4 (.quiet 5 (.quiet 6 (.quiet 7 (.quiet 8 (.quiet 9 (.quiet 10 (.quiet 11 (.quiet 12 (.eff 13 (.quiet 14 (.quiet 15 (.quiet 16 (.quiet 18 (.quiet 20 (.quiet 23 (.eff 17 (.eff 19 (.eff 21 (.quiet 22 (.eff 24 .fin .fin)) .fin) .fin) .fin))))))) .fin))))))))) .fin)))))) .leaf))))))))))))))
def F8 (t0 : Int) (t1 : Int) (t2 : ByteArray) (t3a : Option Addr) (t3l : Nat) (t3c : Nat) (t4a : Option Addr) (t4l : Nat) (t4c : Nat) (ata : Option Addr) (atl : Nat) (atc : Nat) (by0 : Int) (by1 : Int) (by2 : ByteArray) (by3a : Option Addr) (by3l : Nat) (by3c : Nat) (by4a : Option Addr) (by4l : Nat) (by4c : Nat) (g : G) (R : Value → G → Prop) : Prop :=
  ∀ g1 : G, Ex g g1 →
  ∀ g2 : G, NewL g1 g2 41 ([(.slice ata atl atc)] : List Value) →
  ∀ g3 : G, Ex g2 g3 →
  (CallsP Tryd.prog 9 #[] g3 fun v g4 =>
  ∃ x : Bool, v = (.bool x) ∧ ifB (!x)
  (∀ g5 : G, Ex g4 g5 →
  R (.bool false) g5)
  (∀ g6 : G, NewD g4 g6 3 [(.int .i64 (0 : Int))] →
  ∀ g7 : G, NewD g6 g7 3 [(.int .i64 (0 : Int))] →
  stOk g7.w ⟨g4.w.heap.size, 0, none⟩ 1 ∧ ¬ g7.X (Addr.block ⟨g4.w.heap.size, 0, none⟩) ∧ mutAt g7 ⟨g4.w.heap.size, 0, none⟩ 1 ∧ ((Addr.block ⟨g4.w.heap.size, 0, none⟩) < g.w.heap.size → nobody (Addr.block ⟨g4.w.heap.size, 0, none⟩)) ∧ ∀ g8 : G, StG false g7 ⟨g4.w.heap.size, 0, none⟩ [(.int .i64 (1000 : Int))] g8 →
  stOk g8.w ⟨g6.w.heap.size, 0, none⟩ 1 ∧ ¬ g8.X (Addr.block ⟨g6.w.heap.size, 0, none⟩) ∧ mutAt g8 ⟨g6.w.heap.size, 0, none⟩ 1 ∧ ((Addr.block ⟨g6.w.heap.size, 0, none⟩) < g.w.heap.size → nobody (Addr.block ⟨g6.w.heap.size, 0, none⟩)) ∧ ∀ g9 : G, StG false g8 ⟨g6.w.heap.size, 0, none⟩ [(.int .i64 (1000 : Int))] g9 →
  ∀ J : G → Prop,
  (∀ g10 : G, (Enters Tryd.prog 29 ∧ (CallsP Tryd.prog 29 ((⟨[(.agg ⟨[(.int .i64 t0), (.int .i64 t1), (.string t2), (.slice t3a t3l t3c), (.slice t4a t4l t4c)]⟩)]⟩ : Array Value) ++ ⟨[(.pointer (some ⟨g1.w.heap.size, 0, none⟩))]⟩) g10 fun v g11 =>
  ∃ x00 : Int, ∃ x01 : Int, ∃ x02 : ByteArray, ∃ x03a : Option Addr, ∃ x03l : Nat, ∃ x03c : Nat, ∃ x04a : Option Addr, ∃ x04l : Nat, ∃ x04c : Nat, ∃ x1 : Bool, v = (.tuple ⟨[(.agg ⟨[(.int .i64 x00), (.int .i64 x01), (.string x02), (.slice x03a x03l x03c), (.slice x04a x04l x04c)]⟩), (.bool x1)]⟩) ∧ ∀ g12 : G, Ex g11 g12 →
  ∃ ata_1 : Option Addr, ∃ atl_1 : Nat, ∃ atc_1 : Nat, g12.w.cell? ⟨g1.w.heap.size, 0, none⟩ = some (.slice ata_1 atl_1 atc_1) ∧ (CallsP Tryd.prog 27 #[(.agg ⟨[(.int .i64 t0), (.int .i64 t1), (.string t2), (.slice t3a t3l t3c), (.slice t4a t4l t4c)]⟩), (.slice ata_1 atl_1 atc_1), (.agg ⟨[(.int .i64 by0), (.int .i64 by1), (.string by2), (.slice by3a by3l by3c), (.slice by4a by4l by4c)]⟩)] g12 fun v g13 =>
  ∃ x00_1 : Int, ∃ x01_1 : Int, ∃ x02_1 : ByteArray, ∃ x03a_1 : Option Addr, ∃ x03l_1 : Nat, ∃ x03c_1 : Nat, ∃ x04a_1 : Option Addr, ∃ x04l_1 : Nat, ∃ x04c_1 : Nat, ∃ x1_1 : Int, v = (.tuple ⟨[(.agg ⟨[(.int .i64 x00_1), (.int .i64 x01_1), (.string x02_1), (.slice x03a_1 x03l_1 x03c_1), (.slice x04a_1 x04l_1 x04c_1)]⟩), (.int .i64 x1_1)]⟩) ∧ ifB (!x1)
  (ifB (eqI x1_1 (2 : Int))
  (∀ g14 : G, Ex g13 g14 →
  R (.bool (eqI x00_1 (0 : Int))) g14)
  (∀ g15 : G, Ex g13 g15 →
  R (.bool false) g15))
  (∀ g16 : G, Ex g13 g16 →
  ∃ ata_2 : Option Addr, ∃ atl_2 : Nat, ∃ atc_2 : Nat, g16.w.cell? ⟨g1.w.heap.size, 0, none⟩ = some (.slice ata_2 atl_2 atc_2) ∧ (CallsP Tryd.prog 27 #[(.agg ⟨[(.int .i64 t0), (.int .i64 t1), (.string t2), (.slice t3a t3l t3c), (.slice t4a t4l t4c)]⟩), (.slice ata_2 atl_2 atc_2), (.agg ⟨[(.int .i64 x00), (.int .i64 x01), (.string x02), (.slice x03a x03l x03c), (.slice x04a x04l x04c)]⟩)] g16 fun v g17 =>
  ∃ x00_2 : Int, ∃ x01_2 : Int, ∃ x02_2 : ByteArray, ∃ x03a_2 : Option Addr, ∃ x03l_2 : Nat, ∃ x03c_2 : Nat, ∃ x04a_2 : Option Addr, ∃ x04l_2 : Nat, ∃ x04c_2 : Nat, ∃ x1_2 : Int, v = (.tuple ⟨[(.agg ⟨[(.int .i64 x00_2), (.int .i64 x01_2), (.string x02_2), (.slice x03a_2 x03l_2 x03c_2), (.slice x04a_2 x04l_2 x04c_2)]⟩), (.int .i64 x1_2)]⟩) ∧ ∀ J_1 : G → Prop,
  (∀ g18 : G, (ifB (!eqI x1_1 (0 : Int))
  (ifB (eqI x1_1 (3 : Int))
  (∀ g19 : G, Ex g18 g19 →
  R (.bool (eqI x00_1 (0 : Int))) g19)
  (∀ g20 : G, Ex g18 g20 →
  R (.bool false) g20))
  (Enters Tryd.prog 29 ∧ (CallsP Tryd.prog 29 ((⟨[(.agg ⟨[(.int .i64 x00_1), (.int .i64 x01_1), (.string x02_1), (.slice x03a_1 x03l_1 x03c_1), (.slice x04a_1 x04l_1 x04c_1)]⟩)]⟩ : Array Value) ++ ⟨[(.pointer (some ⟨g1.w.heap.size, 0, none⟩))]⟩) g18 fun v g21 =>
  ∃ x00_3 : Int, ∃ x01_3 : Int, ∃ x02_3 : ByteArray, ∃ x03a_3 : Option Addr, ∃ x03l_3 : Nat, ∃ x03c_3 : Nat, ∃ x04a_3 : Option Addr, ∃ x04l_3 : Nat, ∃ x04c_3 : Nat, ∃ x1_3 : Bool, v = (.tuple ⟨[(.agg ⟨[(.int .i64 x00_3), (.int .i64 x01_3), (.string x02_3), (.slice x03a_3 x03l_3 x03c_3), (.slice x04a_3 x04l_3 x04c_3)]⟩), (.bool x1_3)]⟩) ∧ ∀ g22 : G, Ex g21 g22 →
  ∃ ata_3 : Option Addr, ∃ atl_3 : Nat, ∃ atc_3 : Nat, g22.w.cell? ⟨g1.w.heap.size, 0, none⟩ = some (.slice ata_3 atl_3 atc_3) ∧ (CallsP Tryd.prog 27 #[(.agg ⟨[(.int .i64 x00_1), (.int .i64 x01_1), (.string x02_1), (.slice x03a_1 x03l_1 x03c_1), (.slice x04a_1 x04l_1 x04c_1)]⟩), (.slice ata_3 atl_3 atc_3), (.agg ⟨[(.int .i64 x00), (.int .i64 x01), (.string x02), (.slice x03a x03l x03c), (.slice x04a x04l x04c)]⟩)] g22 fun v g23 =>
  ∃ x00_4 : Int, ∃ x01_4 : Int, ∃ x02_4 : ByteArray, ∃ x03a_4 : Option Addr, ∃ x03l_4 : Nat, ∃ x03c_4 : Nat, ∃ x04a_4 : Option Addr, ∃ x04l_4 : Nat, ∃ x04c_4 : Nat, ∃ x1_4 : Int, v = (.tuple ⟨[(.agg ⟨[(.int .i64 x00_4), (.int .i64 x01_4), (.string x02_4), (.slice x03a_4 x03l_4 x03c_4), (.slice x04a_4 x04l_4 x04c_4)]⟩), (.int .i64 x1_4)]⟩) ∧ ∀ g24 : G, Ex g23 g24 →
  ifB x1_3
  ((CallsP Tryd.prog 25 #[(.agg ⟨[(.int .i64 x00_3), (.int .i64 x01_3), (.string x02_3), (.slice x03a_3 x03l_3 x03c_3), (.slice x04a_3 x04l_3 x04c_3)]⟩), (.agg ⟨[(.int .i64 by0), (.int .i64 by1), (.string by2), (.slice by3a by3l by3c), (.slice by4a by4l by4c)]⟩)] g24 fun v g25 =>
  ∃ x_1 : Bool, v = (.bool x_1) ∧ ifB x_1
  (ifB (eqI x1_4 (0 : Int))
  ((CallsP Tryd.prog 25 #[(.agg ⟨[(.int .i64 x00_4), (.int .i64 x01_4), (.string x02_4), (.slice x03a_4 x03l_4 x03c_4), (.slice x04a_4 x04l_4 x04c_4)]⟩), (.agg ⟨[(.int .i64 t0), (.int .i64 t1), (.string t2), (.slice t3a t3l t3c), (.slice t4a t4l t4c)]⟩)] g25 fun v g26 =>
  ∃ x_2 : Bool, v = (.bool x_2) ∧ ifB x_2
  ((CallsP Tryd.prog 17 #[(.agg ⟨[(.int .i64 x00_1), (.int .i64 x01_1), (.string x02_1), (.slice x03a_1 x03l_1 x03c_1), (.slice x04a_1 x04l_1 x04c_1)]⟩)] g26 fun v g27 =>
  ∃ x_3 : Int, v = (.int .i64 x_3) ∧ (CallsP Tryd.prog 17 #[(.agg ⟨[(.int .i64 t0), (.int .i64 t1), (.string t2), (.slice t3a t3l t3c), (.slice t4a t4l t4c)]⟩)] g27 fun v g28 =>
  ∃ x_4 : Int, v = (.int .i64 x_4) ∧ (CallsP Tryd.prog 17 #[(.agg ⟨[(.int .i64 x00), (.int .i64 x01), (.string x02), (.slice x03a x03l x03c), (.slice x04a x04l x04c)]⟩)] g28 fun v g29 =>
  ∃ x_5 : Int, v = (.int .i64 x_5) ∧ InI64 (x_4 - x_5) ∧ (CallsP Tryd.prog 17 #[(.agg ⟨[(.int .i64 by0), (.int .i64 by1), (.string by2), (.slice by3a by3l by3c), (.slice by4a by4l by4c)]⟩)] g29 fun v g30 =>
  ∃ x_6 : Int, v = (.int .i64 x_6) ∧ InI64 ((x_4 - x_5) + x_6) ∧ ∀ g31 : G, Ex g30 g31 →
  R (.bool (eqI x_3 ((x_4 - x_5) + x_6))) g31)))))
  (∀ g32 : G, Ex g26 g32 →
  R (.bool false) g32)))
  (∀ g33 : G, Ex g25 g33 →
  R (.bool false) g33))
  (∀ g34 : G, Ex g25 g34 →
  R (.bool false) g34)))
  (∀ g35 : G, Ex g24 g35 →
  R (.bool false) g35))))) → J_1 g18) →
  ifB (!eqI x1_2 (0 : Int))
  (∀ g36 : G, Ex g17 g36 →
  R (.bool false) g36)
  (∀ g37 : G, Ex g17 g37 →
  (CallsP Tryd.prog 25 #[(.agg ⟨[(.int .i64 x00_2), (.int .i64 x01_2), (.string x02_2), (.slice x03a_2 x03l_2 x03c_2), (.slice x04a_2 x04l_2 x04c_2)]⟩), (.agg ⟨[(.int .i64 t0), (.int .i64 t1), (.string t2), (.slice t3a t3l t3c), (.slice t4a t4l t4c)]⟩)] g37 fun v g38 =>
  ∃ x_7 : Bool, v = (.bool x_7) ∧ ifB (!x_7)
  (∀ g39 : G, Ex g38 g39 →
  R (.bool false) g39)
  (J_1 g38)))))))) → J g10) →
  ∀ g40 : G, Ex g9 g40 →
  ∃ M2 : Nat → Prop, (∀ b, b < g.w.heap.size → M2 b → nobody b) ∧ (CallsG Tryd.prog 15 #[(.agg ⟨[(.int .i64 t0), (.int .i64 t1), (.string t2), (.slice t3a t3l t3c), (.slice t4a t4l t4c)]⟩), (.pointer (some ⟨g4.w.heap.size, 0, none⟩)), (.int .i64 (0 : Int))] g40 M2 fun v g41 =>
  ∃ x_8 : Bool, v = (.bool x_8) ∧ SameB g40 g41 ∧ ifB (!x_8)
  (∀ g42 : G, Ex g41 g42 →
  R (.bool true) g42)
  (∃ M1 : Nat → Prop, (∀ b, b < g.w.heap.size → M1 b → nobody b) ∧ (CallsG Tryd.prog 15 #[(.agg ⟨[(.int .i64 by0), (.int .i64 by1), (.string by2), (.slice by3a by3l by3c), (.slice by4a by4l by4c)]⟩), (.pointer (some ⟨g6.w.heap.size, 0, none⟩)), (.int .i64 (0 : Int))] g41 M1 fun v g43 =>
  ∃ x_9 : Bool, v = (.bool x_9) ∧ SameB g40 g43 ∧ ifB (!x_9)
  (∀ g44 : G, Ex g43 g44 →
  R (.bool true) g44)
  (∃ ata_4 : Option Addr, ∃ atl_4 : Nat, ∃ atc_4 : Nat, g40.w.cell? ⟨g1.w.heap.size, 0, none⟩ = some (.slice ata_4 atl_4 atc_4) ∧ ifB (ltI (50 : Int) ((atl_4 : Nat) : Int))
  (∀ g45 : G, Ex g43 g45 →
  R (.bool true) g45)
  ((CallsP Tryd.prog 13 #[(.int .i64 t0)] g43 fun v g46 =>
  ∃ x_10 : Int, v = (.int .i64 x_10) ∧ (CallsP Tryd.prog 11 #[(.int .i64 x_10), (.agg ⟨[(.int .i64 t0), (.int .i64 t1), (.string t2), (.slice t3a t3l t3c), (.slice t4a t4l t4c)]⟩)] g46 fun v g47 =>
  ∃ x_11 : Bool, v = (.bool x_11) ∧ ifB (!x_11)
  (∀ g48 : G, Ex g47 g48 →
  R (.bool true) g48)
  (J g47))))))))))
theorem F8_eq (t0 : Int) (t1 : Int) (t2 : ByteArray) (t3a : Option Addr) (t3l : Nat) (t3c : Nat) (t4a : Option Addr) (t4l : Nat) (t4c : Nat) (ata : Option Addr) (atl : Nat) (atc : Nat) (by0 : Int) (by1 : Int) (by2 : ByteArray) (by3a : Option Addr) (by3l : Nat) (by3c : Nat) (by4a : Option Addr) (by4l : Nat) (by4c : Nat) (g : G) (R : Value → G → Prop) : fnG cfg8 131 [.tmp 6] c8 an8 [(.agg ⟨[(.int .i64 t0), (.int .i64 t1), (.string t2), (.slice t3a t3l t3c), (.slice t4a t4l t4c)]⟩), (.slice ata atl atc), (.agg ⟨[(.int .i64 by0), (.int .i64 by1), (.string by2), (.slice by3a by3l by3c), (.slice by4a by4l by4c)]⟩)] g nobody R = F8 t0 t1 t2 t3a t3l t3c t4a t4l t4c ata atl atc by0 by1 by2 by3a by3l by3c by4a by4l by4c g R := by kernel_rfl
theorem call8 (t0 : Int) (t1 : Int) (t2 : ByteArray) (t3a : Option Addr) (t3l : Nat) (t3c : Nat) (t4a : Option Addr) (t4l : Nat) (t4c : Nat) (ata : Option Addr) (atl : Nat) (atc : Nat) (by0 : Int) (by1 : Int) (by2 : ByteArray) (by3a : Option Addr) (by3l : Nat) (by3c : Nat) (by4a : Option Addr) (by4l : Nat) (by4c : Nat) (g : G) (R : Value → G → Prop) (hF : F8 t0 t1 t2 t3a t3l t3c t4a t4l t4c ata atl atc by0 by1 by2 by3a by3l by3c by4a by4l by4c g R) : CallsG Tryd.prog 8 #[(.agg ⟨[(.int .i64 t0), (.int .i64 t1), (.string t2), (.slice t3a t3l t3c), (.slice t4a t4l t4c)]⟩), (.slice ata atl atc), (.agg ⟨[(.int .i64 by0), (.int .i64 by1), (.string by2), (.slice by3a by3l by3c), (.slice by4a by4l by4c)]⟩)] g nobody R :=
  fn_soundG (c := cfg8) TTok FNSok mixed Tryd.func8 (show Tryd.f8.body = some c8 by kernel_rfl) (show Tryd.f8.ntmps = 131 by kernel_rfl) (show Tryd.f8.results.toList = [.tmp 6] by kernel_rfl) rfl ((F8_eq t0 t1 t2 t3a t3l t3c t4a t4l t4c ata atl atc by0 by1 by2 by3a by3l by3c by4a by4l by4c g R).mpr hF)

/- 9 pilaster/pilasterlaw03.awake -/
noncomputable def c9 : Code := match Tryd.f9.body with
  | some c => c
  | none => .skip
noncomputable def cfg9 : Cfg := ⟨Tryd.prog, TT, FNS, [1], [(1, 1)], [], TCH, false, false⟩
def an9 : AnnG := (.seq .leaf (.seq .leaf (.seq .leaf (.seq .leaf .leaf))))
def F9 (g : G) (R : Value → G → Prop) : Prop :=
  ∀ g1 : G, NewL g g1 9 [(.string (bs [120]))] →
  ∀ g2 : G, NewL g1 g2 25 [(.int .i64 (23 : Int)), (.int .i64 (0 : Int)), (.string (bs [])), (.slice (some ⟨g.w.heap.size, 0, none⟩) 1 1), (.slice none 0 0), (.int .i64 (21 : Int)), (.int .i64 (1 : Int)), (.string (bs [])), (.slice none 0 0), (.slice none 0 0)] →
  ∀ g3 : G, NewL g2 g3 25 [(.int .i64 (32 : Int)), (.int .i64 (7 : Int)), (.string (bs [])), (.slice none 0 0), (.slice (some ⟨g1.w.heap.size, 0, none⟩) 2 2)] →
  ∀ g4 : G, Ex g3 g4 →
  (CallsP Tryd.prog 19 #[(.agg ⟨[(.int .i64 (25 : Int)), (.int .i64 (0 : Int)), (.string (bs [120])), (.slice none 0 0), (.slice (some ⟨g2.w.heap.size, 0, none⟩) 1 1)]⟩)] g4 fun v g5 =>
  ∃ x0a : Option Addr, ∃ x0l : Nat, ∃ x0c : Nat, ∃ x1 : Int, v = (.tuple ⟨[(.slice x0a x0l x0c), (.int .i64 x1)]⟩) ∧ (CallsP Tryd.prog 11 #[(.int .i64 (3 : Int)), (.agg ⟨[(.int .i64 (25 : Int)), (.int .i64 (0 : Int)), (.string (bs [120])), (.slice none 0 0), (.slice (some ⟨g2.w.heap.size, 0, none⟩) 1 1)]⟩)] g5 fun v g6 =>
  ∃ x : Bool, v = (.bool x) ∧ ifB x
  ((CallsP Tryd.prog 11 #[(.int .i64 (1 : Int)), (.agg ⟨[(.int .i64 (25 : Int)), (.int .i64 (0 : Int)), (.string (bs [120])), (.slice none 0 0), (.slice (some ⟨g2.w.heap.size, 0, none⟩) 1 1)]⟩)] g6 fun v g7 =>
  ∃ x_1 : Bool, v = (.bool x_1) ∧ ifB (!x_1)
  ((CallsP Tryd.prog 17 #[(.agg ⟨[(.int .i64 (25 : Int)), (.int .i64 (0 : Int)), (.string (bs [120])), (.slice none 0 0), (.slice (some ⟨g2.w.heap.size, 0, none⟩) 1 1)]⟩)] g7 fun v g8 =>
  ∃ x_2 : Int, v = (.int .i64 x_2) ∧ ifB (eqI x_2 (4 : Int))
  ((CallsP Tryd.prog 18 #[(.agg ⟨[(.int .i64 (25 : Int)), (.int .i64 (0 : Int)), (.string (bs [120])), (.slice none 0 0), (.slice (some ⟨g2.w.heap.size, 0, none⟩) 1 1)]⟩)] g8 fun v g9 =>
  ∃ x_3 : Int, v = (.int .i64 x_3) ∧ ifB (eqI x_3 (3 : Int))
  (ifB (eqI x1 (0 : Int))
  (ifB (eqI ((x0l : Nat) : Int) (1 : Int))
  ((0 ≤ (0 : Int) ∧ (0 : Int) < ((x0l : Nat) : Int)) ∧ derefP x0a fun ad => ∃ xa : Option Addr, ∃ xl : Nat, ∃ xc : Nat, g9.w.cell? (Addr.add ad (Int.toNat (0 : Int) * 1)) = some (.slice xa xl xc) ∧ ∀ g10 : G, NewL g9 g10 9 [(.string (bs [120]))] →
  (CallsP Tryd.prog 30 #[(.slice xa xl xc), (.slice (some ⟨g9.w.heap.size, 0, none⟩) 1 1)] g10 fun v g11 =>
  ∃ x_4 : Bool, v = (.bool x_4) ∧ ∀ g12 : G, Ex g11 g12 →
  R (.bool x_4) g12))
  (∀ g13 : G, Ex g9 g13 →
  R (.bool false) g13))
  (∀ g14 : G, Ex g9 g14 →
  R (.bool false) g14))
  (∀ g15 : G, Ex g9 g15 →
  R (.bool false) g15)))
  (∀ g16 : G, Ex g8 g16 →
  R (.bool false) g16)))
  (∀ g17 : G, Ex g7 g17 →
  R (.bool false) g17)))
  (∀ g18 : G, Ex g6 g18 →
  R (.bool false) g18)))
theorem F9_eq (g : G) (R : Value → G → Prop) : fnG cfg9 49 [.tmp 0] c9 an9 [] g nobody R = F9 g R := by kernel_rfl
theorem call9 (g : G) (R : Value → G → Prop) (hF : F9 g R) : CallsG Tryd.prog 9 #[] g nobody R :=
  fn_soundG (c := cfg9) TTok FNSok mixed Tryd.func9 (show Tryd.f9.body = some c9 by kernel_rfl) (show Tryd.f9.ntmps = 49 by kernel_rfl) (show Tryd.f9.results.toList = [.tmp 0] by kernel_rfl) rfl ((F9_eq g R).mpr hF)

/- 10 pilaster/pilasterlaw03.fits -/
noncomputable def c10 : Code := match Tryd.f10.body with
  | some c => c
  | none => .skip
noncomputable def cfg10 : Cfg := ⟨Tryd.prog, TT, FNS, [1], [(1, 1)], [], TCH, false, false⟩
def an10 : AnnG := (.seq .leaf (.seq .leaf (.seq .leaf .leaf)))
def F10 (t0 : Int) (t1 : Int) (t2 : ByteArray) (t3a : Option Addr) (t3l : Nat) (t3c : Nat) (t4a : Option Addr) (t4l : Nat) (t4c : Nat) (g : G) (R : Value → G → Prop) : Prop :=
  ∀ g1 : G, Ex g g1 →
  ∀ g2 : G, NewD g1 g2 3 [(.int .i64 (0 : Int))] →
  stOk g2.w ⟨g1.w.heap.size, 0, none⟩ 1 ∧ ¬ g2.X (Addr.block ⟨g1.w.heap.size, 0, none⟩) ∧ mutAt g2 ⟨g1.w.heap.size, 0, none⟩ 1 ∧ ((Addr.block ⟨g1.w.heap.size, 0, none⟩) < g.w.heap.size → nobody (Addr.block ⟨g1.w.heap.size, 0, none⟩)) ∧ ∀ g3 : G, StG false g2 ⟨g1.w.heap.size, 0, none⟩ [(.int .i64 (4500 : Int))] g3 →
  ∃ M1 : Nat → Prop, (∀ b, b < g.w.heap.size → M1 b → nobody b) ∧ (CallsG Tryd.prog 15 #[(.agg ⟨[(.int .i64 t0), (.int .i64 t1), (.string t2), (.slice t3a t3l t3c), (.slice t4a t4l t4c)]⟩), (.pointer (some ⟨g1.w.heap.size, 0, none⟩)), (.int .i64 (0 : Int))] g3 M1 fun v g4 =>
  ∃ x : Bool, v = (.bool x) ∧ ∀ g5 : G, Ex g4 g5 →
  R (.bool x) g5)
theorem F10_eq (t0 : Int) (t1 : Int) (t2 : ByteArray) (t3a : Option Addr) (t3l : Nat) (t3c : Nat) (t4a : Option Addr) (t4l : Nat) (t4c : Nat) (g : G) (R : Value → G → Prop) : fnG cfg10 6 [.tmp 2] c10 an10 [(.agg ⟨[(.int .i64 t0), (.int .i64 t1), (.string t2), (.slice t3a t3l t3c), (.slice t4a t4l t4c)]⟩)] g nobody R = F10 t0 t1 t2 t3a t3l t3c t4a t4l t4c g R := by kernel_rfl
theorem call10 (t0 : Int) (t1 : Int) (t2 : ByteArray) (t3a : Option Addr) (t3l : Nat) (t3c : Nat) (t4a : Option Addr) (t4l : Nat) (t4c : Nat) (g : G) (R : Value → G → Prop) (hF : F10 t0 t1 t2 t3a t3l t3c t4a t4l t4c g R) : CallsG Tryd.prog 10 #[(.agg ⟨[(.int .i64 t0), (.int .i64 t1), (.string t2), (.slice t3a t3l t3c), (.slice t4a t4l t4c)]⟩)] g nobody R :=
  fn_soundG (c := cfg10) TTok FNSok mixed Tryd.func10 (show Tryd.f10.body = some c10 by kernel_rfl) (show Tryd.f10.ntmps = 6 by kernel_rfl) (show Tryd.f10.results.toList = [.tmp 2] by kernel_rfl) rfl ((F10_eq t0 t1 t2 t3a t3l t3c t4a t4l t4c g R).mpr hF)

/- 11 pilaster/syntax.Valid -/
noncomputable def c11 : Code := match Tryd.f11.body with
  | some c => c
  | none => .skip
noncomputable def cfg11 : Cfg := ⟨Tryd.prog, TT, FNS, [3], [(3, 3)], [], TCH, false, false⟩
def an11 : AnnG := (.seq .leaf (.seq .leaf .leaf))
def F11 (cat : Int) (t0 : Int) (t1 : Int) (t2 : ByteArray) (t3a : Option Addr) (t3l : Nat) (t3c : Nat) (t4a : Option Addr) (t4l : Nat) (t4c : Nat) (g : G) (R : Value → G → Prop) : Prop :=
  ∀ g1 : G, Ex g g1 →
  (CallsP Tryd.prog 31 #[(.int .i64 cat), (.agg ⟨[(.int .i64 t0), (.int .i64 t1), (.string t2), (.slice t3a t3l t3c), (.slice t4a t4l t4c)]⟩)] g1 fun v g2 =>
  ∃ x : Bool, v = (.bool x) ∧ ifB x
  ((CallsP Tryd.prog 32 #[(.agg ⟨[(.int .i64 t0), (.int .i64 t1), (.string t2), (.slice t3a t3l t3c), (.slice t4a t4l t4c)]⟩)] g2 fun v g3 =>
  ∃ x_1 : Bool, v = (.bool x_1) ∧ ∀ g4 : G, Ex g3 g4 →
  R (.bool x_1) g4))
  (∀ g5 : G, Ex g2 g5 →
  R (.bool false) g5))
theorem F11_eq (cat : Int) (t0 : Int) (t1 : Int) (t2 : ByteArray) (t3a : Option Addr) (t3l : Nat) (t3c : Nat) (t4a : Option Addr) (t4l : Nat) (t4c : Nat) (g : G) (R : Value → G → Prop) : fnG cfg11 12 [.tmp 4] c11 an11 [(.int .i64 cat), (.agg ⟨[(.int .i64 t0), (.int .i64 t1), (.string t2), (.slice t3a t3l t3c), (.slice t4a t4l t4c)]⟩)] g nobody R = F11 cat t0 t1 t2 t3a t3l t3c t4a t4l t4c g R := by kernel_rfl
theorem call11 (cat : Int) (t0 : Int) (t1 : Int) (t2 : ByteArray) (t3a : Option Addr) (t3l : Nat) (t3c : Nat) (t4a : Option Addr) (t4l : Nat) (t4c : Nat) (g : G) (R : Value → G → Prop) (hF : F11 cat t0 t1 t2 t3a t3l t3c t4a t4l t4c g R) : CallsG Tryd.prog 11 #[(.int .i64 cat), (.agg ⟨[(.int .i64 t0), (.int .i64 t1), (.string t2), (.slice t3a t3l t3c), (.slice t4a t4l t4c)]⟩)] g nobody R :=
  fn_soundG (c := cfg11) TTok FNSok mixed Tryd.func11 (show Tryd.f11.body = some c11 by kernel_rfl) (show Tryd.f11.ntmps = 12 by kernel_rfl) (show Tryd.f11.results.toList = [.tmp 4] by kernel_rfl) rfl ((F11_eq cat t0 t1 t2 t3a t3l t3c t4a t4l t4c g R).mpr hF)

/- 12 pilaster/pilasterref03.Valid -/
noncomputable def c12 : Code := match Tryd.f12.body with
  | some c => c
  | none => .skip
noncomputable def cfg12 : Cfg := ⟨Tryd.prog, TT, FNS, [3], [(3, 3), (12, 3)], [], TCH, false, false⟩
def an12 : AnnG := (.seq .leaf (.seq .leaf .leaf))
def F12 (cat : Int) (t0 : Int) (t1 : Int) (t2 : ByteArray) (t3a : Option Addr) (t3l : Nat) (t3c : Nat) (t4a : Option Addr) (t4l : Nat) (t4c : Nat) (g : G) (R : Value → G → Prop) : Prop :=
  ifB (leI (1 : Int) cat)
  (ifB (leI cat (7 : Int))
  (∀ g1 : G, Ex g g1 →
  (CallsP Tryd.prog 33 #[(.int .i64 t0), (.int .i64 cat)] g1 fun v g2 =>
  ∃ x : Bool, v = (.bool x) ∧ ifB x
  ((CallsP Tryd.prog 34 #[(.agg ⟨[(.int .i64 t0), (.int .i64 t1), (.string t2), (.slice t3a t3l t3c), (.slice t4a t4l t4c)]⟩)] g2 fun v g3 =>
  ∃ x_1 : Bool, v = (.bool x_1) ∧ ∀ g4 : G, Ex g3 g4 →
  R (.bool x_1) g4))
  (∀ g5 : G, Ex g2 g5 →
  R (.bool false) g5)))
  (∀ g6 : G, Ex g g6 →
  R (.bool false) g6))
  (∀ g7 : G, Ex g g7 →
  R (.bool false) g7)
theorem F12_eq (cat : Int) (t0 : Int) (t1 : Int) (t2 : ByteArray) (t3a : Option Addr) (t3l : Nat) (t3c : Nat) (t4a : Option Addr) (t4l : Nat) (t4c : Nat) (g : G) (R : Value → G → Prop) : fnG cfg12 21 [.tmp 4] c12 an12 [(.int .i64 cat), (.agg ⟨[(.int .i64 t0), (.int .i64 t1), (.string t2), (.slice t3a t3l t3c), (.slice t4a t4l t4c)]⟩)] g nobody R = F12 cat t0 t1 t2 t3a t3l t3c t4a t4l t4c g R := by kernel_rfl
theorem call12 (cat : Int) (t0 : Int) (t1 : Int) (t2 : ByteArray) (t3a : Option Addr) (t3l : Nat) (t3c : Nat) (t4a : Option Addr) (t4l : Nat) (t4c : Nat) (g : G) (R : Value → G → Prop) (hF : F12 cat t0 t1 t2 t3a t3l t3c t4a t4l t4c g R) : CallsG Tryd.prog 12 #[(.int .i64 cat), (.agg ⟨[(.int .i64 t0), (.int .i64 t1), (.string t2), (.slice t3a t3l t3c), (.slice t4a t4l t4c)]⟩)] g nobody R :=
  fn_soundG (c := cfg12) TTok FNSok mixed Tryd.func12 (show Tryd.f12.body = some c12 by kernel_rfl) (show Tryd.f12.ntmps = 21 by kernel_rfl) (show Tryd.f12.results.toList = [.tmp 4] by kernel_rfl) rfl ((F12_eq cat t0 t1 t2 t3a t3l t3c t4a t4l t4c g R).mpr hF)

/- 13 pilaster/syntax.Category -/
noncomputable def c13 : Code := match Tryd.f13.body with
  | some c => c
  | none => .skip
noncomputable def cfg13 : Cfg := ⟨Tryd.prog, TT, FNS, [], [], [], TCH, false, false⟩
def an13 : AnnG := (.seq .leaf (.seq (.seq .leaf (.blk (.join ⟨[(4, .bool)], [], []⟩ (.seq .leaf (.cond .leaf (.seq .leaf (.cond .leaf (.seq .leaf (.cond .leaf (.seq .leaf (.cond .leaf .leaf)))))))) (.cond (.seq .leaf .leaf) (.join ⟨[(10, .bool)], [], []⟩ (.seq .leaf (.cond .leaf (.seq .leaf (.cond .leaf (.seq .leaf (.cond .leaf (.seq .leaf (.cond .leaf .leaf)))))))) (.cond (.seq .leaf .leaf) (.join ⟨[(16, .bool)], [], []⟩ (.seq .leaf (.cond .leaf (.seq .leaf (.cond .leaf (.seq .leaf (.cond .leaf (.seq .leaf (.cond .leaf (.seq .leaf (.cond .leaf (.seq .leaf (.cond .leaf (.seq .leaf (.cond .leaf (.seq .leaf (.cond .leaf (.seq .leaf (.cond .leaf (.seq .leaf (.cond .leaf (.seq .leaf (.cond .leaf (.seq .leaf (.cond .leaf .leaf)))))))))))))))))))))))) (.cond (.seq .leaf .leaf) (.join ⟨[(30, .bool)], [], []⟩ (.seq .leaf (.cond .leaf (.seq .leaf (.cond .leaf (.seq .leaf (.cond .leaf (.seq .leaf (.cond .leaf (.seq .leaf (.cond .leaf (.seq .leaf (.cond .leaf (.seq .leaf (.cond .leaf (.seq .leaf (.cond .leaf .leaf)))))))))))))))) (.cond (.seq .leaf .leaf) (.join ⟨[(40, .bool)], [], []⟩ (.seq .leaf (.cond .leaf (.seq .leaf (.cond .leaf (.seq .leaf (.cond .leaf (.seq .leaf (.cond .leaf (.seq .leaf (.cond .leaf .leaf)))))))))) (.cond (.seq .leaf .leaf) (.join ⟨[(47, .bool)], [], []⟩ (.seq .leaf (.cond .leaf (.seq .leaf (.cond .leaf (.seq .leaf (.cond .leaf .leaf)))))) (.cond (.seq .leaf .leaf) (.join ⟨[(52, .bool)], [], []⟩ (.seq .leaf (.cond .leaf (.seq .leaf (.cond .leaf (.seq .leaf (.cond .leaf (.seq .leaf (.cond .leaf (.seq .leaf (.cond .leaf (.seq .leaf (.cond .leaf (.seq .leaf (.cond .leaf .leaf)))))))))))))) (.cond (.seq .leaf .leaf) .leaf)))))))))))))))) (.seq .leaf .leaf)))
def F13 (op : Int) (g : G) (R : Value → G → Prop) : Prop :=
  ∀ J : Bool → G → Prop,
  (∀ v_1 : Bool, ∀ g1 : G, (ifB v_1
  (∀ g2 : G, Ex g1 g2 →
  R (.int .i64 (1 : Int)) g2)
  (∀ J_1 : Bool → G → Prop,
  (∀ v_2 : Bool, ∀ g3 : G, (ifB v_2
  (∀ g4 : G, Ex g3 g4 →
  R (.int .i64 (2 : Int)) g4)
  (∀ J_2 : Bool → G → Prop,
  (∀ v_3 : Bool, ∀ g5 : G, (ifB v_3
  (∀ g6 : G, Ex g5 g6 →
  R (.int .i64 (3 : Int)) g6)
  (∀ J_3 : Bool → G → Prop,
  (∀ v_4 : Bool, ∀ g7 : G, (ifB v_4
  (∀ g8 : G, Ex g7 g8 →
  R (.int .i64 (4 : Int)) g8)
  (∀ J_4 : Bool → G → Prop,
  (∀ v_5 : Bool, ∀ g9 : G, (ifB v_5
  (∀ g10 : G, Ex g9 g10 →
  R (.int .i64 (5 : Int)) g10)
  (∀ J_5 : Bool → G → Prop,
  (∀ v_6 : Bool, ∀ g11 : G, (ifB v_6
  (∀ g12 : G, Ex g11 g12 →
  R (.int .i64 (6 : Int)) g12)
  (∀ J_6 : Bool → G → Prop,
  (∀ v_7 : Bool, ∀ g13 : G, (ifB v_7
  (∀ g14 : G, Ex g13 g14 →
  R (.int .i64 (7 : Int)) g14)
  (∀ g15 : G, Ex g13 g15 →
  R (.int .i64 (0 : Int)) g15)) → J_6 v_7 g13) →
  ifB (eqI op (81 : Int))
  (J_6 true g11)
  (ifB (eqI op (82 : Int))
  (J_6 true g11)
  (ifB (eqI op (83 : Int))
  (J_6 true g11)
  (ifB (eqI op (84 : Int))
  (J_6 true g11)
  (ifB (eqI op (85 : Int))
  (J_6 true g11)
  (ifB (eqI op (86 : Int))
  (J_6 true g11)
  (ifB (eqI op (87 : Int))
  (J_6 true g11)
  (J_6 (eqI op (88 : Int)) g11))))))))) → J_5 v_6 g11) →
  ifB (eqI op (71 : Int))
  (J_5 true g9)
  (ifB (eqI op (72 : Int))
  (J_5 true g9)
  (ifB (eqI op (73 : Int))
  (J_5 true g9)
  (J_5 (eqI op (74 : Int)) g9))))) → J_4 v_5 g9) →
  ifB (eqI op (61 : Int))
  (J_4 true g7)
  (ifB (eqI op (62 : Int))
  (J_4 true g7)
  (ifB (eqI op (63 : Int))
  (J_4 true g7)
  (ifB (eqI op (64 : Int))
  (J_4 true g7)
  (ifB (eqI op (65 : Int))
  (J_4 true g7)
  (J_4 (eqI op (66 : Int)) g7))))))) → J_3 v_4 g7) →
  ifB (eqI op (41 : Int))
  (J_3 true g5)
  (ifB (eqI op (42 : Int))
  (J_3 true g5)
  (ifB (eqI op (43 : Int))
  (J_3 true g5)
  (ifB (eqI op (44 : Int))
  (J_3 true g5)
  (ifB (eqI op (46 : Int))
  (J_3 true g5)
  (ifB (eqI op (47 : Int))
  (J_3 true g5)
  (ifB (eqI op (48 : Int))
  (J_3 true g5)
  (ifB (eqI op (49 : Int))
  (J_3 true g5)
  (J_3 (eqI op (50 : Int)) g5)))))))))) → J_2 v_3 g5) →
  ifB (eqI op (21 : Int))
  (J_2 true g3)
  (ifB (eqI op (22 : Int))
  (J_2 true g3)
  (ifB (eqI op (23 : Int))
  (J_2 true g3)
  (ifB (eqI op (24 : Int))
  (J_2 true g3)
  (ifB (eqI op (25 : Int))
  (J_2 true g3)
  (ifB (eqI op (26 : Int))
  (J_2 true g3)
  (ifB (eqI op (27 : Int))
  (J_2 true g3)
  (ifB (eqI op (28 : Int))
  (J_2 true g3)
  (ifB (eqI op (29 : Int))
  (J_2 true g3)
  (ifB (eqI op (31 : Int))
  (J_2 true g3)
  (ifB (eqI op (32 : Int))
  (J_2 true g3)
  (ifB (eqI op (33 : Int))
  (J_2 true g3)
  (J_2 (eqI op (34 : Int)) g3)))))))))))))) → J_1 v_2 g3) →
  ifB (eqI op (11 : Int))
  (J_1 true g1)
  (ifB (eqI op (12 : Int))
  (J_1 true g1)
  (ifB (eqI op (13 : Int))
  (J_1 true g1)
  (ifB (eqI op (14 : Int))
  (J_1 true g1)
  (J_1 (eqI op (15 : Int)) g1)))))) → J v_1 g1) →
  ifB (eqI op (1 : Int))
  (J true g)
  (ifB (eqI op (2 : Int))
  (J true g)
  (ifB (eqI op (3 : Int))
  (J true g)
  (ifB (eqI op (4 : Int))
  (J true g)
  (J (eqI op (5 : Int)) g))))
theorem F13_eq (op : Int) (g : G) (R : Value → G → Prop) : fnG cfg13 61 [.tmp 2] c13 an13 [(.int .i64 op)] g nobody R = F13 op g R := by kernel_rfl
theorem call13 (op : Int) (g : G) (R : Value → G → Prop) (hF : F13 op g R) : CallsG Tryd.prog 13 #[(.int .i64 op)] g nobody R :=
  fn_soundG (c := cfg13) TTok FNSok mixed Tryd.func13 (show Tryd.f13.body = some c13 by kernel_rfl) (show Tryd.f13.ntmps = 61 by kernel_rfl) (show Tryd.f13.results.toList = [.tmp 2] by kernel_rfl) rfl ((F13_eq op g R).mpr hF)

/- 14 pilaster/pilasterref03.Category -/
noncomputable def c14 : Code := match Tryd.f14.body with
  | some c => c
  | none => .skip
noncomputable def cfg14 : Cfg := ⟨Tryd.prog, TT, FNS, [], [], [], TCH, false, false⟩
def an14 : AnnG := (.seq .leaf (.join ⟨[], [], []⟩ (.seq .leaf (.cond (.seq .leaf .leaf) .leaf)) (.join ⟨[], [], []⟩ (.seq .leaf (.cond (.seq .leaf .leaf) .leaf)) (.join ⟨[], [], []⟩ (.seq .leaf (.cond (.seq .leaf .leaf) .leaf)) (.join ⟨[], [], []⟩ (.seq .leaf (.cond (.seq .leaf .leaf) .leaf)) (.join ⟨[], [], []⟩ (.seq .leaf (.cond (.seq .leaf .leaf) .leaf)) (.join ⟨[], [], []⟩ (.seq .leaf (.cond (.seq .leaf .leaf) .leaf)) (.seq (.seq .leaf (.cond (.seq .leaf .leaf) .leaf)) (.seq .leaf .leaf)))))))))
def F14 (op : Int) (g : G) (R : Value → G → Prop) : Prop :=
  ∀ J : G → Prop,
  (∀ g1 : G, (∀ J_1 : G → Prop,
  (∀ g2 : G, (∀ J_2 : G → Prop,
  (∀ g3 : G, (∀ J_3 : G → Prop,
  (∀ g4 : G, (∀ J_4 : G → Prop,
  (∀ g5 : G, (∀ J_5 : G → Prop,
  (∀ g6 : G, (ifB (leI (81 : Int) op)
  (ifB (leI op (88 : Int))
  (∀ g7 : G, Ex g6 g7 →
  R (.int .i64 (7 : Int)) g7)
  (∀ g8 : G, Ex g6 g8 →
  R (.int .i64 (0 : Int)) g8))
  (∀ g9 : G, Ex g6 g9 →
  R (.int .i64 (0 : Int)) g9)) → J_5 g6) →
  ifB (leI (71 : Int) op)
  (ifB (leI op (74 : Int))
  (∀ g10 : G, Ex g5 g10 →
  R (.int .i64 (6 : Int)) g10)
  (J_5 g5))
  (J_5 g5)) → J_4 g5) →
  ifB (leI (61 : Int) op)
  (ifB (leI op (66 : Int))
  (∀ g11 : G, Ex g4 g11 →
  R (.int .i64 (5 : Int)) g11)
  (J_4 g4))
  (J_4 g4)) → J_3 g4) →
  ifB (leI (41 : Int) op)
  (ifB (leI op (50 : Int))
  (ifB (!eqI op (45 : Int))
  (∀ g12 : G, Ex g3 g12 →
  R (.int .i64 (4 : Int)) g12)
  (J_3 g3))
  (J_3 g3))
  (J_3 g3)) → J_2 g3) →
  ifB (leI (21 : Int) op)
  (ifB (leI op (34 : Int))
  (ifB (!eqI op (30 : Int))
  (∀ g13 : G, Ex g2 g13 →
  R (.int .i64 (3 : Int)) g13)
  (J_2 g2))
  (J_2 g2))
  (J_2 g2)) → J_1 g2) →
  ifB (leI (11 : Int) op)
  (ifB (leI op (15 : Int))
  (∀ g14 : G, Ex g1 g14 →
  R (.int .i64 (2 : Int)) g14)
  (J_1 g1))
  (J_1 g1)) → J g1) →
  ifB (leI (1 : Int) op)
  (ifB (leI op (5 : Int))
  (∀ g15 : G, Ex g g15 →
  R (.int .i64 (1 : Int)) g15)
  (J g))
  (J g)
theorem F14_eq (op : Int) (g : G) (R : Value → G → Prop) : fnG cfg14 53 [.tmp 2] c14 an14 [(.int .i64 op)] g nobody R = F14 op g R := by kernel_rfl
theorem call14 (op : Int) (g : G) (R : Value → G → Prop) (hF : F14 op g R) : CallsG Tryd.prog 14 #[(.int .i64 op)] g nobody R :=
  fn_soundG (c := cfg14) TTok FNSok mixed Tryd.func14 (show Tryd.f14.body = some c14 by kernel_rfl) (show Tryd.f14.ntmps = 53 by kernel_rfl) (show Tryd.f14.results.toList = [.tmp 2] by kernel_rfl) rfl ((F14_eq op g R).mpr hF)

/- 15 pilaster/pilasterlaw03.few -/
noncomputable def c15 : Code := match Tryd.f15.body with
  | some c => c
  | none => .skip
noncomputable def cfg15 : Cfg := ⟨Tryd.prog, TT, FNS, [3], [(3, 3), (21, 3), (27, 3), (32, 3), (39, 3), (45, 3), (49, 3)], [4, 5], TCH, false, false⟩
def an15 : AnnG := (.seq .leaf (.seq .leaf (.join ⟨[], [], []⟩ (.seq .leaf (.cond (.seq .leaf .leaf) .leaf)) (.seq .leaf .leaf))))
def F15 (t0 : Int) (t1 : Int) (t2 : ByteArray) (t3a : Option Addr) (t3l : Nat) (t3c : Nat) (t4a : Option Addr) (t4l : Nat) (t4c : Nat) (left : Option Addr) (depth : Int) (g : G) (M : Nat → Prop) (R : Value → G → Prop) : Prop :=
  ∀ g1 : G, Ex g g1 →
  ∀ g2 : G, NewL g1 g2 32 ([(.pointer left)] : List Value) →
  ∀ g3 : G, NewL g2 g3 3 ([(.int .i64 depth)] : List Value) →
  ∃ left_1 : Option Addr, g3.w.cell? ⟨g1.w.heap.size, 0, none⟩ = some (.pointer left_1) ∧ derefP left_1 fun ad => ∃ x : Int, g3.w.cell? ad = some (.int .i64 x) ∧ InI64 (x - (1 : Int)) ∧ derefP left_1 fun ad_1 => stOk g3.w ad_1 1 ∧ ¬ g3.X (Addr.block ad_1) ∧ mutAt g3 ad_1 1 ∧ ((Addr.block ad_1) < g.w.heap.size → M (Addr.block ad_1)) ∧ ∀ g4 : G, StG false g3 ad_1 [(.int .i64 (x - (1 : Int)))] g4 →
  ∀ J : G → Prop,
  (∀ g5 : G, (∃ M1 : Nat → Prop, (∀ b, b < g.w.heap.size → M1 b → M b) ∧ (CallsG Tryd.prog 37 #[(.slice t4a t4l t4c), (.func (.func 38) #[] ⟨[(.pointer (some ⟨g1.w.heap.size, 0, none⟩)), (.pointer (some ⟨g2.w.heap.size, 0, none⟩))]⟩)] g5 M1 fun v g6 =>
  ∃ x_1 : Bool, v = (.bool x_1) ∧ ∀ g7 : G, Ex g6 g7 →
  R (.bool (!x_1)) g7)) → J g5) →
  ∃ left_2 : Option Addr, g4.w.cell? ⟨g1.w.heap.size, 0, none⟩ = some (.pointer left_2) ∧ derefP left_2 fun ad_2 => ∃ x_2 : Int, g4.w.cell? ad_2 = some (.int .i64 x_2) ∧ ifB (ltI x_2 (0 : Int))
  (∀ g8 : G, Ex g4 g8 →
  R (.bool false) g8)
  (∃ depth_1 : Int, g4.w.cell? ⟨g2.w.heap.size, 0, none⟩ = some (.int .i64 depth_1) ∧ ifB (ltI (500 : Int) depth_1)
  (∀ g9 : G, Ex g4 g9 →
  R (.bool false) g9)
  (ifB (ltI (30 : Int) ((t3l : Nat) : Int))
  (∀ g10 : G, Ex g4 g10 →
  R (.bool false) g10)
  (ifB (ltI (500 : Int) ((t2.size : Nat) : Int))
  (ifB (leI ((t2.size : Nat) : Int) (16384 : Int))
  (∀ g11 : G, Ex g4 g11 →
  R (.bool false) g11)
  (ifB (ltI (16484 : Int) ((t2.size : Nat) : Int))
  (∀ g12 : G, Ex g4 g12 →
  R (.bool false) g12)
  ((CallsP Tryd.prog 35 #[(.slice t3a t3l t3c), (.func (.func 36) #[] #[])] g4 fun v g13 =>
  ∃ x_3 : Bool, v = (.bool x_3) ∧ ifB x_3
  (∀ g14 : G, Ex g13 g14 →
  R (.bool false) g14)
  (J g13)))))
  (ifB (ltI (16484 : Int) ((t2.size : Nat) : Int))
  (∀ g15 : G, Ex g4 g15 →
  R (.bool false) g15)
  ((CallsP Tryd.prog 35 #[(.slice t3a t3l t3c), (.func (.func 36) #[] #[])] g4 fun v g16 =>
  ∃ x_4 : Bool, v = (.bool x_4) ∧ ifB x_4
  (∀ g17 : G, Ex g16 g17 →
  R (.bool false) g17)
  (J g16)))))))
theorem F15_eq (t0 : Int) (t1 : Int) (t2 : ByteArray) (t3a : Option Addr) (t3l : Nat) (t3c : Nat) (t4a : Option Addr) (t4l : Nat) (t4c : Nat) (left : Option Addr) (depth : Int) (g : G) (M : Nat → Prop) (R : Value → G → Prop) : fnG cfg15 54 [.tmp 6] c15 an15 [(.agg ⟨[(.int .i64 t0), (.int .i64 t1), (.string t2), (.slice t3a t3l t3c), (.slice t4a t4l t4c)]⟩), (.pointer left), (.int .i64 depth)] g M R = F15 t0 t1 t2 t3a t3l t3c t4a t4l t4c left depth g M R := by kernel_rfl
theorem call15 (t0 : Int) (t1 : Int) (t2 : ByteArray) (t3a : Option Addr) (t3l : Nat) (t3c : Nat) (t4a : Option Addr) (t4l : Nat) (t4c : Nat) (left : Option Addr) (depth : Int) (g : G) (M : Nat → Prop) (R : Value → G → Prop) (hF : F15 t0 t1 t2 t3a t3l t3c t4a t4l t4c left depth g M R) : CallsG Tryd.prog 15 #[(.agg ⟨[(.int .i64 t0), (.int .i64 t1), (.string t2), (.slice t3a t3l t3c), (.slice t4a t4l t4c)]⟩), (.pointer left), (.int .i64 depth)] g M R :=
  fn_soundG (c := cfg15) TTok FNSok mixed Tryd.func15 (show Tryd.f15.body = some c15 by kernel_rfl) (show Tryd.f15.ntmps = 54 by kernel_rfl) (show Tryd.f15.results.toList = [.tmp 6] by kernel_rfl) rfl ((F15_eq t0 t1 t2 t3a t3l t3c t4a t4l t4c left depth g M R).mpr hF)

/- 16 pilaster/pilasterlaw03.SyntaxParts$1 -/
noncomputable def c16 : Code := match Tryd.f16.body with
  | some c => c
  | none => .skip
noncomputable def cfg16 : Cfg := ⟨Tryd.prog, TT, FNS, [2, 7], [(2, 2), (7, 7), (9, 2), (25, 7), (31, 2)], [], TCH, false, false⟩
def an16 : AnnG := (.seq .leaf (.seq .leaf (.seq (.seq .leaf (.blk (.loop ⟨[(4, .int .i64), (5, .int .i64), (12, .int .i64)], [], []⟩ (.seq .leaf (.seq (.cond .leaf .leaf) (.join ⟨[(4, .int .i64), (5, .int .i64)], [], []⟩ (.blk (.seq .leaf (.seq .leaf (.seq .leaf (.seq .leaf (.seq .leaf (.cond (.seq .leaf .leaf) .leaf))))))) .leaf)))))) (.seq .leaf .leaf))))
def F16 (t0 : Int) (t1 : Int) (t2 : ByteArray) (t3a : Option Addr) (t3l : Nat) (t3c : Nat) (t4a : Option Addr) (t4l : Nat) (t4c : Nat) (c0 : Option Addr) (g : G) (R : Value → G → Prop) : Prop :=
  ∃ Inv : Nat → Int → Int → Int → G → Prop, (∀ g1 : G, Ex g g1 →
  (∃ m0 : Nat, Inv m0 (1 : Int) (0 : Int) (0 : Int) g1)) ∧
  ∀ m : Nat, ∀ size : Int, ∀ depth : Int, ∀ v_1 : Int, ∀ g2 : G, Le g g2 → Inv m size depth v_1 g2 →
  ifB (ltI v_1 ((t4l : Nat) : Int))
  (∀ J : Int → Int → G → Prop,
  (∀ size_1 : Int, ∀ depth_1 : Int, ∀ g3 : G, (InI64 (v_1 + (1 : Int)) ∧ (∃ m_1 : Nat, m_1 < m ∧ Inv m_1 size_1 depth_1 (v_1 + (1 : Int)) g3)) → J size_1 depth_1 g3) →
  (0 ≤ v_1 ∧ v_1 < ((t4l : Nat) : Int)) ∧ derefP t4a fun ad => ∃ x0 : Int, ∃ x1 : Int, ∃ x2 : ByteArray, ∃ x3a : Option Addr, ∃ x3l : Nat, ∃ x3c : Nat, ∃ x4a : Option Addr, ∃ x4l : Nat, ∃ x4c : Nat, g2.w.cell? (Addr.add ad (Int.toNat v_1 * 5)) = some (.int .i64 x0) ∧ g2.w.cell? (Addr.add (Addr.add ad (Int.toNat v_1 * 5)) 1) = some (.int .i64 x1) ∧ g2.w.cell? (Addr.add (Addr.add ad (Int.toNat v_1 * 5)) 2) = some (.string x2) ∧ g2.w.cell? (Addr.add (Addr.add ad (Int.toNat v_1 * 5)) 3) = some (.slice x3a x3l x3c) ∧ g2.w.cell? (Addr.add (Addr.add ad (Int.toNat v_1 * 5)) 4) = some (.slice x4a x4l x4c) ∧ ∀ g4 : G, Ex g2 g4 →
  (CallsP Tryd.prog 17 #[(.agg ⟨[(.int .i64 x0), (.int .i64 x1), (.string x2), (.slice x3a x3l x3c), (.slice x4a x4l x4c)]⟩)] g4 fun v g5 =>
  ∃ x : Int, v = (.int .i64 x) ∧ InI64 (size + x) ∧ (CallsP Tryd.prog 18 #[(.agg ⟨[(.int .i64 x0), (.int .i64 x1), (.string x2), (.slice x3a x3l x3c), (.slice x4a x4l x4c)]⟩)] g5 fun v g6 =>
  ∃ x_1 : Int, v = (.int .i64 x_1) ∧ (CallsP Tryd.prog 13 #[(.int .i64 x0)] g6 fun v g7 =>
  ∃ c : Int, v = (.int .i64 c) ∧ ifB (!eqI c (0 : Int))
  (ifB (eqI t0 (74 : Int))
  (ifB (!(eqI v_1 (1 : Int)))
  ((CallsP Tryd.prog 11 #[(.int .i64 c), (.agg ⟨[(.int .i64 x0), (.int .i64 x1), (.string x2), (.slice x3a x3l x3c), (.slice x4a x4l x4c)]⟩)] g7 fun v g8 =>
  ∃ x_2 : Bool, v = (.bool x_2) ∧ ifB (!x_2)
  (∀ g9 : G, Ex g8 g9 →
  R (.bool false) g9)
  (derefP c0 fun ad_1 => ∃ xf : FuncId, ∃ xc : Array Value, g8.w.cell? ad_1 = some (.func (.func xf) #[] xc) ∧ Enters Tryd.prog xf ∧ (CallsP Tryd.prog xf ((⟨[(.agg ⟨[(.int .i64 x0), (.int .i64 x1), (.string x2), (.slice x3a x3l x3c), (.slice x4a x4l x4c)]⟩)]⟩ : Array Value) ++ xc) g8 fun v g10 =>
  ∃ x_3 : Bool, v = (.bool x_3) ∧ ifB (!x_3)
  (∀ g11 : G, Ex g10 g11 →
  R (.bool false) g11)
  (J (size + x) (maxI depth x_1) g10)))))
  (derefP c0 fun ad_2 => ∃ xf_1 : FuncId, ∃ xc_1 : Array Value, g7.w.cell? ad_2 = some (.func (.func xf_1) #[] xc_1) ∧ Enters Tryd.prog xf_1 ∧ (CallsP Tryd.prog xf_1 ((⟨[(.agg ⟨[(.int .i64 x0), (.int .i64 x1), (.string x2), (.slice x3a x3l x3c), (.slice x4a x4l x4c)]⟩)]⟩ : Array Value) ++ xc_1) g7 fun v g12 =>
  ∃ x_4 : Bool, v = (.bool x_4) ∧ ifB (!x_4)
  (∀ g13 : G, Ex g12 g13 →
  R (.bool false) g13)
  (J (size + x) (maxI depth x_1) g12))))
  ((CallsP Tryd.prog 11 #[(.int .i64 c), (.agg ⟨[(.int .i64 x0), (.int .i64 x1), (.string x2), (.slice x3a x3l x3c), (.slice x4a x4l x4c)]⟩)] g7 fun v g14 =>
  ∃ x_5 : Bool, v = (.bool x_5) ∧ ifB (!x_5)
  (∀ g15 : G, Ex g14 g15 →
  R (.bool false) g15)
  (derefP c0 fun ad_3 => ∃ xf_2 : FuncId, ∃ xc_2 : Array Value, g14.w.cell? ad_3 = some (.func (.func xf_2) #[] xc_2) ∧ Enters Tryd.prog xf_2 ∧ (CallsP Tryd.prog xf_2 ((⟨[(.agg ⟨[(.int .i64 x0), (.int .i64 x1), (.string x2), (.slice x3a x3l x3c), (.slice x4a x4l x4c)]⟩)]⟩ : Array Value) ++ xc_2) g14 fun v g16 =>
  ∃ x_6 : Bool, v = (.bool x_6) ∧ ifB (!x_6)
  (∀ g17 : G, Ex g16 g17 →
  R (.bool false) g17)
  (J (size + x) (maxI depth x_1) g16))))))
  (derefP c0 fun ad_4 => ∃ xf_3 : FuncId, ∃ xc_3 : Array Value, g7.w.cell? ad_4 = some (.func (.func xf_3) #[] xc_3) ∧ Enters Tryd.prog xf_3 ∧ (CallsP Tryd.prog xf_3 ((⟨[(.agg ⟨[(.int .i64 x0), (.int .i64 x1), (.string x2), (.slice x3a x3l x3c), (.slice x4a x4l x4c)]⟩)]⟩ : Array Value) ++ xc_3) g7 fun v g18 =>
  ∃ x_7 : Bool, v = (.bool x_7) ∧ ifB (!x_7)
  (∀ g19 : G, Ex g18 g19 →
  R (.bool false) g19)
  (J (size + x) (maxI depth x_1) g18)))))))
  ((CallsP Tryd.prog 17 #[(.agg ⟨[(.int .i64 t0), (.int .i64 t1), (.string t2), (.slice t3a t3l t3c), (.slice t4a t4l t4c)]⟩)] g2 fun v g20 =>
  ∃ x_8 : Int, v = (.int .i64 x_8) ∧ ifB (eqI x_8 size)
  ((CallsP Tryd.prog 18 #[(.agg ⟨[(.int .i64 t0), (.int .i64 t1), (.string t2), (.slice t3a t3l t3c), (.slice t4a t4l t4c)]⟩)] g20 fun v g21 =>
  ∃ x_9 : Int, v = (.int .i64 x_9) ∧ InI64 (depth + (1 : Int)) ∧ ∀ g22 : G, Ex g21 g22 →
  R (.bool (eqI x_9 (depth + (1 : Int)))) g22))
  (∀ g23 : G, Ex g20 g23 →
  R (.bool false) g23)))
theorem F16_eq (t0 : Int) (t1 : Int) (t2 : ByteArray) (t3a : Option Addr) (t3l : Nat) (t3c : Nat) (t4a : Option Addr) (t4l : Nat) (t4c : Nat) (c0 : Option Addr) (g : G) (R : Value → G → Prop) : fnG cfg16 64 [.tmp 3] c16 an16 [(.agg ⟨[(.int .i64 t0), (.int .i64 t1), (.string t2), (.slice t3a t3l t3c), (.slice t4a t4l t4c)]⟩), (.pointer c0)] g nobody R = F16 t0 t1 t2 t3a t3l t3c t4a t4l t4c c0 g R := by kernel_rfl
theorem call16 (t0 : Int) (t1 : Int) (t2 : ByteArray) (t3a : Option Addr) (t3l : Nat) (t3c : Nat) (t4a : Option Addr) (t4l : Nat) (t4c : Nat) (c0 : Option Addr) (g : G) (R : Value → G → Prop) (hF : F16 t0 t1 t2 t3a t3l t3c t4a t4l t4c c0 g R) : CallsG Tryd.prog 16 #[(.agg ⟨[(.int .i64 t0), (.int .i64 t1), (.string t2), (.slice t3a t3l t3c), (.slice t4a t4l t4c)]⟩), (.pointer c0)] g nobody R :=
  fn_soundG (c := cfg16) TTok FNSok mixed Tryd.func16 (show Tryd.f16.body = some c16 by kernel_rfl) (show Tryd.f16.ntmps = 64 by kernel_rfl) (show Tryd.f16.results.toList = [.tmp 3] by kernel_rfl) rfl ((F16_eq t0 t1 t2 t3a t3l t3c t4a t4l t4c c0 g R).mpr hF)

/- 17 pilaster/syntax.Size -/
noncomputable def c17 : Code := match Tryd.f17.body with
  | some c => c
  | none => .skip
noncomputable def cfg17 : Cfg := ⟨Tryd.prog, TT, FNS, [1, 5], [(1, 1), (5, 5), (6, 1)], [], TCH, false, false⟩
def an17 : AnnG := (.seq .leaf (.seq .leaf (.seq (.seq .leaf (.blk (.loop ⟨[(3, .int .i64), (9, .int .i64)], [], []⟩ (.seq .leaf (.seq (.cond .leaf .leaf) (.seq (.blk (.seq .leaf .leaf)) .leaf)))))) (.seq .leaf .leaf))))
def F17 (t0 : Int) (t1 : Int) (t2 : ByteArray) (t3a : Option Addr) (t3l : Nat) (t3c : Nat) (t4a : Option Addr) (t4l : Nat) (t4c : Nat) (g : G) (R : Value → G → Prop) : Prop :=
  ∃ Inv : Nat → Int → Int → G → Prop, (∀ g1 : G, Ex g g1 →
  (∃ m0 : Nat, Inv m0 (1 : Int) (0 : Int) g1)) ∧
  ∀ m : Nat, ∀ n : Int, ∀ v_1 : Int, ∀ g2 : G, Le g g2 → Inv m n v_1 g2 →
  ifB (ltI v_1 ((t4l : Nat) : Int))
  ((0 ≤ v_1 ∧ v_1 < ((t4l : Nat) : Int)) ∧ derefP t4a fun ad => ∃ x0 : Int, ∃ x1 : Int, ∃ x2 : ByteArray, ∃ x3a : Option Addr, ∃ x3l : Nat, ∃ x3c : Nat, ∃ x4a : Option Addr, ∃ x4l : Nat, ∃ x4c : Nat, g2.w.cell? (Addr.add ad (Int.toNat v_1 * 5)) = some (.int .i64 x0) ∧ g2.w.cell? (Addr.add (Addr.add ad (Int.toNat v_1 * 5)) 1) = some (.int .i64 x1) ∧ g2.w.cell? (Addr.add (Addr.add ad (Int.toNat v_1 * 5)) 2) = some (.string x2) ∧ g2.w.cell? (Addr.add (Addr.add ad (Int.toNat v_1 * 5)) 3) = some (.slice x3a x3l x3c) ∧ g2.w.cell? (Addr.add (Addr.add ad (Int.toNat v_1 * 5)) 4) = some (.slice x4a x4l x4c) ∧ ∀ g3 : G, Ex g2 g3 →
  (CallsP Tryd.prog 17 #[(.agg ⟨[(.int .i64 x0), (.int .i64 x1), (.string x2), (.slice x3a x3l x3c), (.slice x4a x4l x4c)]⟩)] g3 fun v g4 =>
  ∃ x : Int, v = (.int .i64 x) ∧ InI64 (n + x) ∧ InI64 (v_1 + (1 : Int)) ∧ (∃ m_1 : Nat, m_1 < m ∧ Inv m_1 (n + x) (v_1 + (1 : Int)) g4)))
  (∀ g5 : G, Ex g2 g5 →
  R (.int .i64 n) g5)
theorem F17_eq (t0 : Int) (t1 : Int) (t2 : ByteArray) (t3a : Option Addr) (t3l : Nat) (t3c : Nat) (t4a : Option Addr) (t4l : Nat) (t4c : Nat) (g : G) (R : Value → G → Prop) : fnG cfg17 19 [.tmp 2] c17 an17 [(.agg ⟨[(.int .i64 t0), (.int .i64 t1), (.string t2), (.slice t3a t3l t3c), (.slice t4a t4l t4c)]⟩)] g nobody R = F17 t0 t1 t2 t3a t3l t3c t4a t4l t4c g R := by kernel_rfl
theorem call17 (t0 : Int) (t1 : Int) (t2 : ByteArray) (t3a : Option Addr) (t3l : Nat) (t3c : Nat) (t4a : Option Addr) (t4l : Nat) (t4c : Nat) (g : G) (R : Value → G → Prop) (hF : F17 t0 t1 t2 t3a t3l t3c t4a t4l t4c g R) : CallsG Tryd.prog 17 #[(.agg ⟨[(.int .i64 t0), (.int .i64 t1), (.string t2), (.slice t3a t3l t3c), (.slice t4a t4l t4c)]⟩)] g nobody R :=
  fn_soundG (c := cfg17) TTok FNSok mixed Tryd.func17 (show Tryd.f17.body = some c17 by kernel_rfl) (show Tryd.f17.ntmps = 19 by kernel_rfl) (show Tryd.f17.results.toList = [.tmp 2] by kernel_rfl) rfl ((F17_eq t0 t1 t2 t3a t3l t3c t4a t4l t4c g R).mpr hF)

/- 18 pilaster/syntax.Depth -/
noncomputable def c18 : Code := match Tryd.f18.body with
  | some c => c
  | none => .skip
noncomputable def cfg18 : Cfg := ⟨Tryd.prog, TT, FNS, [1, 5], [(1, 1), (5, 5), (6, 1)], [], TCH, false, false⟩
def an18 : AnnG := (.seq .leaf (.seq .leaf (.seq (.seq .leaf (.blk (.loop ⟨[(3, .int .i64), (9, .int .i64)], [], []⟩ (.seq .leaf (.seq (.cond .leaf .leaf) (.seq (.blk (.seq .leaf .leaf)) .leaf)))))) (.seq .leaf .leaf))))
def F18 (t0 : Int) (t1 : Int) (t2 : ByteArray) (t3a : Option Addr) (t3l : Nat) (t3c : Nat) (t4a : Option Addr) (t4l : Nat) (t4c : Nat) (g : G) (R : Value → G → Prop) : Prop :=
  ∃ Inv : Nat → Int → Int → G → Prop, (∀ g1 : G, Ex g g1 →
  (∃ m0 : Nat, Inv m0 (0 : Int) (0 : Int) g1)) ∧
  ∀ m : Nat, ∀ n : Int, ∀ v_1 : Int, ∀ g2 : G, Le g g2 → Inv m n v_1 g2 →
  ifB (ltI v_1 ((t4l : Nat) : Int))
  ((0 ≤ v_1 ∧ v_1 < ((t4l : Nat) : Int)) ∧ derefP t4a fun ad => ∃ x0 : Int, ∃ x1 : Int, ∃ x2 : ByteArray, ∃ x3a : Option Addr, ∃ x3l : Nat, ∃ x3c : Nat, ∃ x4a : Option Addr, ∃ x4l : Nat, ∃ x4c : Nat, g2.w.cell? (Addr.add ad (Int.toNat v_1 * 5)) = some (.int .i64 x0) ∧ g2.w.cell? (Addr.add (Addr.add ad (Int.toNat v_1 * 5)) 1) = some (.int .i64 x1) ∧ g2.w.cell? (Addr.add (Addr.add ad (Int.toNat v_1 * 5)) 2) = some (.string x2) ∧ g2.w.cell? (Addr.add (Addr.add ad (Int.toNat v_1 * 5)) 3) = some (.slice x3a x3l x3c) ∧ g2.w.cell? (Addr.add (Addr.add ad (Int.toNat v_1 * 5)) 4) = some (.slice x4a x4l x4c) ∧ ∀ g3 : G, Ex g2 g3 →
  (CallsP Tryd.prog 18 #[(.agg ⟨[(.int .i64 x0), (.int .i64 x1), (.string x2), (.slice x3a x3l x3c), (.slice x4a x4l x4c)]⟩)] g3 fun v g4 =>
  ∃ x : Int, v = (.int .i64 x) ∧ InI64 (v_1 + (1 : Int)) ∧ (∃ m_1 : Nat, m_1 < m ∧ Inv m_1 (maxI n x) (v_1 + (1 : Int)) g4)))
  (InI64 (n + (1 : Int)) ∧ ∀ g5 : G, Ex g2 g5 →
  R (.int .i64 (n + (1 : Int))) g5)
theorem F18_eq (t0 : Int) (t1 : Int) (t2 : ByteArray) (t3a : Option Addr) (t3l : Nat) (t3c : Nat) (t4a : Option Addr) (t4l : Nat) (t4c : Nat) (g : G) (R : Value → G → Prop) : fnG cfg18 20 [.tmp 2] c18 an18 [(.agg ⟨[(.int .i64 t0), (.int .i64 t1), (.string t2), (.slice t3a t3l t3c), (.slice t4a t4l t4c)]⟩)] g nobody R = F18 t0 t1 t2 t3a t3l t3c t4a t4l t4c g R := by kernel_rfl
theorem call18 (t0 : Int) (t1 : Int) (t2 : ByteArray) (t3a : Option Addr) (t3l : Nat) (t3c : Nat) (t4a : Option Addr) (t4l : Nat) (t4c : Nat) (g : G) (R : Value → G → Prop) (hF : F18 t0 t1 t2 t3a t3l t3c t4a t4l t4c g R) : CallsG Tryd.prog 18 #[(.agg ⟨[(.int .i64 t0), (.int .i64 t1), (.string t2), (.slice t3a t3l t3c), (.slice t4a t4l t4c)]⟩)] g nobody R :=
  fn_soundG (c := cfg18) TTok FNSok mixed Tryd.func18 (show Tryd.f18.body = some c18 by kernel_rfl) (show Tryd.f18.ntmps = 20 by kernel_rfl) (show Tryd.f18.results.toList = [.tmp 2] by kernel_rfl) rfl ((F18_eq t0 t1 t2 t3a t3l t3c t4a t4l t4c g R).mpr hF)

/- 19 pilaster/syntax.Paths -/
noncomputable def c19 : Code := match Tryd.f19.body with
  | some c => c
  | none => .skip
noncomputable def cfg19 : Cfg := ⟨Tryd.prog, TT, FNS, [1], [(1, 1)], [5], TCH, true, false⟩
def an19 : AnnG := (.seq .leaf (.seq (.seq .leaf (.cond (.seq .leaf .leaf) .leaf)) (.seq .leaf (.seq .leaf (.seq .leaf (.seq .leaf (.seq .leaf .leaf)))))))
def F19 (t0 : Int) (t1 : Int) (t2 : ByteArray) (t3a : Option Addr) (t3l : Nat) (t3c : Nat) (t4a : Option Addr) (t4l : Nat) (t4c : Nat) (g : G) (R : Value → G → Prop) : Prop :=
  ∀ g1 : G, Ex g g1 →
  (CallsP Tryd.prog 39 #[(.agg ⟨[(.int .i64 t0), (.int .i64 t1), (.string t2), (.slice t3a t3l t3c), (.slice t4a t4l t4c)]⟩)] g1 fun v g2 =>
  ∃ x : Bool, v = (.bool x) ∧ ifB (!x)
  (∀ g3 : G, Ex g2 g3 →
  R (.tuple ⟨[(.slice none 0 0), (.int .i64 (1 : Int))]⟩) g3)
  (∀ g4 : G, NewD g2 g4 34 [(.slice none 0 0)] →
  ∀ g5 : G, NewD g4 g5 54 [.nilFunc] →
  stOk g5.w ⟨g4.w.heap.size, 0, none⟩ 1 ∧ ¬ g5.X (Addr.block ⟨g4.w.heap.size, 0, none⟩) ∧ mutAt g5 ⟨g4.w.heap.size, 0, none⟩ 1 ∧ ((Addr.block ⟨g4.w.heap.size, 0, none⟩) < g.w.heap.size → nobody (Addr.block ⟨g4.w.heap.size, 0, none⟩)) ∧ ∀ g6 : G, StG true g5 ⟨g4.w.heap.size, 0, none⟩ [(.func (.func 40) #[] ⟨[(.pointer (some ⟨g2.w.heap.size, 0, none⟩)), (.pointer (some ⟨g4.w.heap.size, 0, none⟩))]⟩)] g6 →
  ∃ walkf : FuncId, ∃ walkc : Array Value, g6.w.cell? ⟨g4.w.heap.size, 0, none⟩ = some (.func (.func walkf) #[] walkc) ∧ Enters Tryd.prog walkf ∧ ∃ M1 : Nat → Prop, (∀ b, b < g.w.heap.size → M1 b → nobody b) ∧ (CallsG Tryd.prog walkf ((⟨[(.agg ⟨[(.int .i64 t0), (.int .i64 t1), (.string t2), (.slice t3a t3l t3c), (.slice t4a t4l t4c)]⟩)]⟩ : Array Value) ++ walkc) g6 M1 fun v g7 =>
  v = (.tuple ⟨[]⟩) ∧ ∃ outa : Option Addr, ∃ outl : Nat, ∃ outc : Nat, g7.w.cell? ⟨g2.w.heap.size, 0, none⟩ = some (.slice outa outl outc) ∧ ∀ g8 : G, Ex g7 g8 →
  R (.tuple ⟨[(.slice outa outl outc), (.int .i64 (0 : Int))]⟩) g8)))
theorem F19_eq (t0 : Int) (t1 : Int) (t2 : ByteArray) (t3a : Option Addr) (t3l : Nat) (t3c : Nat) (t4a : Option Addr) (t4l : Nat) (t4c : Nat) (g : G) (R : Value → G → Prop) : fnG cfg19 14 [.tmp 2, .tmp 3] c19 an19 [(.agg ⟨[(.int .i64 t0), (.int .i64 t1), (.string t2), (.slice t3a t3l t3c), (.slice t4a t4l t4c)]⟩)] g nobody R = F19 t0 t1 t2 t3a t3l t3c t4a t4l t4c g R := by kernel_rfl
theorem call19 (t0 : Int) (t1 : Int) (t2 : ByteArray) (t3a : Option Addr) (t3l : Nat) (t3c : Nat) (t4a : Option Addr) (t4l : Nat) (t4c : Nat) (g : G) (R : Value → G → Prop) (hF : F19 t0 t1 t2 t3a t3l t3c t4a t4l t4c g R) : CallsG Tryd.prog 19 #[(.agg ⟨[(.int .i64 t0), (.int .i64 t1), (.string t2), (.slice t3a t3l t3c), (.slice t4a t4l t4c)]⟩)] g nobody R :=
  fn_soundG (c := cfg19) TTok FNSok mixed Tryd.func19 (show Tryd.f19.body = some c19 by kernel_rfl) (show Tryd.f19.ntmps = 14 by kernel_rfl) (show Tryd.f19.results.toList = [.tmp 2, .tmp 3] by kernel_rfl) rfl ((F19_eq t0 t1 t2 t3a t3l t3c t4a t4l t4c g R).mpr hF)

/- 20 pilaster/pilasterref03.Any -/
noncomputable def c20 : Code := match Tryd.f20.body with
  | some c => c
  | none => .skip
noncomputable def cfg20 : Cfg := ⟨Tryd.prog, TT, FNS, [1], [(1, 1), (3, 1)], [], TCH, false, false⟩
def an20 : AnnG := (.seq .leaf (.seq .leaf .leaf))
def F20 (t0 : Int) (t1 : Int) (t2 : ByteArray) (t3a : Option Addr) (t3l : Nat) (t3c : Nat) (t4a : Option Addr) (t4l : Nat) (t4c : Nat) (g : G) (R : Value → G → Prop) : Prop :=
  ∀ g1 : G, Ex g g1 →
  (CallsP Tryd.prog 14 #[(.int .i64 t0)] g1 fun v g2 =>
  ∃ x : Int, v = (.int .i64 x) ∧ ifB (!eqI x (0 : Int))
  ((CallsP Tryd.prog 34 #[(.agg ⟨[(.int .i64 t0), (.int .i64 t1), (.string t2), (.slice t3a t3l t3c), (.slice t4a t4l t4c)]⟩)] g2 fun v g3 =>
  ∃ x_1 : Bool, v = (.bool x_1) ∧ ∀ g4 : G, Ex g3 g4 →
  R (.bool x_1) g4))
  (∀ g5 : G, Ex g2 g5 →
  R (.bool false) g5))
theorem F20_eq (t0 : Int) (t1 : Int) (t2 : ByteArray) (t3a : Option Addr) (t3l : Nat) (t3c : Nat) (t4a : Option Addr) (t4l : Nat) (t4c : Nat) (g : G) (R : Value → G → Prop) : fnG cfg20 11 [.tmp 2] c20 an20 [(.agg ⟨[(.int .i64 t0), (.int .i64 t1), (.string t2), (.slice t3a t3l t3c), (.slice t4a t4l t4c)]⟩)] g nobody R = F20 t0 t1 t2 t3a t3l t3c t4a t4l t4c g R := by kernel_rfl
theorem call20 (t0 : Int) (t1 : Int) (t2 : ByteArray) (t3a : Option Addr) (t3l : Nat) (t3c : Nat) (t4a : Option Addr) (t4l : Nat) (t4c : Nat) (g : G) (R : Value → G → Prop) (hF : F20 t0 t1 t2 t3a t3l t3c t4a t4l t4c g R) : CallsG Tryd.prog 20 #[(.agg ⟨[(.int .i64 t0), (.int .i64 t1), (.string t2), (.slice t3a t3l t3c), (.slice t4a t4l t4c)]⟩)] g nobody R :=
  fn_soundG (c := cfg20) TTok FNSok mixed Tryd.func20 (show Tryd.f20.body = some c20 by kernel_rfl) (show Tryd.f20.ntmps = 11 by kernel_rfl) (show Tryd.f20.results.toList = [.tmp 2] by kernel_rfl) rfl ((F20_eq t0 t1 t2 t3a t3l t3c t4a t4l t4c g R).mpr hF)

/- 21 pilaster/pilasterlaw03.same -/
noncomputable def c21 : Code := match Tryd.f21.body with
  | some c => c
  | none => .skip
noncomputable def cfg21 : Cfg := ⟨Tryd.prog, TT, FNS, [], [], [], TCH, false, false⟩
def an21 : AnnG := (.seq .leaf (.seq .leaf .leaf))
def F21 (aa : Option Addr) (al : Nat) (ac : Nat) (ba : Option Addr) (bl : Nat) (bc : Nat) (g : G) (R : Value → G → Prop) : Prop :=
  (CallsP Tryd.prog 43 #[(.slice aa al ac), (.slice ba bl bc), (.func (.func 44) #[] #[])] g fun v g1 =>
  ∃ x : Bool, v = (.bool x) ∧ ∀ g2 : G, Ex g1 g2 →
  R (.bool x) g2)
theorem F21_eq (aa : Option Addr) (al : Nat) (ac : Nat) (ba : Option Addr) (bl : Nat) (bc : Nat) (g : G) (R : Value → G → Prop) : fnG cfg21 8 [.tmp 4] c21 an21 [(.slice aa al ac), (.slice ba bl bc)] g nobody R = F21 aa al ac ba bl bc g R := by kernel_rfl
theorem call21 (aa : Option Addr) (al : Nat) (ac : Nat) (ba : Option Addr) (bl : Nat) (bc : Nat) (g : G) (R : Value → G → Prop) (hF : F21 aa al ac ba bl bc g R) : CallsG Tryd.prog 21 #[(.slice aa al ac), (.slice ba bl bc)] g nobody R :=
  fn_soundG (c := cfg21) TTok FNSok mixed Tryd.func21 (show Tryd.f21.body = some c21 by kernel_rfl) (show Tryd.f21.ntmps = 8 by kernel_rfl) (show Tryd.f21.results.toList = [.tmp 4] by kernel_rfl) rfl ((F21_eq aa al ac ba bl bc g R).mpr hF)

/- 22 pilaster/pilasterref03.Paths -/
noncomputable def c22 : Code := match Tryd.f22.body with
  | some c => c
  | none => .skip
noncomputable def cfg22 : Cfg := ⟨Tryd.prog, TT, FNS, [1], [(1, 1), (5, 1), (9, 1), (14, 1), (21, 1)], [], TCH, false, false⟩
def an22 : AnnG := (.seq .leaf (.seq .leaf (.join ⟨[(3, .sl)], [], []⟩ (.seq .leaf (.cond .leaf .leaf)) (.seq (.seq .leaf (.blk (.loop ⟨[(3, .sl), (4, .int .i64)], [], []⟩ (.seq (.seq .leaf (.cond .leaf .leaf)) (.seq (.blk .leaf) .leaf))))) (.seq .leaf .leaf)))))
def F22 (t0 : Int) (t1 : Int) (t2 : ByteArray) (t3a : Option Addr) (t3l : Nat) (t3c : Nat) (t4a : Option Addr) (t4l : Nat) (t4c : Nat) (g : G) (R : Value → G → Prop) : Prop :=
  ∀ J : Option Addr → Nat → Nat → G → Prop,
  (∀ outa : Option Addr, ∀ outl : Nat, ∀ outc : Nat, ∀ g1 : G, (∃ Inv : Nat → Option Addr → Nat → Nat → Int → G → Prop, ((∃ m0 : Nat, Inv m0 outa outl outc (0 : Int) g1)) ∧
  ∀ m : Nat, ∀ outa_1 : Option Addr, ∀ outl_1 : Nat, ∀ outc_1 : Nat, ∀ i : Int, ∀ g2 : G, Le g1 g2 → Inv m outa_1 outl_1 outc_1 i g2 →
  ifB (ltI i ((t4l : Nat) : Int))
  ((0 ≤ i ∧ i < ((t4l : Nat) : Int)) ∧ derefP t4a fun ad => ∃ x0 : Int, ∃ x1 : Int, ∃ x2 : ByteArray, ∃ x3a : Option Addr, ∃ x3l : Nat, ∃ x3c : Nat, ∃ x4a : Option Addr, ∃ x4l : Nat, ∃ x4c : Nat, g2.w.cell? (Addr.add ad (Int.toNat i * 5)) = some (.int .i64 x0) ∧ g2.w.cell? (Addr.add (Addr.add ad (Int.toNat i * 5)) 1) = some (.int .i64 x1) ∧ g2.w.cell? (Addr.add (Addr.add ad (Int.toNat i * 5)) 2) = some (.string x2) ∧ g2.w.cell? (Addr.add (Addr.add ad (Int.toNat i * 5)) 3) = some (.slice x3a x3l x3c) ∧ g2.w.cell? (Addr.add (Addr.add ad (Int.toNat i * 5)) 4) = some (.slice x4a x4l x4c) ∧ (CallsP Tryd.prog 22 #[(.agg ⟨[(.int .i64 x0), (.int .i64 x1), (.string x2), (.slice x3a x3l x3c), (.slice x4a x4l x4c)]⟩)] g2 fun v g3 =>
  ∃ xa : Option Addr, ∃ xl : Nat, ∃ xc : Nat, v = (.slice xa xl xc) ∧ ∃ outa_2 : Option Addr, ∃ outl_2 : Nat, ∃ outc_2 : Nat, ∃ wo1 : World, Sem.run Tryd.prog (Builtin.append_ #[34, 34] 34 #[(.slice outa_1 outl_1 outc_1), (.slice xa xl xc)]) g3.w = .ok (.slice outa_2 outl_2 outc_2) wo1 ∧ ∃ g4 : G, g4.w = wo1 ∧ Stp g.w.heap.size nobody g3 g4 ∧ InI64 (i + (1 : Int)) ∧ (∃ m_1 : Nat, m_1 < m ∧ Inv m_1 outa_2 outl_2 outc_2 (i + (1 : Int)) g4)))
  (∀ g5 : G, Ex g2 g5 →
  R (.slice outa_1 outl_1 outc_1) g5)) → J outa outl outc g1) →
  ∀ g6 : G, Ex g g6 →
  (CallsP Tryd.prog 45 #[(.int .i64 t0)] g6 fun v g7 =>
  ∃ x : Bool, v = (.bool x) ∧ ifB x
  (∀ g8 : G, NewL g7 g8 22 [(.slice t3a t3l t3c)] →
  ∃ outa_3 : Option Addr, ∃ outl_3 : Nat, ∃ outc_3 : Nat, ∃ wo2 : World, Sem.run Tryd.prog (Builtin.append_ #[34, 34] 34 #[(.slice none 0 0), (.slice (some ⟨g7.w.heap.size, 0, none⟩) 1 1)]) g8.w = .ok (.slice outa_3 outl_3 outc_3) wo2 ∧ ∃ g9 : G, g9.w = wo2 ∧ Stp g.w.heap.size nobody g8 g9 ∧ J outa_3 outl_3 outc_3 g9)
  (J none 0 0 g7))
theorem F22_eq (t0 : Int) (t1 : Int) (t2 : ByteArray) (t3a : Option Addr) (t3l : Nat) (t3c : Nat) (t4a : Option Addr) (t4l : Nat) (t4c : Nat) (g : G) (R : Value → G → Prop) : fnG cfg22 29 [.tmp 2] c22 an22 [(.agg ⟨[(.int .i64 t0), (.int .i64 t1), (.string t2), (.slice t3a t3l t3c), (.slice t4a t4l t4c)]⟩)] g nobody R = F22 t0 t1 t2 t3a t3l t3c t4a t4l t4c g R := by kernel_rfl
theorem call22 (t0 : Int) (t1 : Int) (t2 : ByteArray) (t3a : Option Addr) (t3l : Nat) (t3c : Nat) (t4a : Option Addr) (t4l : Nat) (t4c : Nat) (g : G) (R : Value → G → Prop) (hF : F22 t0 t1 t2 t3a t3l t3c t4a t4l t4c g R) : CallsG Tryd.prog 22 #[(.agg ⟨[(.int .i64 t0), (.int .i64 t1), (.string t2), (.slice t3a t3l t3c), (.slice t4a t4l t4c)]⟩)] g nobody R :=
  fn_soundG (c := cfg22) TTok FNSok mixed Tryd.func22 (show Tryd.f22.body = some c22 by kernel_rfl) (show Tryd.f22.ntmps = 29 by kernel_rfl) (show Tryd.f22.results.toList = [.tmp 2] by kernel_rfl) rfl ((F22_eq t0 t1 t2 t3a t3l t3c t4a t4l t4c g R).mpr hF)

/- 23 pilaster/pilasterref03.Size -/
noncomputable def c23 : Code := match Tryd.f23.body with
  | some c => c
  | none => .skip
noncomputable def cfg23 : Cfg := ⟨Tryd.prog, TT, FNS, [1], [(1, 1), (6, 1), (13, 1)], [], TCH, false, false⟩
def an23 : AnnG := (.seq .leaf (.seq .leaf (.seq (.seq .leaf (.blk (.loop ⟨[(3, .int .i64), (4, .int .i64)], [], []⟩ (.seq (.seq .leaf (.cond .leaf .leaf)) (.seq (.blk .leaf) .leaf))))) (.seq .leaf .leaf))))
def F23 (t0 : Int) (t1 : Int) (t2 : ByteArray) (t3a : Option Addr) (t3l : Nat) (t3c : Nat) (t4a : Option Addr) (t4l : Nat) (t4c : Nat) (g : G) (R : Value → G → Prop) : Prop :=
  ∃ Inv : Nat → Int → Int → G → Prop, (∀ g1 : G, Ex g g1 →
  (∃ m0 : Nat, Inv m0 (1 : Int) (0 : Int) g1)) ∧
  ∀ m : Nat, ∀ n : Int, ∀ i : Int, ∀ g2 : G, Le g g2 → Inv m n i g2 →
  ifB (ltI i ((t4l : Nat) : Int))
  ((0 ≤ i ∧ i < ((t4l : Nat) : Int)) ∧ derefP t4a fun ad => ∃ x0 : Int, ∃ x1 : Int, ∃ x2 : ByteArray, ∃ x3a : Option Addr, ∃ x3l : Nat, ∃ x3c : Nat, ∃ x4a : Option Addr, ∃ x4l : Nat, ∃ x4c : Nat, g2.w.cell? (Addr.add ad (Int.toNat i * 5)) = some (.int .i64 x0) ∧ g2.w.cell? (Addr.add (Addr.add ad (Int.toNat i * 5)) 1) = some (.int .i64 x1) ∧ g2.w.cell? (Addr.add (Addr.add ad (Int.toNat i * 5)) 2) = some (.string x2) ∧ g2.w.cell? (Addr.add (Addr.add ad (Int.toNat i * 5)) 3) = some (.slice x3a x3l x3c) ∧ g2.w.cell? (Addr.add (Addr.add ad (Int.toNat i * 5)) 4) = some (.slice x4a x4l x4c) ∧ (CallsP Tryd.prog 23 #[(.agg ⟨[(.int .i64 x0), (.int .i64 x1), (.string x2), (.slice x3a x3l x3c), (.slice x4a x4l x4c)]⟩)] g2 fun v g3 =>
  ∃ x : Int, v = (.int .i64 x) ∧ InI64 (n + x) ∧ InI64 (i + (1 : Int)) ∧ (∃ m_1 : Nat, m_1 < m ∧ Inv m_1 (n + x) (i + (1 : Int)) g3)))
  (∀ g4 : G, Ex g2 g4 →
  R (.int .i64 n) g4)
theorem F23_eq (t0 : Int) (t1 : Int) (t2 : ByteArray) (t3a : Option Addr) (t3l : Nat) (t3c : Nat) (t4a : Option Addr) (t4l : Nat) (t4c : Nat) (g : G) (R : Value → G → Prop) : fnG cfg23 21 [.tmp 2] c23 an23 [(.agg ⟨[(.int .i64 t0), (.int .i64 t1), (.string t2), (.slice t3a t3l t3c), (.slice t4a t4l t4c)]⟩)] g nobody R = F23 t0 t1 t2 t3a t3l t3c t4a t4l t4c g R := by kernel_rfl
theorem call23 (t0 : Int) (t1 : Int) (t2 : ByteArray) (t3a : Option Addr) (t3l : Nat) (t3c : Nat) (t4a : Option Addr) (t4l : Nat) (t4c : Nat) (g : G) (R : Value → G → Prop) (hF : F23 t0 t1 t2 t3a t3l t3c t4a t4l t4c g R) : CallsG Tryd.prog 23 #[(.agg ⟨[(.int .i64 t0), (.int .i64 t1), (.string t2), (.slice t3a t3l t3c), (.slice t4a t4l t4c)]⟩)] g nobody R :=
  fn_soundG (c := cfg23) TTok FNSok mixed Tryd.func23 (show Tryd.f23.body = some c23 by kernel_rfl) (show Tryd.f23.ntmps = 21 by kernel_rfl) (show Tryd.f23.results.toList = [.tmp 2] by kernel_rfl) rfl ((F23_eq t0 t1 t2 t3a t3l t3c t4a t4l t4c g R).mpr hF)

/- 24 pilaster/pilasterref03.Depth -/
noncomputable def c24 : Code := match Tryd.f24.body with
  | some c => c
  | none => .skip
noncomputable def cfg24 : Cfg := ⟨Tryd.prog, TT, FNS, [1], [(1, 1), (6, 1), (13, 1)], [], TCH, false, false⟩
def an24 : AnnG := (.seq .leaf (.seq .leaf (.seq (.seq .leaf (.blk (.loop ⟨[(3, .int .i64), (4, .int .i64)], [], []⟩ (.seq (.seq .leaf (.cond .leaf .leaf)) (.seq (.blk .leaf) .leaf))))) (.seq .leaf .leaf))))
def F24 (t0 : Int) (t1 : Int) (t2 : ByteArray) (t3a : Option Addr) (t3l : Nat) (t3c : Nat) (t4a : Option Addr) (t4l : Nat) (t4c : Nat) (g : G) (R : Value → G → Prop) : Prop :=
  ∃ Inv : Nat → Int → Int → G → Prop, (∀ g1 : G, Ex g g1 →
  (∃ m0 : Nat, Inv m0 (0 : Int) (0 : Int) g1)) ∧
  ∀ m : Nat, ∀ n : Int, ∀ i : Int, ∀ g2 : G, Le g g2 → Inv m n i g2 →
  ifB (ltI i ((t4l : Nat) : Int))
  ((0 ≤ i ∧ i < ((t4l : Nat) : Int)) ∧ derefP t4a fun ad => ∃ x0 : Int, ∃ x1 : Int, ∃ x2 : ByteArray, ∃ x3a : Option Addr, ∃ x3l : Nat, ∃ x3c : Nat, ∃ x4a : Option Addr, ∃ x4l : Nat, ∃ x4c : Nat, g2.w.cell? (Addr.add ad (Int.toNat i * 5)) = some (.int .i64 x0) ∧ g2.w.cell? (Addr.add (Addr.add ad (Int.toNat i * 5)) 1) = some (.int .i64 x1) ∧ g2.w.cell? (Addr.add (Addr.add ad (Int.toNat i * 5)) 2) = some (.string x2) ∧ g2.w.cell? (Addr.add (Addr.add ad (Int.toNat i * 5)) 3) = some (.slice x3a x3l x3c) ∧ g2.w.cell? (Addr.add (Addr.add ad (Int.toNat i * 5)) 4) = some (.slice x4a x4l x4c) ∧ (CallsP Tryd.prog 24 #[(.agg ⟨[(.int .i64 x0), (.int .i64 x1), (.string x2), (.slice x3a x3l x3c), (.slice x4a x4l x4c)]⟩)] g2 fun v g3 =>
  ∃ x : Int, v = (.int .i64 x) ∧ InI64 (i + (1 : Int)) ∧ (∃ m_1 : Nat, m_1 < m ∧ Inv m_1 (maxI n x) (i + (1 : Int)) g3)))
  (InI64 (n + (1 : Int)) ∧ ∀ g4 : G, Ex g2 g4 →
  R (.int .i64 (n + (1 : Int))) g4)
theorem F24_eq (t0 : Int) (t1 : Int) (t2 : ByteArray) (t3a : Option Addr) (t3l : Nat) (t3c : Nat) (t4a : Option Addr) (t4l : Nat) (t4c : Nat) (g : G) (R : Value → G → Prop) : fnG cfg24 22 [.tmp 2] c24 an24 [(.agg ⟨[(.int .i64 t0), (.int .i64 t1), (.string t2), (.slice t3a t3l t3c), (.slice t4a t4l t4c)]⟩)] g nobody R = F24 t0 t1 t2 t3a t3l t3c t4a t4l t4c g R := by kernel_rfl
theorem call24 (t0 : Int) (t1 : Int) (t2 : ByteArray) (t3a : Option Addr) (t3l : Nat) (t3c : Nat) (t4a : Option Addr) (t4l : Nat) (t4c : Nat) (g : G) (R : Value → G → Prop) (hF : F24 t0 t1 t2 t3a t3l t3c t4a t4l t4c g R) : CallsG Tryd.prog 24 #[(.agg ⟨[(.int .i64 t0), (.int .i64 t1), (.string t2), (.slice t3a t3l t3c), (.slice t4a t4l t4c)]⟩)] g nobody R :=
  fn_soundG (c := cfg24) TTok FNSok mixed Tryd.func24 (show Tryd.f24.body = some c24 by kernel_rfl) (show Tryd.f24.ntmps = 22 by kernel_rfl) (show Tryd.f24.results.toList = [.tmp 2] by kernel_rfl) rfl ((F24_eq t0 t1 t2 t3a t3l t3c t4a t4l t4c g R).mpr hF)

/- 25 pilaster/syntax.Equal -/
noncomputable def c25 : Code := match Tryd.f25.body with
  | some c => c
  | none => .skip
noncomputable def cfg25 : Cfg := ⟨Tryd.prog, TT, FNS, [2, 3], [(2, 2), (3, 3), (5, 2), (7, 3), (11, 2), (13, 3), (18, 2), (20, 3), (25, 2), (27, 3), (32, 2), (34, 3)], [], TCH, false, false⟩
def an25 : AnnG := (.seq .leaf (.seq .leaf .leaf))
def F25 (a0 : Int) (a1 : Int) (a2 : ByteArray) (a3a : Option Addr) (a3l : Nat) (a3c : Nat) (a4a : Option Addr) (a4l : Nat) (a4c : Nat) (b0 : Int) (b1 : Int) (b2 : ByteArray) (b3a : Option Addr) (b3l : Nat) (b3c : Nat) (b4a : Option Addr) (b4l : Nat) (b4c : Nat) (g : G) (R : Value → G → Prop) : Prop :=
  ifB (eqI a0 b0)
  (ifB (eqI a1 b1)
  (ifB (strEq a2 b2)
  (∀ g1 : G, Ex g g1 →
  (CallsP Tryd.prog 30 #[(.slice a3a a3l a3c), (.slice b3a b3l b3c)] g1 fun v g2 =>
  ∃ x : Bool, v = (.bool x) ∧ ifB x
  ((CallsP Tryd.prog 46 #[(.slice a4a a4l a4c), (.slice b4a b4l b4c), (.func (.func 25) #[] #[])] g2 fun v g3 =>
  ∃ x_1 : Bool, v = (.bool x_1) ∧ ∀ g4 : G, Ex g3 g4 →
  R (.bool x_1) g4))
  (∀ g5 : G, Ex g2 g5 →
  R (.bool false) g5)))
  (∀ g6 : G, Ex g g6 →
  R (.bool false) g6))
  (∀ g7 : G, Ex g g7 →
  R (.bool false) g7))
  (∀ g8 : G, Ex g g8 →
  R (.bool false) g8)
theorem F25_eq (a0 : Int) (a1 : Int) (a2 : ByteArray) (a3a : Option Addr) (a3l : Nat) (a3c : Nat) (a4a : Option Addr) (a4l : Nat) (a4c : Nat) (b0 : Int) (b1 : Int) (b2 : ByteArray) (b3a : Option Addr) (b3l : Nat) (b3c : Nat) (b4a : Option Addr) (b4l : Nat) (b4c : Nat) (g : G) (R : Value → G → Prop) : fnG cfg25 38 [.tmp 4] c25 an25 [(.agg ⟨[(.int .i64 a0), (.int .i64 a1), (.string a2), (.slice a3a a3l a3c), (.slice a4a a4l a4c)]⟩), (.agg ⟨[(.int .i64 b0), (.int .i64 b1), (.string b2), (.slice b3a b3l b3c), (.slice b4a b4l b4c)]⟩)] g nobody R = F25 a0 a1 a2 a3a a3l a3c a4a a4l a4c b0 b1 b2 b3a b3l b3c b4a b4l b4c g R := by kernel_rfl
theorem call25 (a0 : Int) (a1 : Int) (a2 : ByteArray) (a3a : Option Addr) (a3l : Nat) (a3c : Nat) (a4a : Option Addr) (a4l : Nat) (a4c : Nat) (b0 : Int) (b1 : Int) (b2 : ByteArray) (b3a : Option Addr) (b3l : Nat) (b3c : Nat) (b4a : Option Addr) (b4l : Nat) (b4c : Nat) (g : G) (R : Value → G → Prop) (hF : F25 a0 a1 a2 a3a a3l a3c a4a a4l a4c b0 b1 b2 b3a b3l b3c b4a b4l b4c g R) : CallsG Tryd.prog 25 #[(.agg ⟨[(.int .i64 a0), (.int .i64 a1), (.string a2), (.slice a3a a3l a3c), (.slice a4a a4l a4c)]⟩), (.agg ⟨[(.int .i64 b0), (.int .i64 b1), (.string b2), (.slice b3a b3l b3c), (.slice b4a b4l b4c)]⟩)] g nobody R :=
  fn_soundG (c := cfg25) TTok FNSok mixed Tryd.func25 (show Tryd.f25.body = some c25 by kernel_rfl) (show Tryd.f25.ntmps = 38 by kernel_rfl) (show Tryd.f25.results.toList = [.tmp 4] by kernel_rfl) rfl ((F25_eq a0 a1 a2 a3a a3l a3c a4a a4l a4c b0 b1 b2 b3a b3l b3c b4a b4l b4c g R).mpr hF)

/- 26 pilaster/pilasterref03.Equal -/
noncomputable def c26 : Code := match Tryd.f26.body with
  | some c => c
  | none => .skip
noncomputable def cfg26 : Cfg := ⟨Tryd.prog, TT, FNS, [2, 3], [(2, 2), (3, 3), (7, 2), (9, 3), (13, 2), (15, 3), (20, 2), (22, 3), (27, 2), (30, 3), (36, 2), (39, 3), (45, 2), (51, 2), (56, 3), (63, 2), (69, 2), (74, 3)], [], TCH, false, false⟩
def an26 : AnnG := (.seq .leaf (.join ⟨[], [], []⟩ (.seq .leaf (.cond (.seq .leaf .leaf) .leaf)) (.seq (.seq .leaf (.blk (.loop ⟨[(5, .int .i64)], [], []⟩ (.seq (.seq .leaf (.cond .leaf .leaf)) (.seq (.blk (.seq (.tree 10 (.quiet 0 (.quiet 1 (.quiet 2 (.quiet 3 (.quiet 4 (.quiet 5 (.quiet 6 (.quiet 7 (.quiet 8 (.quiet 9 .fin))))))))))) (.cond (.seq .leaf .leaf) .leaf))) .leaf))))) (.seq (.seq .leaf (.blk (.loop ⟨[(6, .int .i64)], [], []⟩ (.seq (.seq .leaf (.cond .leaf .leaf)) (.seq (.blk (.seq (.tree 10 (.quiet 0 (.quiet 1 (.quiet 2 (.quiet 3 (.quiet 4 (.quiet 5 (.quiet 6 (.quiet 7 (.quiet 8 (.quiet 9 .fin))))))))))) (.cond (.seq .leaf .leaf) .leaf))) .leaf))))) (.seq .leaf .leaf)))))
def F26 (a0 : Int) (a1 : Int) (a2 : ByteArray) (a3a : Option Addr) (a3l : Nat) (a3c : Nat) (a4a : Option Addr) (a4l : Nat) (a4c : Nat) (b0 : Int) (b1 : Int) (b2 : ByteArray) (b3a : Option Addr) (b3l : Nat) (b3c : Nat) (b4a : Option Addr) (b4l : Nat) (b4c : Nat) (g : G) (R : Value → G → Prop) : Prop :=
  ∀ J : G → Prop,
  (∀ g1 : G, (∃ Inv : Nat → Int → G → Prop, ((∃ m0 : Nat, Inv m0 (0 : Int) g1)) ∧
  ∀ m : Nat, ∀ i : Int, ∀ g2 : G, Le g1 g2 → Inv m i g2 →
  ifB (ltI i ((a3l : Nat) : Int))
  (∀ g3 : G, Ex g2 g3 →
  (0 ≤ i ∧ i < ((a3l : Nat) : Int)) ∧ derefP a3a fun ad => ∃ x : ByteArray, g3.w.cell? (Addr.add ad (Int.toNat i * 1)) = some (.string x) ∧ (0 ≤ i ∧ i < ((b3l : Nat) : Int)) ∧ derefP b3a fun ad_1 => ∃ x_1 : ByteArray, g3.w.cell? (Addr.add ad_1 (Int.toNat i * 1)) = some (.string x_1) ∧ ifB (!strEq x x_1)
  (∀ g4 : G, Ex g3 g4 →
  R (.bool false) g4)
  (InI64 (i + (1 : Int)) ∧ (∃ m_1 : Nat, m_1 < m ∧ Inv m_1 (i + (1 : Int)) g3)))
  (∃ Inv_1 : Nat → Int → G → Prop, ((∃ m0 : Nat, Inv_1 m0 (0 : Int) g2)) ∧
  ∀ m_2 : Nat, ∀ i_1 : Int, ∀ g5 : G, Le g2 g5 → Inv_1 m_2 i_1 g5 →
  ifB (ltI i_1 ((a4l : Nat) : Int))
  (∀ g6 : G, Ex g5 g6 →
  (0 ≤ i_1 ∧ i_1 < ((a4l : Nat) : Int)) ∧ derefP a4a fun ad_2 => ∃ x0 : Int, ∃ x1 : Int, ∃ x2 : ByteArray, ∃ x3a : Option Addr, ∃ x3l : Nat, ∃ x3c : Nat, ∃ x4a : Option Addr, ∃ x4l : Nat, ∃ x4c : Nat, g6.w.cell? (Addr.add ad_2 (Int.toNat i_1 * 5)) = some (.int .i64 x0) ∧ g6.w.cell? (Addr.add (Addr.add ad_2 (Int.toNat i_1 * 5)) 1) = some (.int .i64 x1) ∧ g6.w.cell? (Addr.add (Addr.add ad_2 (Int.toNat i_1 * 5)) 2) = some (.string x2) ∧ g6.w.cell? (Addr.add (Addr.add ad_2 (Int.toNat i_1 * 5)) 3) = some (.slice x3a x3l x3c) ∧ g6.w.cell? (Addr.add (Addr.add ad_2 (Int.toNat i_1 * 5)) 4) = some (.slice x4a x4l x4c) ∧ (0 ≤ i_1 ∧ i_1 < ((b4l : Nat) : Int)) ∧ derefP b4a fun ad_3 => ∃ x0_1 : Int, ∃ x1_1 : Int, ∃ x2_1 : ByteArray, ∃ x3a_1 : Option Addr, ∃ x3l_1 : Nat, ∃ x3c_1 : Nat, ∃ x4a_1 : Option Addr, ∃ x4l_1 : Nat, ∃ x4c_1 : Nat, g6.w.cell? (Addr.add ad_3 (Int.toNat i_1 * 5)) = some (.int .i64 x0_1) ∧ g6.w.cell? (Addr.add (Addr.add ad_3 (Int.toNat i_1 * 5)) 1) = some (.int .i64 x1_1) ∧ g6.w.cell? (Addr.add (Addr.add ad_3 (Int.toNat i_1 * 5)) 2) = some (.string x2_1) ∧ g6.w.cell? (Addr.add (Addr.add ad_3 (Int.toNat i_1 * 5)) 3) = some (.slice x3a_1 x3l_1 x3c_1) ∧ g6.w.cell? (Addr.add (Addr.add ad_3 (Int.toNat i_1 * 5)) 4) = some (.slice x4a_1 x4l_1 x4c_1) ∧ (CallsP Tryd.prog 26 #[(.agg ⟨[(.int .i64 x0), (.int .i64 x1), (.string x2), (.slice x3a x3l x3c), (.slice x4a x4l x4c)]⟩), (.agg ⟨[(.int .i64 x0_1), (.int .i64 x1_1), (.string x2_1), (.slice x3a_1 x3l_1 x3c_1), (.slice x4a_1 x4l_1 x4c_1)]⟩)] g6 fun v g7 =>
  ∃ x_2 : Bool, v = (.bool x_2) ∧ ifB (!x_2)
  (∀ g8 : G, Ex g7 g8 →
  R (.bool false) g8)
  (InI64 (i_1 + (1 : Int)) ∧ (∃ m_3 : Nat, m_3 < m_2 ∧ Inv_1 m_3 (i_1 + (1 : Int)) g7))))
  (∀ g9 : G, Ex g5 g9 →
  R (.bool true) g9))) → J g1) →
  ifB (!eqI a0 b0)
  (∀ g10 : G, Ex g g10 →
  R (.bool false) g10)
  (ifB (!eqI a1 b1)
  (∀ g11 : G, Ex g g11 →
  R (.bool false) g11)
  (ifB (!strEq a2 b2)
  (∀ g12 : G, Ex g g12 →
  R (.bool false) g12)
  (ifB (!eqI ((a3l : Nat) : Int) ((b3l : Nat) : Int))
  (∀ g13 : G, Ex g g13 →
  R (.bool false) g13)
  (ifB (!eqI ((a4l : Nat) : Int) ((b4l : Nat) : Int))
  (∀ g14 : G, Ex g g14 →
  R (.bool false) g14)
  (∀ g15 : G, Ex g g15 →
  J g15)))))
theorem F26_eq (a0 : Int) (a1 : Int) (a2 : ByteArray) (a3a : Option Addr) (a3l : Nat) (a3c : Nat) (a4a : Option Addr) (a4l : Nat) (a4c : Nat) (b0 : Int) (b1 : Int) (b2 : ByteArray) (b3a : Option Addr) (b3l : Nat) (b3c : Nat) (b4a : Option Addr) (b4l : Nat) (b4c : Nat) (g : G) (R : Value → G → Prop) : fnG cfg26 81 [.tmp 4] c26 an26 [(.agg ⟨[(.int .i64 a0), (.int .i64 a1), (.string a2), (.slice a3a a3l a3c), (.slice a4a a4l a4c)]⟩), (.agg ⟨[(.int .i64 b0), (.int .i64 b1), (.string b2), (.slice b3a b3l b3c), (.slice b4a b4l b4c)]⟩)] g nobody R = F26 a0 a1 a2 a3a a3l a3c a4a a4l a4c b0 b1 b2 b3a b3l b3c b4a b4l b4c g R := by kernel_rfl
theorem call26 (a0 : Int) (a1 : Int) (a2 : ByteArray) (a3a : Option Addr) (a3l : Nat) (a3c : Nat) (a4a : Option Addr) (a4l : Nat) (a4c : Nat) (b0 : Int) (b1 : Int) (b2 : ByteArray) (b3a : Option Addr) (b3l : Nat) (b3c : Nat) (b4a : Option Addr) (b4l : Nat) (b4c : Nat) (g : G) (R : Value → G → Prop) (hF : F26 a0 a1 a2 a3a a3l a3c a4a a4l a4c b0 b1 b2 b3a b3l b3c b4a b4l b4c g R) : CallsG Tryd.prog 26 #[(.agg ⟨[(.int .i64 a0), (.int .i64 a1), (.string a2), (.slice a3a a3l a3c), (.slice a4a a4l a4c)]⟩), (.agg ⟨[(.int .i64 b0), (.int .i64 b1), (.string b2), (.slice b3a b3l b3c), (.slice b4a b4l b4c)]⟩)] g nobody R :=
  fn_soundG (c := cfg26) TTok FNSok mixed Tryd.func26 (show Tryd.f26.body = some c26 by kernel_rfl) (show Tryd.f26.ntmps = 81 by kernel_rfl) (show Tryd.f26.results.toList = [.tmp 4] by kernel_rfl) rfl ((F26_eq a0 a1 a2 a3a a3l a3c a4a a4l a4c b0 b1 b2 b3a b3l b3c b4a b4l b4c g R).mpr hF)

/- 27 pilaster/syntax.Replace -/
noncomputable def c27 : Code := match Tryd.f27.body with
  | some c => c
  | none => .skip
noncomputable def cfg27 : Cfg := ⟨Tryd.prog, TT, FNS, [3, 5, 6], [(3, 3), (5, 5), (6, 6), (47, 3)], [], TCH, false, false⟩
def an27 : AnnG := (.seq .leaf (.seq (.seq .leaf (.cond (.seq .leaf .leaf) .leaf)) (.seq .leaf (.seq .leaf (.seq (.seq .leaf (.blk (.loop ⟨[(9, .ptr), (21, .int .i64)], [(6, 6, 0)], [(6, [(.int .i64), (.int .i64), (.str), (.sl), (.sl)])]⟩ (.seq .leaf (.seq (.cond .leaf .leaf) (.seq (.blk (.seq .leaf (.join ⟨[], [(6, 6, 0)], [(6, [(.int .i64), (.int .i64), (.str), (.sl), (.sl)])]⟩ (.seq .leaf (.cond (.seq .leaf .leaf) .leaf)) .leaf))) .leaf)))))) (.seq .leaf (.join ⟨[(12, .bool)], [], []⟩ (.tree 4 (.quiet 0 (.quiet 1 (.quiet 3 (.eff 2 .fin .fin))))) (.seq (.seq .leaf (.cond (.seq .leaf .leaf) .leaf)) (.seq .leaf .leaf)))))))))
def F27 (t0 : Int) (t1 : Int) (t2 : ByteArray) (t3a : Option Addr) (t3l : Nat) (t3c : Nat) (t4a : Option Addr) (t4l : Nat) (t4c : Nat) (ata : Option Addr) (atl : Nat) (atc : Nat) (by0 : Int) (by1 : Int) (by2 : ByteArray) (by3a : Option Addr) (by3l : Nat) (by3c : Nat) (by4a : Option Addr) (by4l : Nat) (by4c : Nat) (g : G) (R : Value → G → Prop) : Prop :=
  ∀ g1 : G, Ex g g1 →
  (CallsP Tryd.prog 39 #[(.agg ⟨[(.int .i64 t0), (.int .i64 t1), (.string t2), (.slice t3a t3l t3c), (.slice t4a t4l t4c)]⟩)] g1 fun v g2 =>
  ∃ x : Bool, v = (.bool x) ∧ ifB (!x)
  (∀ g3 : G, Ex g2 g3 →
  R (.tuple ⟨[(.agg ⟨[(.int .i64 (0 : Int)), (.int .i64 (0 : Int)), (.string (bs [])), (.slice none 0 0), (.slice none 0 0)]⟩), (.int .i64 (1 : Int))]⟩) g3)
  ((CallsP Tryd.prog 47 #[(.agg ⟨[(.int .i64 t0), (.int .i64 t1), (.string t2), (.slice t3a t3l t3c), (.slice t4a t4l t4c)]⟩)] g2 fun v g4 =>
  ∃ x0 : Int, ∃ x1 : Int, ∃ x2 : ByteArray, ∃ x3a : Option Addr, ∃ x3l : Nat, ∃ x3c : Nat, ∃ x4a : Option Addr, ∃ x4l : Nat, ∃ x4c : Nat, v = (.agg ⟨[(.int .i64 x0), (.int .i64 x1), (.string x2), (.slice x3a x3l x3c), (.slice x4a x4l x4c)]⟩) ∧ ∀ g5 : G, NewD g4 g5 25 [(.int .i64 (0 : Int)), (.int .i64 (0 : Int)), (.string (bs [])), (.slice none 0 0), (.slice none 0 0)] →
  stOk g5.w ⟨g4.w.heap.size, 0, none⟩ 5 ∧ ¬ g5.X (Addr.block ⟨g4.w.heap.size, 0, none⟩) ∧ mutAt g5 ⟨g4.w.heap.size, 0, none⟩ 5 ∧ ((Addr.block ⟨g4.w.heap.size, 0, none⟩) < g.w.heap.size → nobody (Addr.block ⟨g4.w.heap.size, 0, none⟩)) ∧ ∀ g6 : G, StG false g5 ⟨g4.w.heap.size, 0, none⟩ [(.int .i64 x0), (.int .i64 x1), (.string x2), (.slice x3a x3l x3c), (.slice x4a x4l x4c)] g6 →
  ∃ Inv : Nat → Option Addr → Int → Int → Int → ByteArray → Option Addr → Nat → Nat → Option Addr → Nat → Nat → G → Prop, ((∃ m0 : Nat, Inv m0 (some ⟨g4.w.heap.size, 0, none⟩) (0 : Int) (0 : Int) (0 : Int) (bs []) none 0 0 none 0 0 g6)) ∧
  ∀ m : Nat, ∀ place : Option Addr, ∀ v_1 : Int, ∀ x0_1 : Int, ∀ x1_1 : Int, ∀ x2_1 : ByteArray, ∀ x3a_1 : Option Addr, ∀ x3l_1 : Nat, ∀ x3c_1 : Nat, ∀ x4a_1 : Option Addr, ∀ x4l_1 : Nat, ∀ x4c_1 : Nat, ∀ g7 : G, Le g6 g7 → Inv m place v_1 x0_1 x1_1 x2_1 x3a_1 x3l_1 x3c_1 x4a_1 x4l_1 x4c_1 g7 →
  ifB (ltI v_1 ((atl : Nat) : Int))
  ((0 ≤ v_1 ∧ v_1 < ((atl : Nat) : Int)) ∧ derefP ata fun ad => ∃ i : Int, g7.w.cell? (Addr.add ad (Int.toNat v_1 * 1)) = some (.int .i64 i) ∧ ∀ J : Int → Int → ByteArray → Option Addr → Nat → Nat → Option Addr → Nat → Nat → G → Prop,
  (∀ x0_2 : Int, ∀ x1_2 : Int, ∀ x2_2 : ByteArray, ∀ x3a_2 : Option Addr, ∀ x3l_2 : Nat, ∀ x3c_2 : Nat, ∀ x4a_2 : Option Addr, ∀ x4l_2 : Nat, ∀ x4c_2 : Nat, ∀ g8 : G, (derefP place fun ad_1 => ∃ xa : Option Addr, ∃ xl : Nat, ∃ xc : Nat, g8.w.cell? (Addr.add ad_1 4) = some (.slice xa xl xc) ∧ (0 ≤ i ∧ i < ((xl : Nat) : Int)) ∧ derefP xa fun ad_2 => InI64 (v_1 + (1 : Int)) ∧ (∃ m_1 : Nat, m_1 < m ∧ Inv m_1 (some (Addr.add ad_2 (Int.toNat i * 5))) (v_1 + (1 : Int)) x0_2 x1_2 x2_2 x3a_2 x3l_2 x3c_2 x4a_2 x4l_2 x4c_2 g8)) → J x0_2 x1_2 x2_2 x3a_2 x3l_2 x3c_2 x4a_2 x4l_2 x4c_2 g8) →
  ifB (ltI i (0 : Int))
  (∀ g9 : G, Ex g7 g9 →
  R (.tuple ⟨[(.agg ⟨[(.int .i64 (0 : Int)), (.int .i64 (0 : Int)), (.string (bs [])), (.slice none 0 0), (.slice none 0 0)]⟩), (.int .i64 (2 : Int))]⟩) g9)
  (derefP place fun ad_3 => ∃ xa_1 : Option Addr, ∃ xl_1 : Nat, ∃ xc_1 : Nat, g7.w.cell? (Addr.add ad_3 4) = some (.slice xa_1 xl_1 xc_1) ∧ ifB (leI ((xl_1 : Nat) : Int) i)
  (∀ g10 : G, Ex g7 g10 →
  R (.tuple ⟨[(.agg ⟨[(.int .i64 (0 : Int)), (.int .i64 (0 : Int)), (.string (bs [])), (.slice none 0 0), (.slice none 0 0)]⟩), (.int .i64 (2 : Int))]⟩) g10)
  (J x0_1 x1_1 x2_1 x3a_1 x3l_1 x3c_1 x4a_1 x4l_1 x4c_1 g7)))
  (derefP place fun ad_4 => stOk g7.w ad_4 5 ∧ ¬ g7.X (Addr.block ad_4) ∧ mutAt g7 ad_4 5 ∧ ((Addr.block ad_4) < g.w.heap.size → nobody (Addr.block ad_4)) ∧ ∀ g11 : G, StG false g7 ad_4 [(.int .i64 by0), (.int .i64 by1), (.string by2), (.slice by3a by3l by3c), (.slice by4a by4l by4c)] g11 →
  ∀ J_1 : Bool → G → Prop,
  (∀ same : Bool, ∀ g12 : G, (ifB (!same)
  (∀ g13 : G, Ex g12 g13 →
  R (.tuple ⟨[(.agg ⟨[(.int .i64 (0 : Int)), (.int .i64 (0 : Int)), (.string (bs [])), (.slice none 0 0), (.slice none 0 0)]⟩), (.int .i64 (3 : Int))]⟩) g13)
  (∃ out0 : Int, ∃ out1 : Int, ∃ out2 : ByteArray, ∃ out3a : Option Addr, ∃ out3l : Nat, ∃ out3c : Nat, ∃ out4a : Option Addr, ∃ out4l : Nat, ∃ out4c : Nat, g12.w.cell? ⟨g4.w.heap.size, 0, none⟩ = some (.int .i64 out0) ∧ g12.w.cell? (Addr.add ⟨g4.w.heap.size, 0, none⟩ 1) = some (.int .i64 out1) ∧ g12.w.cell? (Addr.add ⟨g4.w.heap.size, 0, none⟩ 2) = some (.string out2) ∧ g12.w.cell? (Addr.add ⟨g4.w.heap.size, 0, none⟩ 3) = some (.slice out3a out3l out3c) ∧ g12.w.cell? (Addr.add ⟨g4.w.heap.size, 0, none⟩ 4) = some (.slice out4a out4l out4c) ∧ (CallsP Tryd.prog 32 #[(.agg ⟨[(.int .i64 out0), (.int .i64 out1), (.string out2), (.slice out3a out3l out3c), (.slice out4a out4l out4c)]⟩)] g12 fun v g14 =>
  ∃ x_1 : Bool, v = (.bool x_1) ∧ ifB (!x_1)
  (∀ g15 : G, Ex g14 g15 →
  R (.tuple ⟨[(.agg ⟨[(.int .i64 (0 : Int)), (.int .i64 (0 : Int)), (.string (bs [])), (.slice none 0 0), (.slice none 0 0)]⟩), (.int .i64 (3 : Int))]⟩) g15)
  (∃ out0_1 : Int, ∃ out1_1 : Int, ∃ out2_1 : ByteArray, ∃ out3a_1 : Option Addr, ∃ out3l_1 : Nat, ∃ out3c_1 : Nat, ∃ out4a_1 : Option Addr, ∃ out4l_1 : Nat, ∃ out4c_1 : Nat, g14.w.cell? ⟨g4.w.heap.size, 0, none⟩ = some (.int .i64 out0_1) ∧ g14.w.cell? (Addr.add ⟨g4.w.heap.size, 0, none⟩ 1) = some (.int .i64 out1_1) ∧ g14.w.cell? (Addr.add ⟨g4.w.heap.size, 0, none⟩ 2) = some (.string out2_1) ∧ g14.w.cell? (Addr.add ⟨g4.w.heap.size, 0, none⟩ 3) = some (.slice out3a_1 out3l_1 out3c_1) ∧ g14.w.cell? (Addr.add ⟨g4.w.heap.size, 0, none⟩ 4) = some (.slice out4a_1 out4l_1 out4c_1) ∧ (CallsP Tryd.prog 47 #[(.agg ⟨[(.int .i64 out0_1), (.int .i64 out1_1), (.string out2_1), (.slice out3a_1 out3l_1 out3c_1), (.slice out4a_1 out4l_1 out4c_1)]⟩)] g14 fun v g16 =>
  ∃ x0_3 : Int, ∃ x1_3 : Int, ∃ x2_3 : ByteArray, ∃ x3a_3 : Option Addr, ∃ x3l_3 : Nat, ∃ x3c_3 : Nat, ∃ x4a_3 : Option Addr, ∃ x4l_3 : Nat, ∃ x4c_3 : Nat, v = (.agg ⟨[(.int .i64 x0_3), (.int .i64 x1_3), (.string x2_3), (.slice x3a_3 x3l_3 x3c_3), (.slice x4a_3 x4l_3 x4c_3)]⟩) ∧ ∀ g17 : G, Ex g16 g17 →
  R (.tuple ⟨[(.agg ⟨[(.int .i64 x0_3), (.int .i64 x1_3), (.string x2_3), (.slice x3a_3 x3l_3 x3c_3), (.slice x4a_3 x4l_3 x4c_3)]⟩), (.int .i64 (0 : Int))]⟩) g17))))) → J_1 same g12) →
  ∀ g18 : G, Ex g11 g18 →
  ∃ out0_2 : Int, ∃ out1_2 : Int, ∃ out2_2 : ByteArray, ∃ out3a_2 : Option Addr, ∃ out3l_2 : Nat, ∃ out3c_2 : Nat, ∃ out4a_2 : Option Addr, ∃ out4l_2 : Nat, ∃ out4c_2 : Nat, g18.w.cell? ⟨g4.w.heap.size, 0, none⟩ = some (.int .i64 out0_2) ∧ g18.w.cell? (Addr.add ⟨g4.w.heap.size, 0, none⟩ 1) = some (.int .i64 out1_2) ∧ g18.w.cell? (Addr.add ⟨g4.w.heap.size, 0, none⟩ 2) = some (.string out2_2) ∧ g18.w.cell? (Addr.add ⟨g4.w.heap.size, 0, none⟩ 3) = some (.slice out3a_2 out3l_2 out3c_2) ∧ g18.w.cell? (Addr.add ⟨g4.w.heap.size, 0, none⟩ 4) = some (.slice out4a_2 out4l_2 out4c_2) ∧ (CallsP Tryd.prog 13 #[(.int .i64 t0)] g18 fun v g19 =>
  ∃ x_2 : Int, v = (.int .i64 x_2) ∧ (CallsP Tryd.prog 31 #[(.int .i64 x_2), (.agg ⟨[(.int .i64 out0_2), (.int .i64 out1_2), (.string out2_2), (.slice out3a_2 out3l_2 out3c_2), (.slice out4a_2 out4l_2 out4c_2)]⟩)] g19 fun v g20 =>
  ∃ x_3 : Bool, v = (.bool x_3) ∧ ifB x_3
  (J_1 true g20)
  ((CallsP Tryd.prog 31 #[(.int .i64 (5 : Int)), (.agg ⟨[(.int .i64 t0), (.int .i64 t1), (.string t2), (.slice t3a t3l t3c), (.slice t4a t4l t4c)]⟩)] g20 fun v g21 =>
  ∃ x_4 : Bool, v = (.bool x_4) ∧ ifB x_4
  (∃ out0_3 : Int, ∃ out1_3 : Int, ∃ out2_3 : ByteArray, ∃ out3a_3 : Option Addr, ∃ out3l_3 : Nat, ∃ out3c_3 : Nat, ∃ out4a_3 : Option Addr, ∃ out4l_3 : Nat, ∃ out4c_3 : Nat, g21.w.cell? ⟨g4.w.heap.size, 0, none⟩ = some (.int .i64 out0_3) ∧ g21.w.cell? (Addr.add ⟨g4.w.heap.size, 0, none⟩ 1) = some (.int .i64 out1_3) ∧ g21.w.cell? (Addr.add ⟨g4.w.heap.size, 0, none⟩ 2) = some (.string out2_3) ∧ g21.w.cell? (Addr.add ⟨g4.w.heap.size, 0, none⟩ 3) = some (.slice out3a_3 out3l_3 out3c_3) ∧ g21.w.cell? (Addr.add ⟨g4.w.heap.size, 0, none⟩ 4) = some (.slice out4a_3 out4l_3 out4c_3) ∧ (CallsP Tryd.prog 31 #[(.int .i64 (5 : Int)), (.agg ⟨[(.int .i64 out0_3), (.int .i64 out1_3), (.string out2_3), (.slice out3a_3 out3l_3 out3c_3), (.slice out4a_3 out4l_3 out4c_3)]⟩)] g21 fun v g22 =>
  ∃ x_5 : Bool, v = (.bool x_5) ∧ J_1 x_5 g22))
  (J_1 false g21)))))))))
theorem F27_eq (t0 : Int) (t1 : Int) (t2 : ByteArray) (t3a : Option Addr) (t3l : Nat) (t3c : Nat) (t4a : Option Addr) (t4l : Nat) (t4c : Nat) (ata : Option Addr) (atl : Nat) (atc : Nat) (by0 : Int) (by1 : Int) (by2 : ByteArray) (by3a : Option Addr) (by3l : Nat) (by3c : Nat) (by4a : Option Addr) (by4l : Nat) (by4c : Nat) (g : G) (R : Value → G → Prop) : fnG cfg27 70 [.cell 6 25, .tmp 7] c27 an27 [(.agg ⟨[(.int .i64 t0), (.int .i64 t1), (.string t2), (.slice t3a t3l t3c), (.slice t4a t4l t4c)]⟩), (.slice ata atl atc), (.agg ⟨[(.int .i64 by0), (.int .i64 by1), (.string by2), (.slice by3a by3l by3c), (.slice by4a by4l by4c)]⟩)] g nobody R = F27 t0 t1 t2 t3a t3l t3c t4a t4l t4c ata atl atc by0 by1 by2 by3a by3l by3c by4a by4l by4c g R := by kernel_rfl
theorem call27 (t0 : Int) (t1 : Int) (t2 : ByteArray) (t3a : Option Addr) (t3l : Nat) (t3c : Nat) (t4a : Option Addr) (t4l : Nat) (t4c : Nat) (ata : Option Addr) (atl : Nat) (atc : Nat) (by0 : Int) (by1 : Int) (by2 : ByteArray) (by3a : Option Addr) (by3l : Nat) (by3c : Nat) (by4a : Option Addr) (by4l : Nat) (by4c : Nat) (g : G) (R : Value → G → Prop) (hF : F27 t0 t1 t2 t3a t3l t3c t4a t4l t4c ata atl atc by0 by1 by2 by3a by3l by3c by4a by4l by4c g R) : CallsG Tryd.prog 27 #[(.agg ⟨[(.int .i64 t0), (.int .i64 t1), (.string t2), (.slice t3a t3l t3c), (.slice t4a t4l t4c)]⟩), (.slice ata atl atc), (.agg ⟨[(.int .i64 by0), (.int .i64 by1), (.string by2), (.slice by3a by3l by3c), (.slice by4a by4l by4c)]⟩)] g nobody R :=
  fn_soundG (c := cfg27) TTok FNSok mixed Tryd.func27 (show Tryd.f27.body = some c27 by kernel_rfl) (show Tryd.f27.ntmps = 70 by kernel_rfl) (show Tryd.f27.results.toList = [.cell 6 25, .tmp 7] by kernel_rfl) rfl ((F27_eq t0 t1 t2 t3a t3l t3c t4a t4l t4c ata atl atc by0 by1 by2 by3a by3l by3c by4a by4l by4c g R).mpr hF)

/- 28 pilaster/pilasterref03.Replace -/
noncomputable def c28 : Code := match Tryd.f28.body with
  | some c => c
  | none => .skip
noncomputable def cfg28 : Cfg := ⟨Tryd.prog, TT, FNS, [3, 5, 6, 8], [(3, 3), (5, 5), (6, 6), (8, 8), (25, 8), (28, 3), (33, 3), (37, 8)], [], TCH, false, false⟩
def an28 : AnnG := (.seq .leaf (.seq (.seq .leaf (.cond (.seq .leaf .leaf) .leaf)) (.seq .leaf (.seq (.seq .leaf (.cond (.seq .leaf .leaf) .leaf)) (.join ⟨[(10, .bool)], [], []⟩ (.tree 5 (.quiet 0 (.quiet 1 (.quiet 3 (.quiet 4 (.eff 2 .fin .fin)))))) (.seq (.seq .leaf (.cond (.seq .leaf .leaf) .leaf)) (.seq .leaf .leaf)))))))
def F28 (t0 : Int) (t1 : Int) (t2 : ByteArray) (t3a : Option Addr) (t3l : Nat) (t3c : Nat) (t4a : Option Addr) (t4l : Nat) (t4c : Nat) (ata : Option Addr) (atl : Nat) (atc : Nat) (by0 : Int) (by1 : Int) (by2 : ByteArray) (by3a : Option Addr) (by3l : Nat) (by3c : Nat) (by4a : Option Addr) (by4l : Nat) (by4c : Nat) (g : G) (R : Value → G → Prop) : Prop :=
  ∀ g1 : G, Ex g g1 →
  (CallsP Tryd.prog 20 #[(.agg ⟨[(.int .i64 t0), (.int .i64 t1), (.string t2), (.slice t3a t3l t3c), (.slice t4a t4l t4c)]⟩)] g1 fun v g2 =>
  ∃ x : Bool, v = (.bool x) ∧ ifB (!x)
  (∀ g3 : G, Ex g2 g3 →
  R (.tuple ⟨[(.agg ⟨[(.int .i64 (0 : Int)), (.int .i64 (0 : Int)), (.string (bs [])), (.slice none 0 0), (.slice none 0 0)]⟩), (.int .i64 (1 : Int))]⟩) g3)
  ((CallsP Tryd.prog 48 #[(.agg ⟨[(.int .i64 t0), (.int .i64 t1), (.string t2), (.slice t3a t3l t3c), (.slice t4a t4l t4c)]⟩), (.slice ata atl atc), (.agg ⟨[(.int .i64 by0), (.int .i64 by1), (.string by2), (.slice by3a by3l by3c), (.slice by4a by4l by4c)]⟩)] g2 fun v g4 =>
  ∃ x00 : Int, ∃ x01 : Int, ∃ x02 : ByteArray, ∃ x03a : Option Addr, ∃ x03l : Nat, ∃ x03c : Nat, ∃ x04a : Option Addr, ∃ x04l : Nat, ∃ x04c : Nat, ∃ x1 : Bool, v = (.tuple ⟨[(.agg ⟨[(.int .i64 x00), (.int .i64 x01), (.string x02), (.slice x03a x03l x03c), (.slice x04a x04l x04c)]⟩), (.bool x1)]⟩) ∧ ifB (!x1)
  (∀ g5 : G, Ex g4 g5 →
  ∀ g6 : G, Ex g5 g6 →
  R (.tuple ⟨[(.agg ⟨[(.int .i64 (0 : Int)), (.int .i64 (0 : Int)), (.string (bs [])), (.slice none 0 0), (.slice none 0 0)]⟩), (.int .i64 (2 : Int))]⟩) g6)
  (∀ J : Bool → G → Prop,
  (∀ same : Bool, ∀ g7 : G, (ifB (!same)
  (∀ g8 : G, Ex g7 g8 →
  R (.tuple ⟨[(.agg ⟨[(.int .i64 (0 : Int)), (.int .i64 (0 : Int)), (.string (bs [])), (.slice none 0 0), (.slice none 0 0)]⟩), (.int .i64 (3 : Int))]⟩) g8)
  ((CallsP Tryd.prog 34 #[(.agg ⟨[(.int .i64 x00), (.int .i64 x01), (.string x02), (.slice x03a x03l x03c), (.slice x04a x04l x04c)]⟩)] g7 fun v g9 =>
  ∃ x_1 : Bool, v = (.bool x_1) ∧ ifB (!x_1)
  (∀ g10 : G, Ex g9 g10 →
  R (.tuple ⟨[(.agg ⟨[(.int .i64 (0 : Int)), (.int .i64 (0 : Int)), (.string (bs [])), (.slice none 0 0), (.slice none 0 0)]⟩), (.int .i64 (3 : Int))]⟩) g10)
  (∀ g11 : G, Ex g9 g11 →
  R (.tuple ⟨[(.agg ⟨[(.int .i64 x00), (.int .i64 x01), (.string x02), (.slice x03a x03l x03c), (.slice x04a x04l x04c)]⟩), (.int .i64 (0 : Int))]⟩) g11)))) → J same g7) →
  ∀ g12 : G, Ex g4 g12 →
  (CallsP Tryd.prog 14 #[(.int .i64 x00)] g12 fun v g13 =>
  ∃ x_2 : Int, v = (.int .i64 x_2) ∧ (CallsP Tryd.prog 14 #[(.int .i64 t0)] g13 fun v g14 =>
  ∃ x_3 : Int, v = (.int .i64 x_3) ∧ ifB (eqI x_2 x_3)
  (J true g14)
  ((CallsP Tryd.prog 33 #[(.int .i64 t0), (.int .i64 (5 : Int))] g14 fun v g15 =>
  ∃ x_4 : Bool, v = (.bool x_4) ∧ ifB x_4
  ((CallsP Tryd.prog 33 #[(.int .i64 x00), (.int .i64 (5 : Int))] g15 fun v g16 =>
  ∃ x_5 : Bool, v = (.bool x_5) ∧ J x_5 g16))
  (J false g15)))))))))
theorem F28_eq (t0 : Int) (t1 : Int) (t2 : ByteArray) (t3a : Option Addr) (t3l : Nat) (t3c : Nat) (t4a : Option Addr) (t4l : Nat) (t4c : Nat) (ata : Option Addr) (atl : Nat) (atc : Nat) (by0 : Int) (by1 : Int) (by2 : ByteArray) (by3a : Option Addr) (by3l : Nat) (by3c : Nat) (by4a : Option Addr) (by4l : Nat) (by4c : Nat) (g : G) (R : Value → G → Prop) : fnG cfg28 51 [.cell 6 25, .tmp 7] c28 an28 [(.agg ⟨[(.int .i64 t0), (.int .i64 t1), (.string t2), (.slice t3a t3l t3c), (.slice t4a t4l t4c)]⟩), (.slice ata atl atc), (.agg ⟨[(.int .i64 by0), (.int .i64 by1), (.string by2), (.slice by3a by3l by3c), (.slice by4a by4l by4c)]⟩)] g nobody R = F28 t0 t1 t2 t3a t3l t3c t4a t4l t4c ata atl atc by0 by1 by2 by3a by3l by3c by4a by4l by4c g R := by kernel_rfl
theorem call28 (t0 : Int) (t1 : Int) (t2 : ByteArray) (t3a : Option Addr) (t3l : Nat) (t3c : Nat) (t4a : Option Addr) (t4l : Nat) (t4c : Nat) (ata : Option Addr) (atl : Nat) (atc : Nat) (by0 : Int) (by1 : Int) (by2 : ByteArray) (by3a : Option Addr) (by3l : Nat) (by3c : Nat) (by4a : Option Addr) (by4l : Nat) (by4c : Nat) (g : G) (R : Value → G → Prop) (hF : F28 t0 t1 t2 t3a t3l t3c t4a t4l t4c ata atl atc by0 by1 by2 by3a by3l by3c by4a by4l by4c g R) : CallsG Tryd.prog 28 #[(.agg ⟨[(.int .i64 t0), (.int .i64 t1), (.string t2), (.slice t3a t3l t3c), (.slice t4a t4l t4c)]⟩), (.slice ata atl atc), (.agg ⟨[(.int .i64 by0), (.int .i64 by1), (.string by2), (.slice by3a by3l by3c), (.slice by4a by4l by4c)]⟩)] g nobody R :=
  fn_soundG (c := cfg28) TTok FNSok mixed Tryd.func28 (show Tryd.f28.body = some c28 by kernel_rfl) (show Tryd.f28.ntmps = 51 by kernel_rfl) (show Tryd.f28.results.toList = [.cell 6 25, .tmp 7] by kernel_rfl) rfl ((F28_eq t0 t1 t2 t3a t3l t3c t4a t4l t4c ata atl atc by0 by1 by2 by3a by3l by3c by4a by4l by4c g R).mpr hF)

/- 29 pilaster/pilasterlaw03.SyntaxAgain$1 -/
noncomputable def c29 : Code := match Tryd.f29.body with
  | some c => c
  | none => .skip
noncomputable def cfg29 : Cfg := ⟨Tryd.prog, TT, FNS, [2, 3], [(2, 2), (3, 3), (17, 2), (23, 2)], [], TCH, false, false⟩
def an29 : AnnG := (.seq .leaf (.seq (.seq .leaf (.blk (.loop ⟨[(9, .int .i64)], [(2, 2, 0), (3, 3, 0)], [(2, [(.int .i64), (.int .i64), (.str), (.sl), (.sl)]), (3, [(.int .i64), (.int .i64), (.str), (.sl), (.sl)])]⟩ (.seq .leaf (.seq (.cond .leaf .leaf) (.seq (.blk (.seq .leaf (.seq (.seq .leaf (.cond (.seq .leaf .leaf) .leaf)) .leaf))) .leaf)))))) (.seq .leaf .leaf)))
def F29 (t0 : Int) (t1 : Int) (t2 : ByteArray) (t3a : Option Addr) (t3l : Nat) (t3c : Nat) (t4a : Option Addr) (t4l : Nat) (t4c : Nat) (c0 : Option Addr) (g : G) (R : Value → G → Prop) : Prop :=
  ∀ g1 : G, Ex g g1 →
  derefP c0 fun ad => ∃ xa : Option Addr, ∃ xl : Nat, ∃ xc : Nat, g1.w.cell? ad = some (.slice xa xl xc) ∧ ∃ Inv : Nat → Int → Int → Int → ByteArray → Option Addr → Nat → Nat → Option Addr → Nat → Nat → Int → Int → ByteArray → Option Addr → Nat → Nat → Option Addr → Nat → Nat → G → Prop, ((∃ m0 : Nat, Inv m0 (0 : Int) t0 t1 t2 t3a t3l t3c t4a t4l t4c (0 : Int) (0 : Int) (bs []) none 0 0 none 0 0 g1)) ∧
  ∀ m : Nat, ∀ v_1 : Int, ∀ t0_1 : Int, ∀ t1_1 : Int, ∀ t2_1 : ByteArray, ∀ t3a_1 : Option Addr, ∀ t3l_1 : Nat, ∀ t3c_1 : Nat, ∀ t4a_1 : Option Addr, ∀ t4l_1 : Nat, ∀ t4c_1 : Nat, ∀ x0 : Int, ∀ x1 : Int, ∀ x2 : ByteArray, ∀ x3a : Option Addr, ∀ x3l : Nat, ∀ x3c : Nat, ∀ x4a : Option Addr, ∀ x4l : Nat, ∀ x4c : Nat, ∀ g2 : G, Le g1 g2 → Inv m v_1 t0_1 t1_1 t2_1 t3a_1 t3l_1 t3c_1 t4a_1 t4l_1 t4c_1 x0 x1 x2 x3a x3l x3c x4a x4l x4c g2 →
  ifB (ltI v_1 ((xl : Nat) : Int))
  ((0 ≤ v_1 ∧ v_1 < ((xl : Nat) : Int)) ∧ derefP xa fun ad_1 => ∃ i : Int, g2.w.cell? (Addr.add ad_1 (Int.toNat v_1 * 1)) = some (.int .i64 i) ∧ ifB (ltI i (0 : Int))
  (∀ g3 : G, Ex g2 g3 →
  R (.tuple ⟨[(.agg ⟨[(.int .i64 (0 : Int)), (.int .i64 (0 : Int)), (.string (bs [])), (.slice none 0 0), (.slice none 0 0)]⟩), (.bool false)]⟩) g3)
  (ifB (leI ((t4l_1 : Nat) : Int) i)
  (∀ g4 : G, Ex g2 g4 →
  R (.tuple ⟨[(.agg ⟨[(.int .i64 (0 : Int)), (.int .i64 (0 : Int)), (.string (bs [])), (.slice none 0 0), (.slice none 0 0)]⟩), (.bool false)]⟩) g4)
  ((0 ≤ i ∧ i < ((t4l_1 : Nat) : Int)) ∧ derefP t4a_1 fun ad_2 => ∃ x0_1 : Int, ∃ x1_1 : Int, ∃ x2_1 : ByteArray, ∃ x3a_1 : Option Addr, ∃ x3l_1 : Nat, ∃ x3c_1 : Nat, ∃ x4a_1 : Option Addr, ∃ x4l_1 : Nat, ∃ x4c_1 : Nat, g2.w.cell? (Addr.add ad_2 (Int.toNat i * 5)) = some (.int .i64 x0_1) ∧ g2.w.cell? (Addr.add (Addr.add ad_2 (Int.toNat i * 5)) 1) = some (.int .i64 x1_1) ∧ g2.w.cell? (Addr.add (Addr.add ad_2 (Int.toNat i * 5)) 2) = some (.string x2_1) ∧ g2.w.cell? (Addr.add (Addr.add ad_2 (Int.toNat i * 5)) 3) = some (.slice x3a_1 x3l_1 x3c_1) ∧ g2.w.cell? (Addr.add (Addr.add ad_2 (Int.toNat i * 5)) 4) = some (.slice x4a_1 x4l_1 x4c_1) ∧ InI64 (v_1 + (1 : Int)) ∧ ∀ g5 : G, Ex g2 g5 →
  (∃ m_1 : Nat, m_1 < m ∧ Inv m_1 (v_1 + (1 : Int)) x0_1 x1_1 x2_1 x3a_1 x3l_1 x3c_1 x4a_1 x4l_1 x4c_1 x0 x1 x2 x3a x3l x3c x4a x4l x4c g5))))
  (∀ g6 : G, Ex g2 g6 →
  R (.tuple ⟨[(.agg ⟨[(.int .i64 t0_1), (.int .i64 t1_1), (.string t2_1), (.slice t3a_1 t3l_1 t3c_1), (.slice t4a_1 t4l_1 t4c_1)]⟩), (.bool true)]⟩) g6)
theorem F29_eq (t0 : Int) (t1 : Int) (t2 : ByteArray) (t3a : Option Addr) (t3l : Nat) (t3c : Nat) (t4a : Option Addr) (t4l : Nat) (t4c : Nat) (c0 : Option Addr) (g : G) (R : Value → G → Prop) : fnG cfg29 30 [.cell 3 25, .tmp 4] c29 an29 [(.agg ⟨[(.int .i64 t0), (.int .i64 t1), (.string t2), (.slice t3a t3l t3c), (.slice t4a t4l t4c)]⟩), (.pointer c0)] g nobody R = F29 t0 t1 t2 t3a t3l t3c t4a t4l t4c c0 g R := by kernel_rfl
theorem call29 (t0 : Int) (t1 : Int) (t2 : ByteArray) (t3a : Option Addr) (t3l : Nat) (t3c : Nat) (t4a : Option Addr) (t4l : Nat) (t4c : Nat) (c0 : Option Addr) (g : G) (R : Value → G → Prop) (hF : F29 t0 t1 t2 t3a t3l t3c t4a t4l t4c c0 g R) : CallsG Tryd.prog 29 #[(.agg ⟨[(.int .i64 t0), (.int .i64 t1), (.string t2), (.slice t3a t3l t3c), (.slice t4a t4l t4c)]⟩), (.pointer c0)] g nobody R :=
  fn_soundG (c := cfg29) TTok FNSok mixed Tryd.func29 (show Tryd.f29.body = some c29 by kernel_rfl) (show Tryd.f29.ntmps = 30 by kernel_rfl) (show Tryd.f29.results.toList = [.cell 3 25, .tmp 4] by kernel_rfl) rfl ((F29_eq t0 t1 t2 t3a t3l t3c t4a t4l t4c c0 g R).mpr hF)

/- 30 slices.Equal[[]string,string] -/
noncomputable def c30 : Code := match Tryd.f30.body with
  | some c => c
  | none => .skip
noncomputable def cfg30 : Cfg := ⟨Tryd.prog, TT, FNS, [], [], [], TCH, false, false⟩
def an30 : AnnG := (.seq .leaf (.seq (.seq .leaf (.cond (.seq .leaf .leaf) .leaf)) (.seq (.seq .leaf (.blk (.loop ⟨[(13, .int .i64)], [], []⟩ (.seq .leaf (.seq (.cond .leaf .leaf) (.seq (.blk (.seq .leaf (.seq (.tree 8 (.quiet 0 (.quiet 1 (.quiet 2 (.quiet 3 (.quiet 4 (.quiet 5 (.quiet 6 (.quiet 7 .fin))))))))) (.cond (.seq .leaf .leaf) .leaf)))) .leaf)))))) (.seq .leaf .leaf))))
def F30 (s1a : Option Addr) (s1l : Nat) (s1c : Nat) (s2a : Option Addr) (s2l : Nat) (s2c : Nat) (g : G) (R : Value → G → Prop) : Prop :=
  ifB (!eqI ((s1l : Nat) : Int) ((s2l : Nat) : Int))
  (∀ g1 : G, Ex g g1 →
  R (.bool false) g1)
  (∃ Inv : Nat → Int → G → Prop, ((∃ m0 : Nat, Inv m0 (0 : Int) g)) ∧
  ∀ m : Nat, ∀ v_1 : Int, ∀ g2 : G, Le g g2 → Inv m v_1 g2 →
  ifB (ltI v_1 ((s1l : Nat) : Int))
  (∀ g3 : G, Ex g2 g3 →
  (0 ≤ v_1 ∧ v_1 < ((s1l : Nat) : Int)) ∧ derefP s1a fun ad => ∃ x : ByteArray, g3.w.cell? (Addr.add ad (Int.toNat v_1 * 1)) = some (.string x) ∧ (0 ≤ v_1 ∧ v_1 < ((s2l : Nat) : Int)) ∧ derefP s2a fun ad_1 => ∃ x_1 : ByteArray, g3.w.cell? (Addr.add ad_1 (Int.toNat v_1 * 1)) = some (.string x_1) ∧ ifB (!strEq x x_1)
  (∀ g4 : G, Ex g3 g4 →
  R (.bool false) g4)
  (InI64 (v_1 + (1 : Int)) ∧ (∃ m_1 : Nat, m_1 < m ∧ Inv m_1 (v_1 + (1 : Int)) g3)))
  (∀ g5 : G, Ex g2 g5 →
  R (.bool true) g5))
theorem F30_eq (s1a : Option Addr) (s1l : Nat) (s1c : Nat) (s2a : Option Addr) (s2l : Nat) (s2c : Nat) (g : G) (R : Value → G → Prop) : fnG cfg30 26 [.tmp 4] c30 an30 [(.slice s1a s1l s1c), (.slice s2a s2l s2c)] g nobody R = F30 s1a s1l s1c s2a s2l s2c g R := by kernel_rfl
theorem call30 (s1a : Option Addr) (s1l : Nat) (s1c : Nat) (s2a : Option Addr) (s2l : Nat) (s2c : Nat) (g : G) (R : Value → G → Prop) (hF : F30 s1a s1l s1c s2a s2l s2c g R) : CallsG Tryd.prog 30 #[(.slice s1a s1l s1c), (.slice s2a s2l s2c)] g nobody R :=
  fn_soundG (c := cfg30) TTok FNSok mixed Tryd.func30 (show Tryd.f30.body = some c30 by kernel_rfl) (show Tryd.f30.ntmps = 26 by kernel_rfl) (show Tryd.f30.results.toList = [.tmp 4] by kernel_rfl) rfl ((F30_eq s1a s1l s1c s2a s2l s2c g R).mpr hF)

/- 31 pilaster/syntax.belongs -/
noncomputable def c31 : Code := match Tryd.f31.body with
  | some c => c
  | none => .skip
noncomputable def cfg31 : Cfg := ⟨Tryd.prog, TT, FNS, [3], [(3, 3), (8, 3), (12, 3), (20, 3)], [], TCH, false, false⟩
def an31 : AnnG := (.seq .leaf (.join ⟨[], [], []⟩ (.seq .leaf (.cond (.seq .leaf .leaf) .leaf)) (.seq .leaf .leaf)))
def F31 (cat : Int) (t0 : Int) (t1 : Int) (t2 : ByteArray) (t3a : Option Addr) (t3l : Nat) (t3c : Nat) (t4a : Option Addr) (t4l : Nat) (t4c : Nat) (g : G) (R : Value → G → Prop) : Prop :=
  ∀ J : G → Prop,
  (∀ g1 : G, (ifB (!eqI cat (0 : Int))
  ((CallsP Tryd.prog 13 #[(.int .i64 t0)] g1 fun v g2 =>
  ∃ x : Int, v = (.int .i64 x) ∧ ∀ g3 : G, Ex g2 g3 →
  R (.bool (eqI x cat)) g3))
  (∀ g4 : G, Ex g1 g4 →
  R (.bool false) g4)) → J g1) →
  ifB (eqI cat (5 : Int))
  (ifB (eqI t0 (43 : Int))
  (∀ g5 : G, Ex g g5 →
  R (.bool true) g5)
  (ifB (eqI t0 (44 : Int))
  (∀ g6 : G, Ex g g6 →
  R (.bool true) g6)
  (∀ g7 : G, Ex g g7 →
  J g7)))
  (∀ g8 : G, Ex g g8 →
  J g8)
theorem F31_eq (cat : Int) (t0 : Int) (t1 : Int) (t2 : ByteArray) (t3a : Option Addr) (t3l : Nat) (t3c : Nat) (t4a : Option Addr) (t4l : Nat) (t4c : Nat) (g : G) (R : Value → G → Prop) : fnG cfg31 26 [.tmp 4] c31 an31 [(.int .i64 cat), (.agg ⟨[(.int .i64 t0), (.int .i64 t1), (.string t2), (.slice t3a t3l t3c), (.slice t4a t4l t4c)]⟩)] g nobody R = F31 cat t0 t1 t2 t3a t3l t3c t4a t4l t4c g R := by kernel_rfl
theorem call31 (cat : Int) (t0 : Int) (t1 : Int) (t2 : ByteArray) (t3a : Option Addr) (t3l : Nat) (t3c : Nat) (t4a : Option Addr) (t4l : Nat) (t4c : Nat) (g : G) (R : Value → G → Prop) (hF : F31 cat t0 t1 t2 t3a t3l t3c t4a t4l t4c g R) : CallsG Tryd.prog 31 #[(.int .i64 cat), (.agg ⟨[(.int .i64 t0), (.int .i64 t1), (.string t2), (.slice t3a t3l t3c), (.slice t4a t4l t4c)]⟩)] g nobody R :=
  fn_soundG (c := cfg31) TTok FNSok mixed Tryd.func31 (show Tryd.f31.body = some c31 by kernel_rfl) (show Tryd.f31.ntmps = 26 by kernel_rfl) (show Tryd.f31.results.toList = [.tmp 4] by kernel_rfl) rfl ((F31_eq cat t0 t1 t2 t3a t3l t3c t4a t4l t4c g R).mpr hF)

/- 32 pilaster/syntax.formed -/
noncomputable def c32 : Code := match Tryd.f32.body with
  | some c => c
  | none => .skip
noncomputable def cfg32 : Cfg := ⟨Tryd.prog, TT, FNS, [1], [(1, 1)], [4], TCH, true, false⟩
def an32 : AnnG := (.seq .leaf (.seq .leaf (.seq .leaf (.seq .leaf (.seq .leaf .leaf)))))
def F32 (t0 : Int) (t1 : Int) (t2 : ByteArray) (t3a : Option Addr) (t3l : Nat) (t3c : Nat) (t4a : Option Addr) (t4l : Nat) (t4c : Nat) (g : G) (R : Value → G → Prop) : Prop :=
  ∀ g1 : G, Ex g g1 →
  ∀ g2 : G, NewD g1 g2 3 [(.int .i64 (0 : Int))] →
  stOk g2.w ⟨g1.w.heap.size, 0, none⟩ 1 ∧ ¬ g2.X (Addr.block ⟨g1.w.heap.size, 0, none⟩) ∧ mutAt g2 ⟨g1.w.heap.size, 0, none⟩ 1 ∧ ((Addr.block ⟨g1.w.heap.size, 0, none⟩) < g.w.heap.size → nobody (Addr.block ⟨g1.w.heap.size, 0, none⟩)) ∧ ∀ g3 : G, StG false g2 ⟨g1.w.heap.size, 0, none⟩ [(.int .i64 (0 : Int))] g3 →
  ∀ g4 : G, NewD g3 g4 65 [.nilFunc] →
  stOk g4.w ⟨g3.w.heap.size, 0, none⟩ 1 ∧ ¬ g4.X (Addr.block ⟨g3.w.heap.size, 0, none⟩) ∧ mutAt g4 ⟨g3.w.heap.size, 0, none⟩ 1 ∧ ((Addr.block ⟨g3.w.heap.size, 0, none⟩) < g.w.heap.size → nobody (Addr.block ⟨g3.w.heap.size, 0, none⟩)) ∧ ∀ g5 : G, StG true g4 ⟨g3.w.heap.size, 0, none⟩ [(.func (.func 49) #[] ⟨[(.pointer (some ⟨g1.w.heap.size, 0, none⟩)), (.pointer (some ⟨g3.w.heap.size, 0, none⟩))]⟩)] g5 →
  ∃ walkf : FuncId, ∃ walkc : Array Value, g5.w.cell? ⟨g3.w.heap.size, 0, none⟩ = some (.func (.func walkf) #[] walkc) ∧ Enters Tryd.prog walkf ∧ ∃ M1 : Nat → Prop, (∀ b, b < g.w.heap.size → M1 b → nobody b) ∧ (CallsG Tryd.prog walkf ((⟨[(.agg ⟨[(.int .i64 t0), (.int .i64 t1), (.string t2), (.slice t3a t3l t3c), (.slice t4a t4l t4c)]⟩), (.int .i64 (1 : Int)), (.bool false)]⟩ : Array Value) ++ walkc) g5 M1 fun v g6 =>
  ∃ x : Bool, v = (.bool x) ∧ ∀ g7 : G, Ex g6 g7 →
  R (.bool x) g7)
theorem F32_eq (t0 : Int) (t1 : Int) (t2 : ByteArray) (t3a : Option Addr) (t3l : Nat) (t3c : Nat) (t4a : Option Addr) (t4l : Nat) (t4c : Nat) (g : G) (R : Value → G → Prop) : fnG cfg32 9 [.tmp 2] c32 an32 [(.agg ⟨[(.int .i64 t0), (.int .i64 t1), (.string t2), (.slice t3a t3l t3c), (.slice t4a t4l t4c)]⟩)] g nobody R = F32 t0 t1 t2 t3a t3l t3c t4a t4l t4c g R := by kernel_rfl
theorem call32 (t0 : Int) (t1 : Int) (t2 : ByteArray) (t3a : Option Addr) (t3l : Nat) (t3c : Nat) (t4a : Option Addr) (t4l : Nat) (t4c : Nat) (g : G) (R : Value → G → Prop) (hF : F32 t0 t1 t2 t3a t3l t3c t4a t4l t4c g R) : CallsG Tryd.prog 32 #[(.agg ⟨[(.int .i64 t0), (.int .i64 t1), (.string t2), (.slice t3a t3l t3c), (.slice t4a t4l t4c)]⟩)] g nobody R :=
  fn_soundG (c := cfg32) TTok FNSok mixed Tryd.func32 (show Tryd.f32.body = some c32 by kernel_rfl) (show Tryd.f32.ntmps = 9 by kernel_rfl) (show Tryd.f32.results.toList = [.tmp 2] by kernel_rfl) rfl ((F32_eq t0 t1 t2 t3a t3l t3c t4a t4l t4c g R).mpr hF)

/- 33 pilaster/pilasterref03.belongs -/
noncomputable def c33 : Code := match Tryd.f33.body with
  | some c => c
  | none => .skip
noncomputable def cfg33 : Cfg := ⟨Tryd.prog, TT, FNS, [], [], [], TCH, false, false⟩
def an33 : AnnG := (.seq .leaf (.seq .leaf .leaf))
def F33 (op : Int) (cat : Int) (g : G) (R : Value → G → Prop) : Prop :=
  (CallsP Tryd.prog 14 #[(.int .i64 op)] g fun v g1 =>
  ∃ x : Int, v = (.int .i64 x) ∧ ifB (eqI x cat)
  (∀ g2 : G, Ex g1 g2 →
  R (.bool true) g2)
  (ifB (eqI cat (5 : Int))
  (ifB (eqI op (43 : Int))
  (∀ g3 : G, Ex g1 g3 →
  R (.bool true) g3)
  (∀ g4 : G, Ex g1 g4 →
  R (.bool (eqI op (44 : Int))) g4))
  (∀ g5 : G, Ex g1 g5 →
  R (.bool false) g5)))
theorem F33_eq (op : Int) (cat : Int) (g : G) (R : Value → G → Prop) : fnG cfg33 21 [.tmp 4] c33 an33 [(.int .i64 op), (.int .i64 cat)] g nobody R = F33 op cat g R := by kernel_rfl
theorem call33 (op : Int) (cat : Int) (g : G) (R : Value → G → Prop) (hF : F33 op cat g R) : CallsG Tryd.prog 33 #[(.int .i64 op), (.int .i64 cat)] g nobody R :=
  fn_soundG (c := cfg33) TTok FNSok mixed Tryd.func33 (show Tryd.f33.body = some c33 by kernel_rfl) (show Tryd.f33.ntmps = 21 by kernel_rfl) (show Tryd.f33.results.toList = [.tmp 4] by kernel_rfl) rfl ((F33_eq op cat g R).mpr hF)

/- 34 pilaster/pilasterref03.Formed -/
noncomputable def c34 : Code := match Tryd.f34.body with
  | some c => c
  | none => .skip
noncomputable def cfg34 : Cfg := ⟨Tryd.prog, TT, FNS, [1], [(1, 1)], [], TCH, false, false⟩
def an34 : AnnG := (.seq .leaf (.seq .leaf .leaf))
def F34 (t0 : Int) (t1 : Int) (t2 : ByteArray) (t3a : Option Addr) (t3l : Nat) (t3c : Nat) (t4a : Option Addr) (t4l : Nat) (t4c : Nat) (g : G) (R : Value → G → Prop) : Prop :=
  ∀ g1 : G, Ex g g1 →
  (CallsP Tryd.prog 23 #[(.agg ⟨[(.int .i64 t0), (.int .i64 t1), (.string t2), (.slice t3a t3l t3c), (.slice t4a t4l t4c)]⟩)] g1 fun v g2 =>
  ∃ x : Int, v = (.int .i64 x) ∧ ifB (leI x (20000 : Int))
  ((CallsP Tryd.prog 24 #[(.agg ⟨[(.int .i64 t0), (.int .i64 t1), (.string t2), (.slice t3a t3l t3c), (.slice t4a t4l t4c)]⟩)] g2 fun v g3 =>
  ∃ x_1 : Int, v = (.int .i64 x_1) ∧ ifB (leI x_1 (400 : Int))
  ((CallsP Tryd.prog 53 #[(.agg ⟨[(.int .i64 t0), (.int .i64 t1), (.string t2), (.slice t3a t3l t3c), (.slice t4a t4l t4c)]⟩), (.bool false)] g3 fun v g4 =>
  ∃ x_2 : Bool, v = (.bool x_2) ∧ ∀ g5 : G, Ex g4 g5 →
  R (.bool x_2) g5))
  (∀ g6 : G, Ex g3 g6 →
  R (.bool false) g6)))
  (∀ g7 : G, Ex g2 g7 →
  R (.bool false) g7))
theorem F34_eq (t0 : Int) (t1 : Int) (t2 : ByteArray) (t3a : Option Addr) (t3l : Nat) (t3c : Nat) (t4a : Option Addr) (t4l : Nat) (t4c : Nat) (g : G) (R : Value → G → Prop) : fnG cfg34 15 [.tmp 2] c34 an34 [(.agg ⟨[(.int .i64 t0), (.int .i64 t1), (.string t2), (.slice t3a t3l t3c), (.slice t4a t4l t4c)]⟩)] g nobody R = F34 t0 t1 t2 t3a t3l t3c t4a t4l t4c g R := by kernel_rfl
theorem call34 (t0 : Int) (t1 : Int) (t2 : ByteArray) (t3a : Option Addr) (t3l : Nat) (t3c : Nat) (t4a : Option Addr) (t4l : Nat) (t4c : Nat) (g : G) (R : Value → G → Prop) (hF : F34 t0 t1 t2 t3a t3l t3c t4a t4l t4c g R) : CallsG Tryd.prog 34 #[(.agg ⟨[(.int .i64 t0), (.int .i64 t1), (.string t2), (.slice t3a t3l t3c), (.slice t4a t4l t4c)]⟩)] g nobody R :=
  fn_soundG (c := cfg34) TTok FNSok mixed Tryd.func34 (show Tryd.f34.body = some c34 by kernel_rfl) (show Tryd.f34.ntmps = 15 by kernel_rfl) (show Tryd.f34.results.toList = [.tmp 2] by kernel_rfl) rfl ((F34_eq t0 t1 t2 t3a t3l t3c t4a t4l t4c g R).mpr hF)

/- 35 slices.ContainsFunc[[]string,string] -/
noncomputable def c35 : Code := match Tryd.f35.body with
  | some c => c
  | none => .skip
noncomputable def cfg35 : Cfg := ⟨Tryd.prog, TT, FNS, [], [], [], TCH, false, false⟩
def an35 : AnnG := (.seq .leaf (.seq .leaf .leaf))
def F35 (sa : Option Addr) (sl : Nat) (sc : Nat) (ff : FuncId) (fc : Array Value) (g : G) (R : Value → G → Prop) : Prop :=
  (CallsP Tryd.prog 54 #[(.slice sa sl sc), (.func (.func ff) #[] fc)] g fun v g1 =>
  ∃ x : Int, v = (.int .i64 x) ∧ ∀ g2 : G, Ex g1 g2 →
  R (.bool (leI (0 : Int) x)) g2)
theorem F35_eq (sa : Option Addr) (sl : Nat) (sc : Nat) (ff : FuncId) (fc : Array Value) (g : G) (R : Value → G → Prop) : fnG cfg35 9 [.tmp 4] c35 an35 [(.slice sa sl sc), (.func (.func ff) #[] fc)] g nobody R = F35 sa sl sc ff fc g R := by kernel_rfl
theorem call35 (sa : Option Addr) (sl : Nat) (sc : Nat) (ff : FuncId) (fc : Array Value) (g : G) (R : Value → G → Prop) (hF : F35 sa sl sc ff fc g R) : CallsG Tryd.prog 35 #[(.slice sa sl sc), (.func (.func ff) #[] fc)] g nobody R :=
  fn_soundG (c := cfg35) TTok FNSok mixed Tryd.func35 (show Tryd.f35.body = some c35 by kernel_rfl) (show Tryd.f35.ntmps = 9 by kernel_rfl) (show Tryd.f35.results.toList = [.tmp 4] by kernel_rfl) rfl ((F35_eq sa sl sc ff fc g R).mpr hF)

/- 36 pilaster/pilasterlaw03.few$1 -/
noncomputable def c36 : Code := match Tryd.f36.body with
  | some c => c
  | none => .skip
noncomputable def cfg36 : Cfg := ⟨Tryd.prog, TT, FNS, [], [], [], TCH, false, false⟩
def an36 : AnnG := (.seq .leaf (.seq .leaf .leaf))
def F36 (s : ByteArray) (g : G) (R : Value → G → Prop) : Prop :=
  ∀ g1 : G, Ex g g1 →
  R (.bool (ltI (60 : Int) ((s.size : Nat) : Int))) g1
theorem F36_eq (s : ByteArray) (g : G) (R : Value → G → Prop) : fnG cfg36 6 [.tmp 2] c36 an36 [(.string s)] g nobody R = F36 s g R := by kernel_rfl
theorem call36 (s : ByteArray) (g : G) (R : Value → G → Prop) (hF : F36 s g R) : CallsG Tryd.prog 36 #[(.string s)] g nobody R :=
  fn_soundG (c := cfg36) TTok FNSok mixed Tryd.func36 (show Tryd.f36.body = some c36 by kernel_rfl) (show Tryd.f36.ntmps = 6 by kernel_rfl) (show Tryd.f36.results.toList = [.tmp 2] by kernel_rfl) rfl ((F36_eq s g R).mpr hF)

/- 37 slices.ContainsFunc[[]pilaster/api.Syn,pilaster/api.Syn] -/
noncomputable def c37 : Code := match Tryd.f37.body with
  | some c => c
  | none => .skip
noncomputable def cfg37 : Cfg := ⟨Tryd.prog, TT, FNS, [], [], [], TCH, false, false⟩
def an37 : AnnG := (.seq .leaf (.seq .leaf .leaf))
def F37 (sa : Option Addr) (sl : Nat) (sc : Nat) (ff : FuncId) (fc : Array Value) (g : G) (M : Nat → Prop) (R : Value → G → Prop) : Prop :=
  ∃ M1 : Nat → Prop, (∀ b, b < g.w.heap.size → M1 b → M b) ∧ (CallsG Tryd.prog 55 #[(.slice sa sl sc), (.func (.func ff) #[] fc)] g M1 fun v g1 =>
  ∃ x : Int, v = (.int .i64 x) ∧ ∀ g2 : G, Ex g1 g2 →
  R (.bool (leI (0 : Int) x)) g2)
theorem F37_eq (sa : Option Addr) (sl : Nat) (sc : Nat) (ff : FuncId) (fc : Array Value) (g : G) (M : Nat → Prop) (R : Value → G → Prop) : fnG cfg37 9 [.tmp 4] c37 an37 [(.slice sa sl sc), (.func (.func ff) #[] fc)] g M R = F37 sa sl sc ff fc g M R := by kernel_rfl
theorem call37 (sa : Option Addr) (sl : Nat) (sc : Nat) (ff : FuncId) (fc : Array Value) (g : G) (M : Nat → Prop) (R : Value → G → Prop) (hF : F37 sa sl sc ff fc g M R) : CallsG Tryd.prog 37 #[(.slice sa sl sc), (.func (.func ff) #[] fc)] g M R :=
  fn_soundG (c := cfg37) TTok FNSok mixed Tryd.func37 (show Tryd.f37.body = some c37 by kernel_rfl) (show Tryd.f37.ntmps = 9 by kernel_rfl) (show Tryd.f37.results.toList = [.tmp 4] by kernel_rfl) rfl ((F37_eq sa sl sc ff fc g M R).mpr hF)

/- 38 pilaster/pilasterlaw03.few$2 -/
noncomputable def c38 : Code := match Tryd.f38.body with
  | some c => c
  | none => .skip
noncomputable def cfg38 : Cfg := ⟨Tryd.prog, TT, FNS, [3], [(3, 3)], [], TCH, false, false⟩
def an38 : AnnG := (.seq .leaf (.seq .leaf .leaf))
def F38 (x0 : Int) (x1 : Int) (x2 : ByteArray) (x3a : Option Addr) (x3l : Nat) (x3c : Nat) (x4a : Option Addr) (x4l : Nat) (x4c : Nat) (c0 : Option Addr) (c1 : Option Addr) (g : G) (M : Nat → Prop) (R : Value → G → Prop) : Prop :=
  ∀ g1 : G, Ex g g1 →
  derefP c0 fun ad => ∃ x : Option Addr, g1.w.cell? ad = some (.pointer x) ∧ derefP c1 fun ad_1 => ∃ x_1 : Int, g1.w.cell? ad_1 = some (.int .i64 x_1) ∧ InI64 (x_1 + (1 : Int)) ∧ ∃ M1 : Nat → Prop, (∀ b, b < g.w.heap.size → M1 b → M b) ∧ (CallsG Tryd.prog 15 #[(.agg ⟨[(.int .i64 x0), (.int .i64 x1), (.string x2), (.slice x3a x3l x3c), (.slice x4a x4l x4c)]⟩), (.pointer x), (.int .i64 (x_1 + (1 : Int)))] g1 M1 fun v g2 =>
  ∃ x_2 : Bool, v = (.bool x_2) ∧ ∀ g3 : G, Ex g2 g3 →
  R (.bool (!x_2)) g3)
theorem F38_eq (x0 : Int) (x1 : Int) (x2 : ByteArray) (x3a : Option Addr) (x3l : Nat) (x3c : Nat) (x4a : Option Addr) (x4l : Nat) (x4c : Nat) (c0 : Option Addr) (c1 : Option Addr) (g : G) (M : Nat → Prop) (R : Value → G → Prop) : fnG cfg38 11 [.tmp 4] c38 an38 [(.agg ⟨[(.int .i64 x0), (.int .i64 x1), (.string x2), (.slice x3a x3l x3c), (.slice x4a x4l x4c)]⟩), (.pointer c0), (.pointer c1)] g M R = F38 x0 x1 x2 x3a x3l x3c x4a x4l x4c c0 c1 g M R := by kernel_rfl
theorem call38 (x0 : Int) (x1 : Int) (x2 : ByteArray) (x3a : Option Addr) (x3l : Nat) (x3c : Nat) (x4a : Option Addr) (x4l : Nat) (x4c : Nat) (c0 : Option Addr) (c1 : Option Addr) (g : G) (M : Nat → Prop) (R : Value → G → Prop) (hF : F38 x0 x1 x2 x3a x3l x3c x4a x4l x4c c0 c1 g M R) : CallsG Tryd.prog 38 #[(.agg ⟨[(.int .i64 x0), (.int .i64 x1), (.string x2), (.slice x3a x3l x3c), (.slice x4a x4l x4c)]⟩), (.pointer c0), (.pointer c1)] g M R :=
  fn_soundG (c := cfg38) TTok FNSok mixed Tryd.func38 (show Tryd.f38.body = some c38 by kernel_rfl) (show Tryd.f38.ntmps = 11 by kernel_rfl) (show Tryd.f38.results.toList = [.tmp 4] by kernel_rfl) rfl ((F38_eq x0 x1 x2 x3a x3l x3c x4a x4l x4c c0 c1 g M R).mpr hF)

/- 39 pilaster/syntax.known -/
noncomputable def c39 : Code := match Tryd.f39.body with
  | some c => c
  | none => .skip
noncomputable def cfg39 : Cfg := ⟨Tryd.prog, TT, FNS, [1], [(1, 1), (3, 1)], [], TCH, false, false⟩
def an39 : AnnG := (.seq .leaf (.seq .leaf .leaf))
def F39 (t0 : Int) (t1 : Int) (t2 : ByteArray) (t3a : Option Addr) (t3l : Nat) (t3c : Nat) (t4a : Option Addr) (t4l : Nat) (t4c : Nat) (g : G) (R : Value → G → Prop) : Prop :=
  ∀ g1 : G, Ex g g1 →
  (CallsP Tryd.prog 13 #[(.int .i64 t0)] g1 fun v g2 =>
  ∃ x : Int, v = (.int .i64 x) ∧ ifB (!eqI x (0 : Int))
  ((CallsP Tryd.prog 32 #[(.agg ⟨[(.int .i64 t0), (.int .i64 t1), (.string t2), (.slice t3a t3l t3c), (.slice t4a t4l t4c)]⟩)] g2 fun v g3 =>
  ∃ x_1 : Bool, v = (.bool x_1) ∧ ∀ g4 : G, Ex g3 g4 →
  R (.bool x_1) g4))
  (∀ g5 : G, Ex g2 g5 →
  R (.bool false) g5))
theorem F39_eq (t0 : Int) (t1 : Int) (t2 : ByteArray) (t3a : Option Addr) (t3l : Nat) (t3c : Nat) (t4a : Option Addr) (t4l : Nat) (t4c : Nat) (g : G) (R : Value → G → Prop) : fnG cfg39 11 [.tmp 2] c39 an39 [(.agg ⟨[(.int .i64 t0), (.int .i64 t1), (.string t2), (.slice t3a t3l t3c), (.slice t4a t4l t4c)]⟩)] g nobody R = F39 t0 t1 t2 t3a t3l t3c t4a t4l t4c g R := by kernel_rfl
theorem call39 (t0 : Int) (t1 : Int) (t2 : ByteArray) (t3a : Option Addr) (t3l : Nat) (t3c : Nat) (t4a : Option Addr) (t4l : Nat) (t4c : Nat) (g : G) (R : Value → G → Prop) (hF : F39 t0 t1 t2 t3a t3l t3c t4a t4l t4c g R) : CallsG Tryd.prog 39 #[(.agg ⟨[(.int .i64 t0), (.int .i64 t1), (.string t2), (.slice t3a t3l t3c), (.slice t4a t4l t4c)]⟩)] g nobody R :=
  fn_soundG (c := cfg39) TTok FNSok mixed Tryd.func39 (show Tryd.f39.body = some c39 by kernel_rfl) (show Tryd.f39.ntmps = 11 by kernel_rfl) (show Tryd.f39.results.toList = [.tmp 2] by kernel_rfl) rfl ((F39_eq t0 t1 t2 t3a t3l t3c t4a t4l t4c g R).mpr hF)

/- 40 pilaster/syntax.Paths$1 -/
noncomputable def c40 : Code := match Tryd.f40.body with
  | some c => c
  | none => .skip
noncomputable def cfg40 : Cfg := ⟨Tryd.prog, TT, FNS, [3, 4, 6], [(3, 3), (4, 4), (6, 6), (7, 3), (10, 4), (13, 4), (18, 3), (23, 3)], [], TCH, true, false⟩
def an40 : AnnG := (.seq .leaf (.join ⟨[], [], []⟩ (.seq .leaf (.join ⟨[(16, .bool)], [], []⟩ .leaf (.cond (.tree 5 (.quiet 0 (.quiet 1 (.quiet 2 (.eff 3 (.eff 4 .fin .fin) .fin))))) .leaf))) (.seq .leaf (.blk (.loop ⟨[(26, .int .i64)], [], []⟩ (.seq .leaf (.seq (.cond .leaf .leaf) (.seq (.blk (.seq .leaf .leaf)) .leaf))))))))
def F40 (t0 : Int) (t1 : Int) (t2 : ByteArray) (t3a : Option Addr) (t3l : Nat) (t3c : Nat) (t4a : Option Addr) (t4l : Nat) (t4c : Nat) (c0 : Option Addr) (c1 : Option Addr) (g : G) (M : Nat → Prop) (R : Value → G → Prop) : Prop :=
  ∀ J : G → Prop,
  (∀ g1 : G, (∃ Inv : Nat → Int → G → Prop, ((∃ m0 : Nat, Inv m0 (0 : Int) g1)) ∧
  ∀ m : Nat, ∀ v_1 : Int, ∀ g2 : G, Le g1 g2 → Inv m v_1 g2 →
  ifB (ltI v_1 ((t4l : Nat) : Int))
  ((0 ≤ v_1 ∧ v_1 < ((t4l : Nat) : Int)) ∧ derefP t4a fun ad => ∃ x0 : Int, ∃ x1 : Int, ∃ x2 : ByteArray, ∃ x3a : Option Addr, ∃ x3l : Nat, ∃ x3c : Nat, ∃ x4a : Option Addr, ∃ x4l : Nat, ∃ x4c : Nat, g2.w.cell? (Addr.add ad (Int.toNat v_1 * 5)) = some (.int .i64 x0) ∧ g2.w.cell? (Addr.add (Addr.add ad (Int.toNat v_1 * 5)) 1) = some (.int .i64 x1) ∧ g2.w.cell? (Addr.add (Addr.add ad (Int.toNat v_1 * 5)) 2) = some (.string x2) ∧ g2.w.cell? (Addr.add (Addr.add ad (Int.toNat v_1 * 5)) 3) = some (.slice x3a x3l x3c) ∧ g2.w.cell? (Addr.add (Addr.add ad (Int.toNat v_1 * 5)) 4) = some (.slice x4a x4l x4c) ∧ ∀ g3 : G, Ex g2 g3 →
  derefP c1 fun ad_1 => ∃ xf : FuncId, ∃ xc : Array Value, g3.w.cell? ad_1 = some (.func (.func xf) #[] xc) ∧ Enters Tryd.prog xf ∧ ∃ M1 : Nat → Prop, (∀ b, b < g.w.heap.size → M1 b → M b) ∧ (CallsG Tryd.prog xf ((⟨[(.agg ⟨[(.int .i64 x0), (.int .i64 x1), (.string x2), (.slice x3a x3l x3c), (.slice x4a x4l x4c)]⟩)]⟩ : Array Value) ++ xc) g3 M1 fun v g4 =>
  v = (.tuple ⟨[]⟩) ∧ InI64 (v_1 + (1 : Int)) ∧ (∃ m_1 : Nat, m_1 < m ∧ Inv m_1 (v_1 + (1 : Int)) g4)))
  (∀ g5 : G, Ex g2 g5 →
  R (.tuple ⟨[]⟩) g5)) → J g1) →
  ∀ g6 : G, Ex g g6 →
  (CallsP Tryd.prog 41 #[(.int .i64 t0)] g6 fun v g7 =>
  ∃ x0_1 : Bool, ∃ x1_1 : Bool, ∃ x2_1 : Bool, v = (.agg ⟨[(.bool x0_1), (.bool x1_1), (.bool x2_1)]⟩) ∧ ∀ J_1 : Bool → G → Prop,
  (∀ v_2 : Bool, ∀ g8 : G, (ifB v_2
  (∀ g9 : G, Ex g8 g9 →
  derefP c0 fun ad_2 => ∃ xa : Option Addr, ∃ xl : Nat, ∃ xc_1 : Nat, g9.w.cell? ad_2 = some (.slice xa xl xc_1) ∧ (CallsP Tryd.prog 42 #[(.slice t3a t3l t3c)] g9 fun v g10 =>
  ∃ xa_1 : Option Addr, ∃ xl_1 : Nat, ∃ xc_2 : Nat, v = (.slice xa_1 xl_1 xc_2) ∧ ∀ g11 : G, NewL g10 g11 22 [(.slice xa_1 xl_1 xc_2)] →
  ∃ xa_2 : Option Addr, ∃ xl_2 : Nat, ∃ xc_3 : Nat, ∃ wo1 : World, Sem.run Tryd.prog (Builtin.append_ #[34, 34] 34 #[(.slice xa xl xc_1), (.slice (some ⟨g10.w.heap.size, 0, none⟩) 1 1)]) g11.w = .ok (.slice xa_2 xl_2 xc_3) wo1 ∧ ∃ g12 : G, g12.w = wo1 ∧ Stp g.w.heap.size M g11 g12 ∧ derefP c0 fun ad_3 => stOk g12.w ad_3 1 ∧ ¬ g12.X (Addr.block ad_3) ∧ mutAt g12 ad_3 1 ∧ ((Addr.block ad_3) < g.w.heap.size → M (Addr.block ad_3)) ∧ ∀ g13 : G, StG false g12 ad_3 [(.slice xa_2 xl_2 xc_3)] g13 →
  J g13))
  (J g8)) → J_1 v_2 g8) →
  ifB x2_1
  (∀ g14 : G, Ex g7 g14 →
  J_1 (!x1_1) g14)
  (∀ g15 : G, Ex g7 g15 →
  J_1 false g15))
theorem F40_eq (t0 : Int) (t1 : Int) (t2 : ByteArray) (t3a : Option Addr) (t3l : Nat) (t3c : Nat) (t4a : Option Addr) (t4l : Nat) (t4c : Nat) (c0 : Option Addr) (c1 : Option Addr) (g : G) (M : Nat → Prop) (R : Value → G → Prop) : fnG cfg40 34 [] c40 an40 [(.agg ⟨[(.int .i64 t0), (.int .i64 t1), (.string t2), (.slice t3a t3l t3c), (.slice t4a t4l t4c)]⟩), (.pointer c0), (.pointer c1)] g M R = F40 t0 t1 t2 t3a t3l t3c t4a t4l t4c c0 c1 g M R := by kernel_rfl
theorem call40 (t0 : Int) (t1 : Int) (t2 : ByteArray) (t3a : Option Addr) (t3l : Nat) (t3c : Nat) (t4a : Option Addr) (t4l : Nat) (t4c : Nat) (c0 : Option Addr) (c1 : Option Addr) (g : G) (M : Nat → Prop) (R : Value → G → Prop) (hF : F40 t0 t1 t2 t3a t3l t3c t4a t4l t4c c0 c1 g M R) : CallsG Tryd.prog 40 #[(.agg ⟨[(.int .i64 t0), (.int .i64 t1), (.string t2), (.slice t3a t3l t3c), (.slice t4a t4l t4c)]⟩), (.pointer c0), (.pointer c1)] g M R :=
  fn_soundG (c := cfg40) TTok FNSok mixed Tryd.func40 (show Tryd.f40.body = some c40 by kernel_rfl) (show Tryd.f40.ntmps = 34 by kernel_rfl) (show Tryd.f40.results.toList = [] by kernel_rfl) rfl ((F40_eq t0 t1 t2 t3a t3l t3c t4a t4l t4c c0 c1 g M R).mpr hF)

/- 41 pilaster/syntax.fields -/
noncomputable def c41 : Code := match Tryd.f41.body with
  | some c => c
  | none => .skip
noncomputable def cfg41 : Cfg := ⟨Tryd.prog, TT, FNS, [2], [(2, 2)], [], TCH, false, false⟩
def an41 : AnnG := (.seq .leaf (.seq (.seq .leaf (.blk (.join ⟨[(4, .bool)], [], []⟩ (.seq .leaf (.cond .leaf (.seq .leaf (.cond .leaf .leaf)))) (.cond (.seq .leaf .leaf) (.join ⟨[(9, .bool)], [], []⟩ (.seq .leaf (.cond .leaf (.seq .leaf (.cond .leaf (.seq .leaf (.cond .leaf (.seq .leaf (.cond .leaf (.seq .leaf (.cond .leaf (.seq .leaf (.cond .leaf (.seq .leaf (.cond .leaf (.seq .leaf (.cond .leaf (.seq .leaf (.cond .leaf (.seq .leaf (.cond .leaf (.seq .leaf (.cond .leaf .leaf)))))))))))))))))))))) (.cond (.seq .leaf .leaf) (.join ⟨[(23, .bool)], [], []⟩ (.seq .leaf (.cond .leaf (.seq .leaf (.cond .leaf (.seq .leaf (.cond .leaf (.seq .leaf (.cond .leaf (.seq .leaf (.cond .leaf (.seq .leaf (.cond .leaf (.seq .leaf (.cond .leaf (.seq .leaf (.cond .leaf (.seq .leaf (.cond .leaf (.seq .leaf (.cond .leaf (.seq .leaf (.cond .leaf .leaf)))))))))))))))))))))) (.cond (.seq .leaf .leaf) (.join ⟨[(37, .bool)], [], []⟩ (.seq .leaf (.cond .leaf (.seq .leaf (.cond .leaf (.seq .leaf (.cond .leaf .leaf)))))) (.cond (.seq .leaf .leaf) (.seq (.seq .leaf (.cond .leaf .leaf)) (.cond (.seq .leaf .leaf) .leaf)))))))))))) (.seq .leaf .leaf)))
def F41 (op : Int) (g : G) (R : Value → G → Prop) : Prop :=
  ∀ J : Bool → G → Prop,
  (∀ v_1 : Bool, ∀ g1 : G, (ifB v_1
  (∀ g2 : G, Ex g1 g2 →
  R (.agg ⟨[(.bool true), (.bool false), (.bool false)]⟩) g2)
  (∀ J_1 : Bool → G → Prop,
  (∀ v_2 : Bool, ∀ g3 : G, (ifB v_2
  (∀ g4 : G, Ex g3 g4 →
  R (.agg ⟨[(.bool false), (.bool true), (.bool false)]⟩) g4)
  (∀ J_2 : Bool → G → Prop,
  (∀ v_3 : Bool, ∀ g5 : G, (ifB v_3
  (∀ g6 : G, Ex g5 g6 →
  R (.agg ⟨[(.bool false), (.bool false), (.bool true)]⟩) g6)
  (∀ J_3 : Bool → G → Prop,
  (∀ v_4 : Bool, ∀ g7 : G, (ifB v_4
  (∀ g8 : G, Ex g7 g8 →
  R (.agg ⟨[(.bool false), (.bool true), (.bool true)]⟩) g8)
  (ifB (eqI op (73 : Int))
  (∀ g9 : G, Ex g7 g9 →
  R (.agg ⟨[(.bool true), (.bool true), (.bool false)]⟩) g9)
  (ifB (eqI op (83 : Int))
  (∀ g10 : G, Ex g7 g10 →
  R (.agg ⟨[(.bool true), (.bool true), (.bool false)]⟩) g10)
  (∀ g11 : G, Ex g7 g11 →
  R (.agg ⟨[(.bool false), (.bool false), (.bool false)]⟩) g11)))) → J_3 v_4 g7) →
  ifB (eqI op (42 : Int))
  (J_3 true g5)
  (ifB (eqI op (43 : Int))
  (J_3 true g5)
  (ifB (eqI op (44 : Int))
  (J_3 true g5)
  (J_3 (eqI op (62 : Int)) g5))))) → J_2 v_3 g5) →
  ifB (eqI op (2 : Int))
  (J_2 true g3)
  (ifB (eqI op (5 : Int))
  (J_2 true g3)
  (ifB (eqI op (14 : Int))
  (J_2 true g3)
  (ifB (eqI op (23 : Int))
  (J_2 true g3)
  (ifB (eqI op (24 : Int))
  (J_2 true g3)
  (ifB (eqI op (34 : Int))
  (J_2 true g3)
  (ifB (eqI op (48 : Int))
  (J_2 true g3)
  (ifB (eqI op (49 : Int))
  (J_2 true g3)
  (ifB (eqI op (66 : Int))
  (J_2 true g3)
  (ifB (eqI op (72 : Int))
  (J_2 true g3)
  (ifB (eqI op (74 : Int))
  (J_2 true g3)
  (J_2 (eqI op (82 : Int)) g3))))))))))))) → J_1 v_2 g3) →
  ifB (eqI op (1 : Int))
  (J_1 true g1)
  (ifB (eqI op (12 : Int))
  (J_1 true g1)
  (ifB (eqI op (22 : Int))
  (J_1 true g1)
  (ifB (eqI op (25 : Int))
  (J_1 true g1)
  (ifB (eqI op (41 : Int))
  (J_1 true g1)
  (ifB (eqI op (45 : Int))
  (J_1 true g1)
  (ifB (eqI op (46 : Int))
  (J_1 true g1)
  (ifB (eqI op (47 : Int))
  (J_1 true g1)
  (ifB (eqI op (50 : Int))
  (J_1 true g1)
  (ifB (eqI op (61 : Int))
  (J_1 true g1)
  (ifB (eqI op (63 : Int))
  (J_1 true g1)
  (J_1 (eqI op (64 : Int)) g1))))))))))))) → J v_1 g1) →
  ifB (eqI op (13 : Int))
  (∀ g12 : G, Ex g g12 →
  J true g12)
  (ifB (eqI op (21 : Int))
  (∀ g13 : G, Ex g g13 →
  J true g13)
  (∀ g14 : G, Ex g g14 →
  J (eqI op (32 : Int)) g14))
theorem F41_eq (op : Int) (g : G) (R : Value → G → Prop) : fnG cfg41 48 [.cell 2 56] c41 an41 [(.int .i64 op)] g nobody R = F41 op g R := by kernel_rfl
theorem call41 (op : Int) (g : G) (R : Value → G → Prop) (hF : F41 op g R) : CallsG Tryd.prog 41 #[(.int .i64 op)] g nobody R :=
  fn_soundG (c := cfg41) TTok FNSok mixed Tryd.func41 (show Tryd.f41.body = some c41 by kernel_rfl) (show Tryd.f41.ntmps = 48 by kernel_rfl) (show Tryd.f41.results.toList = [.cell 2 56] by kernel_rfl) rfl ((F41_eq op g R).mpr hF)

/- 42 slices.Clone[[]string,string] -/
noncomputable def c42 : Code := match Tryd.f42.body with
  | some c => c
  | none => .skip
noncomputable def cfg42 : Cfg := ⟨Tryd.prog, TT, FNS, [], [], [], TCH, false, false⟩
def an42 : AnnG := (.seq .leaf (.seq (.seq .leaf (.cond (.seq .leaf .leaf) .leaf)) (.seq .leaf .leaf)))
def F42 (sa : Option Addr) (sl : Nat) (sc : Nat) (g : G) (R : Value → G → Prop) : Prop :=
  ifB sa.isNone
  (∀ g1 : G, Ex g g1 →
  R (.slice none 0 0) g1)
  (∀ g2 : G, NewL g g2 9 [] →
  ∃ xa : Option Addr, ∃ xl : Nat, ∃ xc : Nat, ∃ wo1 : World, Sem.run Tryd.prog (Builtin.append_ #[22, 22] 22 #[(.slice (some ⟨g.w.heap.size, 0, none⟩) 0 0), (.slice sa sl sc)]) g2.w = .ok (.slice xa xl xc) wo1 ∧ ∃ g3 : G, g3.w = wo1 ∧ Stp g.w.heap.size nobody g2 g3 ∧ ∀ g4 : G, Ex g3 g4 →
  R (.slice xa xl xc) g4)
theorem F42_eq (sa : Option Addr) (sl : Nat) (sc : Nat) (g : G) (R : Value → G → Prop) : fnG cfg42 8 [.tmp 2] c42 an42 [(.slice sa sl sc)] g nobody R = F42 sa sl sc g R := by kernel_rfl
theorem call42 (sa : Option Addr) (sl : Nat) (sc : Nat) (g : G) (R : Value → G → Prop) (hF : F42 sa sl sc g R) : CallsG Tryd.prog 42 #[(.slice sa sl sc)] g nobody R :=
  fn_soundG (c := cfg42) TTok FNSok mixed Tryd.func42 (show Tryd.f42.body = some c42 by kernel_rfl) (show Tryd.f42.ntmps = 8 by kernel_rfl) (show Tryd.f42.results.toList = [.tmp 2] by kernel_rfl) rfl ((F42_eq sa sl sc g R).mpr hF)

/- 43 slices.EqualFunc[[][]string,[][]string,[]string,[]string] -/
noncomputable def c43 : Code := match Tryd.f43.body with
  | some c => c
  | none => .skip
noncomputable def cfg43 : Cfg := ⟨Tryd.prog, TT, FNS, [], [], [], TCH, false, false⟩
def an43 : AnnG := (.seq .leaf (.seq (.seq .leaf (.cond (.seq .leaf .leaf) .leaf)) (.seq (.seq .leaf (.blk (.loop ⟨[(17, .int .i64)], [], []⟩ (.seq .leaf (.seq (.cond .leaf .leaf) (.seq (.blk (.seq .leaf (.seq .leaf (.seq .leaf (.cond (.seq .leaf .leaf) .leaf))))) .leaf)))))) (.seq .leaf .leaf))))
def F43 (s1a : Option Addr) (s1l : Nat) (s1c : Nat) (s2a : Option Addr) (s2l : Nat) (s2c : Nat) (eqf : FuncId) (eqc : Array Value) (g : G) (R : Value → G → Prop) : Prop :=
  ifB (!eqI ((s1l : Nat) : Int) ((s2l : Nat) : Int))
  (∀ g1 : G, Ex g g1 →
  R (.bool false) g1)
  (∃ Inv : Nat → Int → G → Prop, ((∃ m0 : Nat, Inv m0 (0 : Int) g)) ∧
  ∀ m : Nat, ∀ v_1 : Int, ∀ g2 : G, Le g g2 → Inv m v_1 g2 →
  ifB (ltI v_1 ((s1l : Nat) : Int))
  ((0 ≤ v_1 ∧ v_1 < ((s1l : Nat) : Int)) ∧ derefP s1a fun ad => ∃ v1a : Option Addr, ∃ v1l : Nat, ∃ v1c : Nat, g2.w.cell? (Addr.add ad (Int.toNat v_1 * 1)) = some (.slice v1a v1l v1c) ∧ (0 ≤ v_1 ∧ v_1 < ((s2l : Nat) : Int)) ∧ derefP s2a fun ad_1 => ∃ v2a : Option Addr, ∃ v2l : Nat, ∃ v2c : Nat, g2.w.cell? (Addr.add ad_1 (Int.toNat v_1 * 1)) = some (.slice v2a v2l v2c) ∧ Enters Tryd.prog eqf ∧ (CallsP Tryd.prog eqf ((⟨[(.slice v1a v1l v1c), (.slice v2a v2l v2c)]⟩ : Array Value) ++ eqc) g2 fun v g3 =>
  ∃ x : Bool, v = (.bool x) ∧ ifB (!x)
  (∀ g4 : G, Ex g3 g4 →
  R (.bool false) g4)
  (InI64 (v_1 + (1 : Int)) ∧ (∃ m_1 : Nat, m_1 < m ∧ Inv m_1 (v_1 + (1 : Int)) g3))))
  (∀ g5 : G, Ex g2 g5 →
  R (.bool true) g5))
theorem F43_eq (s1a : Option Addr) (s1l : Nat) (s1c : Nat) (s2a : Option Addr) (s2l : Nat) (s2c : Nat) (eqf : FuncId) (eqc : Array Value) (g : G) (R : Value → G → Prop) : fnG cfg43 32 [.tmp 6] c43 an43 [(.slice s1a s1l s1c), (.slice s2a s2l s2c), (.func (.func eqf) #[] eqc)] g nobody R = F43 s1a s1l s1c s2a s2l s2c eqf eqc g R := by kernel_rfl
theorem call43 (s1a : Option Addr) (s1l : Nat) (s1c : Nat) (s2a : Option Addr) (s2l : Nat) (s2c : Nat) (eqf : FuncId) (eqc : Array Value) (g : G) (R : Value → G → Prop) (hF : F43 s1a s1l s1c s2a s2l s2c eqf eqc g R) : CallsG Tryd.prog 43 #[(.slice s1a s1l s1c), (.slice s2a s2l s2c), (.func (.func eqf) #[] eqc)] g nobody R :=
  fn_soundG (c := cfg43) TTok FNSok mixed Tryd.func43 (show Tryd.f43.body = some c43 by kernel_rfl) (show Tryd.f43.ntmps = 32 by kernel_rfl) (show Tryd.f43.results.toList = [.tmp 6] by kernel_rfl) rfl ((F43_eq s1a s1l s1c s2a s2l s2c eqf eqc g R).mpr hF)

/- 44 pilaster/pilasterlaw03.same$1 -/
noncomputable def c44 : Code := match Tryd.f44.body with
  | some c => c
  | none => .skip
noncomputable def cfg44 : Cfg := ⟨Tryd.prog, TT, FNS, [], [], [], TCH, false, false⟩
def an44 : AnnG := (.seq .leaf (.seq .leaf .leaf))
def F44 (xa : Option Addr) (xl : Nat) (xc : Nat) (ya : Option Addr) (yl : Nat) (yc : Nat) (g : G) (R : Value → G → Prop) : Prop :=
  (CallsP Tryd.prog 30 #[(.slice xa xl xc), (.slice ya yl yc)] g fun v g1 =>
  ∃ x : Bool, v = (.bool x) ∧ ∀ g2 : G, Ex g1 g2 →
  R (.bool x) g2)
theorem F44_eq (xa : Option Addr) (xl : Nat) (xc : Nat) (ya : Option Addr) (yl : Nat) (yc : Nat) (g : G) (R : Value → G → Prop) : fnG cfg44 8 [.tmp 4] c44 an44 [(.slice xa xl xc), (.slice ya yl yc)] g nobody R = F44 xa xl xc ya yl yc g R := by kernel_rfl
theorem call44 (xa : Option Addr) (xl : Nat) (xc : Nat) (ya : Option Addr) (yl : Nat) (yc : Nat) (g : G) (R : Value → G → Prop) (hF : F44 xa xl xc ya yl yc g R) : CallsG Tryd.prog 44 #[(.slice xa xl xc), (.slice ya yl yc)] g nobody R :=
  fn_soundG (c := cfg44) TTok FNSok mixed Tryd.func44 (show Tryd.f44.body = some c44 by kernel_rfl) (show Tryd.f44.ntmps = 8 by kernel_rfl) (show Tryd.f44.results.toList = [.tmp 4] by kernel_rfl) rfl ((F44_eq xa xl xc ya yl yc g R).mpr hF)

/- 45 pilaster/pilasterref03.named -/
noncomputable def c45 : Code := match Tryd.f45.body with
  | some c => c
  | none => .skip
noncomputable def cfg45 : Cfg := ⟨Tryd.prog, TT, FNS, [], [], [], TCH, false, false⟩
def an45 : AnnG := (.seq .leaf (.seq .leaf (.seq (.seq .leaf (.blk (.loop ⟨[(4, .int .i64)], [], []⟩ (.seq (.seq .leaf (.cond .leaf .leaf)) (.seq (.blk (.seq .leaf (.cond (.seq .leaf .leaf) .leaf))) .leaf))))) (.seq .leaf .leaf))))
def F45 (op : Int) (g : G) (R : Value → G → Prop) : Prop :=
  ∀ g1 : G, NewL g g1 3 [(.int .i64 (2 : Int)), (.int .i64 (5 : Int)), (.int .i64 (14 : Int)), (.int .i64 (23 : Int)), (.int .i64 (24 : Int)), (.int .i64 (34 : Int)), (.int .i64 (48 : Int)), (.int .i64 (49 : Int)), (.int .i64 (66 : Int)), (.int .i64 (72 : Int)), (.int .i64 (74 : Int)), (.int .i64 (82 : Int))] →
  ∃ Inv : Nat → Int → G → Prop, ((∃ m0 : Nat, Inv m0 (0 : Int) g1)) ∧
  ∀ m : Nat, ∀ i : Int, ∀ g2 : G, Le g1 g2 → Inv m i g2 →
  ifB (ltI i ((12 : Nat) : Int))
  ((0 ≤ i ∧ i < ((12 : Nat) : Int)) ∧ ∃ x : Int, g2.w.cell? (Addr.add ⟨g.w.heap.size, 0, none⟩ (Int.toNat i * 1)) = some (.int .i64 x) ∧ ifB (eqI x op)
  (∀ g3 : G, Ex g2 g3 →
  R (.bool true) g3)
  (InI64 (i + (1 : Int)) ∧ (∃ m_1 : Nat, m_1 < m ∧ Inv m_1 (i + (1 : Int)) g2)))
  (∀ g4 : G, Ex g2 g4 →
  R (.bool false) g4)
theorem F45_eq (op : Int) (g : G) (R : Value → G → Prop) : fnG cfg45 18 [.tmp 2] c45 an45 [(.int .i64 op)] g nobody R = F45 op g R := by kernel_rfl
theorem call45 (op : Int) (g : G) (R : Value → G → Prop) (hF : F45 op g R) : CallsG Tryd.prog 45 #[(.int .i64 op)] g nobody R :=
  fn_soundG (c := cfg45) TTok FNSok mixed Tryd.func45 (show Tryd.f45.body = some c45 by kernel_rfl) (show Tryd.f45.ntmps = 18 by kernel_rfl) (show Tryd.f45.results.toList = [.tmp 2] by kernel_rfl) rfl ((F45_eq op g R).mpr hF)

/- 46 slices.EqualFunc[[]pilaster/api.Syn,[]pilaster/api.Syn,pilaster/api.Syn,pilaster/api.Syn] -/
noncomputable def c46 : Code := match Tryd.f46.body with
  | some c => c
  | none => .skip
noncomputable def cfg46 : Cfg := ⟨Tryd.prog, TT, FNS, [8, 9], [(8, 8), (9, 9)], [], TCH, false, false⟩
def an46 : AnnG := (.seq .leaf (.seq (.seq .leaf (.cond (.seq .leaf .leaf) .leaf)) (.seq (.seq .leaf (.blk (.loop ⟨[(17, .int .i64)], [], []⟩ (.seq .leaf (.seq (.cond .leaf .leaf) (.seq (.blk (.seq .leaf (.seq .leaf (.seq .leaf (.cond (.seq .leaf .leaf) .leaf))))) .leaf)))))) (.seq .leaf .leaf))))
def F46 (s1a : Option Addr) (s1l : Nat) (s1c : Nat) (s2a : Option Addr) (s2l : Nat) (s2c : Nat) (eqf : FuncId) (eqc : Array Value) (g : G) (R : Value → G → Prop) : Prop :=
  ifB (!eqI ((s1l : Nat) : Int) ((s2l : Nat) : Int))
  (∀ g1 : G, Ex g g1 →
  R (.bool false) g1)
  (∃ Inv : Nat → Int → G → Prop, ((∃ m0 : Nat, Inv m0 (0 : Int) g)) ∧
  ∀ m : Nat, ∀ v_1 : Int, ∀ g2 : G, Le g g2 → Inv m v_1 g2 →
  ifB (ltI v_1 ((s1l : Nat) : Int))
  ((0 ≤ v_1 ∧ v_1 < ((s1l : Nat) : Int)) ∧ derefP s1a fun ad => ∃ x0 : Int, ∃ x1 : Int, ∃ x2 : ByteArray, ∃ x3a : Option Addr, ∃ x3l : Nat, ∃ x3c : Nat, ∃ x4a : Option Addr, ∃ x4l : Nat, ∃ x4c : Nat, g2.w.cell? (Addr.add ad (Int.toNat v_1 * 5)) = some (.int .i64 x0) ∧ g2.w.cell? (Addr.add (Addr.add ad (Int.toNat v_1 * 5)) 1) = some (.int .i64 x1) ∧ g2.w.cell? (Addr.add (Addr.add ad (Int.toNat v_1 * 5)) 2) = some (.string x2) ∧ g2.w.cell? (Addr.add (Addr.add ad (Int.toNat v_1 * 5)) 3) = some (.slice x3a x3l x3c) ∧ g2.w.cell? (Addr.add (Addr.add ad (Int.toNat v_1 * 5)) 4) = some (.slice x4a x4l x4c) ∧ (0 ≤ v_1 ∧ v_1 < ((s2l : Nat) : Int)) ∧ derefP s2a fun ad_1 => ∀ g3 : G, Ex g2 g3 →
  ∃ x0_1 : Int, ∃ x1_1 : Int, ∃ x2_1 : ByteArray, ∃ x3a_1 : Option Addr, ∃ x3l_1 : Nat, ∃ x3c_1 : Nat, ∃ x4a_1 : Option Addr, ∃ x4l_1 : Nat, ∃ x4c_1 : Nat, g3.w.cell? (Addr.add ad_1 (Int.toNat v_1 * 5)) = some (.int .i64 x0_1) ∧ g3.w.cell? (Addr.add (Addr.add ad_1 (Int.toNat v_1 * 5)) 1) = some (.int .i64 x1_1) ∧ g3.w.cell? (Addr.add (Addr.add ad_1 (Int.toNat v_1 * 5)) 2) = some (.string x2_1) ∧ g3.w.cell? (Addr.add (Addr.add ad_1 (Int.toNat v_1 * 5)) 3) = some (.slice x3a_1 x3l_1 x3c_1) ∧ g3.w.cell? (Addr.add (Addr.add ad_1 (Int.toNat v_1 * 5)) 4) = some (.slice x4a_1 x4l_1 x4c_1) ∧ ∀ g4 : G, Ex g3 g4 →
  Enters Tryd.prog eqf ∧ (CallsP Tryd.prog eqf ((⟨[(.agg ⟨[(.int .i64 x0), (.int .i64 x1), (.string x2), (.slice x3a x3l x3c), (.slice x4a x4l x4c)]⟩), (.agg ⟨[(.int .i64 x0_1), (.int .i64 x1_1), (.string x2_1), (.slice x3a_1 x3l_1 x3c_1), (.slice x4a_1 x4l_1 x4c_1)]⟩)]⟩ : Array Value) ++ eqc) g4 fun v g5 =>
  ∃ x : Bool, v = (.bool x) ∧ ifB (!x)
  (∀ g6 : G, Ex g5 g6 →
  R (.bool false) g6)
  (InI64 (v_1 + (1 : Int)) ∧ (∃ m_1 : Nat, m_1 < m ∧ Inv m_1 (v_1 + (1 : Int)) g5))))
  (∀ g7 : G, Ex g2 g7 →
  R (.bool true) g7))
theorem F46_eq (s1a : Option Addr) (s1l : Nat) (s1c : Nat) (s2a : Option Addr) (s2l : Nat) (s2c : Nat) (eqf : FuncId) (eqc : Array Value) (g : G) (R : Value → G → Prop) : fnG cfg46 32 [.tmp 6] c46 an46 [(.slice s1a s1l s1c), (.slice s2a s2l s2c), (.func (.func eqf) #[] eqc)] g nobody R = F46 s1a s1l s1c s2a s2l s2c eqf eqc g R := by kernel_rfl
theorem call46 (s1a : Option Addr) (s1l : Nat) (s1c : Nat) (s2a : Option Addr) (s2l : Nat) (s2c : Nat) (eqf : FuncId) (eqc : Array Value) (g : G) (R : Value → G → Prop) (hF : F46 s1a s1l s1c s2a s2l s2c eqf eqc g R) : CallsG Tryd.prog 46 #[(.slice s1a s1l s1c), (.slice s2a s2l s2c), (.func (.func eqf) #[] eqc)] g nobody R :=
  fn_soundG (c := cfg46) TTok FNSok mixed Tryd.func46 (show Tryd.f46.body = some c46 by kernel_rfl) (show Tryd.f46.ntmps = 32 by kernel_rfl) (show Tryd.f46.results.toList = [.tmp 6] by kernel_rfl) rfl ((F46_eq s1a s1l s1c s2a s2l s2c eqf eqc g R).mpr hF)

/- 47 pilaster/syntax.copied -/
noncomputable def c47 : Code := match Tryd.f47.body with
  | some c => c
  | none => .skip
noncomputable def cfg47 : Cfg := ⟨Tryd.prog, TT, FNS, [1, 2, 3, 5], [(1, 1), (2, 2), (3, 3), (5, 5), (7, 1), (10, 3), (11, 3), (12, 1), (19, 3), (25, 3)], [], TCH, false, false⟩
def an47 : AnnG := (.seq .leaf (.seq .leaf (.seq .leaf (.seq .leaf (.seq (.seq .leaf (.blk (.loop ⟨[(15, .int .i64)], [(3, 3, 0)], [(3, [(.int .i64), (.int .i64), (.str), (.sl), (.sl)])]⟩ (.seq .leaf (.seq (.cond .leaf .leaf) (.seq (.blk (.seq .leaf (.treeP false [3] 5 (.quiet 0 (.quiet 2 (.eff 1 (.eff 3 (.eff 4 .fin .fin) .fin) (.eff 3 (.eff 1 (.eff 4 .fin .fin) (.eff 4 (.eff 1 .fin .fin) .fin)) .fin))))))) .leaf)))))) (.seq .leaf .leaf))))))
def F47 (t0 : Int) (t1 : Int) (t2 : ByteArray) (t3a : Option Addr) (t3l : Nat) (t3c : Nat) (t4a : Option Addr) (t4l : Nat) (t4c : Nat) (g : G) (R : Value → G → Prop) : Prop :=
  ∀ g1 : G, Ex g g1 →
  (CallsP Tryd.prog 42 #[(.slice t3a t3l t3c)] g1 fun v g2 =>
  ∃ xa : Option Addr, ∃ xl : Nat, ∃ xc : Nat, v = (.slice xa xl xc) ∧ ∃ Inv : Nat → Int → Int → Int → ByteArray → Option Addr → Nat → Nat → Option Addr → Nat → Nat → G → Prop, (∀ g3 : G, Ex g2 g3 →
  (∃ m0 : Nat, Inv m0 (0 : Int) t0 t1 t2 xa xl xc none 0 0 g3)) ∧
  ∀ m : Nat, ∀ v_1 : Int, ∀ out0 : Int, ∀ out1 : Int, ∀ out2 : ByteArray, ∀ out3a : Option Addr, ∀ out3l : Nat, ∀ out3c : Nat, ∀ out4a : Option Addr, ∀ out4l : Nat, ∀ out4c : Nat, ∀ g4 : G, Le g2 g4 → Inv m v_1 out0 out1 out2 out3a out3l out3c out4a out4l out4c g4 →
  ifB (ltI v_1 ((t4l : Nat) : Int))
  ((0 ≤ v_1 ∧ v_1 < ((t4l : Nat) : Int)) ∧ derefP t4a fun ad => ∃ x0 : Int, ∃ x1 : Int, ∃ x2 : ByteArray, ∃ x3a : Option Addr, ∃ x3l : Nat, ∃ x3c : Nat, ∃ x4a : Option Addr, ∃ x4l : Nat, ∃ x4c : Nat, g4.w.cell? (Addr.add ad (Int.toNat v_1 * 5)) = some (.int .i64 x0) ∧ g4.w.cell? (Addr.add (Addr.add ad (Int.toNat v_1 * 5)) 1) = some (.int .i64 x1) ∧ g4.w.cell? (Addr.add (Addr.add ad (Int.toNat v_1 * 5)) 2) = some (.string x2) ∧ g4.w.cell? (Addr.add (Addr.add ad (Int.toNat v_1 * 5)) 3) = some (.slice x3a x3l x3c) ∧ g4.w.cell? (Addr.add (Addr.add ad (Int.toNat v_1 * 5)) 4) = some (.slice x4a x4l x4c) ∧ ∀ g5 : G, Ex g4 g5 →
  (∀ g6 : G, Ex g5 g6 →
  (CallsP Tryd.prog 47 #[(.agg ⟨[(.int .i64 x0), (.int .i64 x1), (.string x2), (.slice x3a x3l x3c), (.slice x4a x4l x4c)]⟩)] g6 fun v g7 =>
  ∃ x0_1 : Int, ∃ x1_1 : Int, ∃ x2_1 : ByteArray, ∃ x3a_1 : Option Addr, ∃ x3l_1 : Nat, ∃ x3c_1 : Nat, ∃ x4a_1 : Option Addr, ∃ x4l_1 : Nat, ∃ x4c_1 : Nat, v = (.agg ⟨[(.int .i64 x0_1), (.int .i64 x1_1), (.string x2_1), (.slice x3a_1 x3l_1 x3c_1), (.slice x4a_1 x4l_1 x4c_1)]⟩) ∧ ∀ g8 : G, Ex g7 g8 →
  ∀ g9 : G, NewL g8 g9 25 [(.int .i64 x0_1), (.int .i64 x1_1), (.string x2_1), (.slice x3a_1 x3l_1 x3c_1), (.slice x4a_1 x4l_1 x4c_1)] →
  ∃ xa_1 : Option Addr, ∃ xl_1 : Nat, ∃ xc_1 : Nat, ∃ wo1 : World, Sem.run Tryd.prog (Builtin.append_ #[23, 23] 23 #[(.slice out4a out4l out4c), (.slice (some ⟨g8.w.heap.size, 0, none⟩) 1 1)]) g9.w = .ok (.slice xa_1 xl_1 xc_1) wo1 ∧ ∃ g10 : G, g10.w = wo1 ∧ Stp g.w.heap.size nobody g9 g10 ∧ InI64 (v_1 + (1 : Int)) ∧ ∀ g11 : G, Ex g10 g11 →
  (∃ m_1 : Nat, m_1 < m ∧ Inv m_1 (v_1 + (1 : Int)) out0 out1 out2 out3a out3l out3c xa_1 xl_1 xc_1 g11))) ∧ (∀ g12 : G, Ex g5 g12 →
  (CallsP Tryd.prog 47 #[(.agg ⟨[(.int .i64 x0), (.int .i64 x1), (.string x2), (.slice x3a x3l x3c), (.slice x4a x4l x4c)]⟩)] g12 fun v g13 =>
  ∃ x0_2 : Int, ∃ x1_2 : Int, ∃ x2_2 : ByteArray, ∃ x3a_2 : Option Addr, ∃ x3l_2 : Nat, ∃ x3c_2 : Nat, ∃ x4a_2 : Option Addr, ∃ x4l_2 : Nat, ∃ x4c_2 : Nat, v = (.agg ⟨[(.int .i64 x0_2), (.int .i64 x1_2), (.string x2_2), (.slice x3a_2 x3l_2 x3c_2), (.slice x4a_2 x4l_2 x4c_2)]⟩) ∧ Rep 1 (∀ g14 : G, Ex g13 g14 →
  ∀ g15 : G, NewL g14 g15 25 [(.int .i64 x0_2), (.int .i64 x1_2), (.string x2_2), (.slice x3a_2 x3l_2 x3c_2), (.slice x4a_2 x4l_2 x4c_2)] →
  ∃ xa_2 : Option Addr, ∃ xl_2 : Nat, ∃ xc_2 : Nat, ∃ wo2 : World, Sem.run Tryd.prog (Builtin.append_ #[23, 23] 23 #[(.slice out4a out4l out4c), (.slice (some ⟨g14.w.heap.size, 0, none⟩) 1 1)]) g15.w = .ok (.slice xa_2 xl_2 xc_2) wo2 ∧ ∃ g16 : G, g16.w = wo2 ∧ Stp g.w.heap.size nobody g15 g16 ∧ InI64 (v_1 + (1 : Int)) ∧ ∀ g17 : G, Ex g16 g17 →
  (∃ m_1 : Nat, m_1 < m ∧ Inv m_1 (v_1 + (1 : Int)) out0 out1 out2 out3a out3l out3c xa_2 xl_2 xc_2 g17)))))
  (∀ g22 : G, Ex g4 g22 →
  R (.agg ⟨[(.int .i64 out0), (.int .i64 out1), (.string out2), (.slice out3a out3l out3c), (.slice out4a out4l out4c)]⟩) g22))
theorem F47_eq (t0 : Int) (t1 : Int) (t2 : ByteArray) (t3a : Option Addr) (t3l : Nat) (t3c : Nat) (t4a : Option Addr) (t4l : Nat) (t4c : Nat) (g : G) (R : Value → G → Prop) : fnG cfg47 28 [.cell 2 25] c47 an47 [(.agg ⟨[(.int .i64 t0), (.int .i64 t1), (.string t2), (.slice t3a t3l t3c), (.slice t4a t4l t4c)]⟩)] g nobody R = F47 t0 t1 t2 t3a t3l t3c t4a t4l t4c g R := by kernel_rfl
theorem call47 (t0 : Int) (t1 : Int) (t2 : ByteArray) (t3a : Option Addr) (t3l : Nat) (t3c : Nat) (t4a : Option Addr) (t4l : Nat) (t4c : Nat) (g : G) (R : Value → G → Prop) (hF : F47 t0 t1 t2 t3a t3l t3c t4a t4l t4c g R) : CallsG Tryd.prog 47 #[(.agg ⟨[(.int .i64 t0), (.int .i64 t1), (.string t2), (.slice t3a t3l t3c), (.slice t4a t4l t4c)]⟩)] g nobody R :=
  fn_soundG (c := cfg47) TTok FNSok mixed Tryd.func47 (show Tryd.f47.body = some c47 by kernel_rfl) (show Tryd.f47.ntmps = 28 by kernel_rfl) (show Tryd.f47.results.toList = [.cell 2 25] by kernel_rfl) rfl ((F47_eq t0 t1 t2 t3a t3l t3c t4a t4l t4c g R).mpr hF)

/- 48 pilaster/pilasterref03.put -/
noncomputable def c48 : Code := match Tryd.f48.body with
  | some c => c
  | none => .skip
noncomputable def cfg48 : Cfg := ⟨Tryd.prog, TT, FNS, [3, 5, 6, 8, 10], [(3, 3), (5, 5), (6, 6), (8, 8), (10, 10), (24, 3), (30, 3), (32, 3), (34, 3), (36, 3), (40, 3), (51, 8), (53, 3), (60, 8), (62, 3), (76, 8), (81, 8)], [], TCH, false, false⟩
def an48 : AnnG := (.seq .leaf (.seq (.seq .leaf (.cond (.seq .leaf .leaf) .leaf)) (.join ⟨[], [(6, 6, 0)], [(6, [(.int .i64), (.int .i64), (.str), (.sl), (.sl)])]⟩ (.seq (.tree 11 (.quiet 0 (.quiet 1 (.quiet 2 (.quiet 3 (.quiet 4 (.quiet 5 (.quiet 6 (.quiet 7 (.quiet 8 (.quiet 9 (.quiet 10 .fin)))))))))))) (.cond (.seq .leaf .leaf) .leaf)) (.seq .leaf (.seq (.seq .leaf (.blk (.loop ⟨[(9, .int .i64)], [(6, 6, 0), (8, 8, 0)], [(6, [(.int .i64), (.int .i64), (.str), (.sl), (.sl)]), (8, [(.int .i64), (.int .i64), (.str), (.sl), (.sl)])]⟩ (.seq (.seq .leaf (.cond .leaf .leaf)) (.seq (.blk (.seq (.seq .leaf (.cond (.seq (.treeP false [8] 8 (.quiet 0 (.quiet 2 (.quiet 3 (.quiet 4 (.quiet 5 (.quiet 6 (.eff 1 (.eff 7 .fin .fin) (.eff 7 (.eff 1 .fin .fin) .fin))))))))) .leaf) .leaf)) (.join ⟨[(11, .bool)], [(10, 10, 0)], [(10, [(.int .i64), (.int .i64), (.str), (.sl), (.sl)])]⟩ (.treeP false [] 14 (.quiet 0 (.quiet 1 (.quiet 2 (.quiet 3 (.quiet 4 (.quiet 5 (.quiet 6 (.quiet 7 (.eff 8 (.quiet 9 (.quiet 10 (.quiet 11 (.eff 12 (.eff 13 .fin .fin) .fin)))) (.eff 12 (.eff 8 (.quiet 9 (.quiet 10 (.quiet 11 (.eff 13 .fin .fin)))) .fin) .fin))))))))))) (.seq (.seq .leaf (.cond (.seq .leaf .leaf) .leaf)) .leaf)))) .leaf))))) (.seq .leaf .leaf))))))
def F48 (t0 : Int) (t1 : Int) (t2 : ByteArray) (t3a : Option Addr) (t3l : Nat) (t3c : Nat) (t4a : Option Addr) (t4l : Nat) (t4c : Nat) (ata : Option Addr) (atl : Nat) (atc : Nat) (by0 : Int) (by1 : Int) (by2 : ByteArray) (by3a : Option Addr) (by3l : Nat) (by3c : Nat) (by4a : Option Addr) (by4l : Nat) (by4c : Nat) (g : G) (R : Value → G → Prop) : Prop :=
  ifB (eqI ((atl : Nat) : Int) (0 : Int))
  (∀ g1 : G, Ex g g1 →
  R (.tuple ⟨[(.agg ⟨[(.int .i64 by0), (.int .i64 by1), (.string by2), (.slice by3a by3l by3c), (.slice by4a by4l by4c)]⟩), (.bool true)]⟩) g1)
  (∀ J : Int → Int → ByteArray → Option Addr → Nat → Nat → Option Addr → Nat → Nat → G → Prop,
  (∀ x0 : Int, ∀ x1 : Int, ∀ x2 : ByteArray, ∀ x3a : Option Addr, ∀ x3l : Nat, ∀ x3c : Nat, ∀ x4a : Option Addr, ∀ x4l : Nat, ∀ x4c : Nat, ∀ g2 : G, (∃ Inv : Nat → Int → Int → Int → ByteArray → Option Addr → Nat → Nat → Option Addr → Nat → Nat → Int → Int → ByteArray → Option Addr → Nat → Nat → Option Addr → Nat → Nat → G → Prop, (∀ g3 : G, Ex g2 g3 →
  (∃ m0 : Nat, Inv m0 (0 : Int) x0 x1 x2 x3a x3l x3c x4a x4l x4c t0 t1 t2 t3a t3l t3c none 0 0 g3)) ∧
  ∀ m : Nat, ∀ i : Int, ∀ x0_1 : Int, ∀ x1_1 : Int, ∀ x2_1 : ByteArray, ∀ x3a_1 : Option Addr, ∀ x3l_1 : Nat, ∀ x3c_1 : Nat, ∀ x4a_1 : Option Addr, ∀ x4l_1 : Nat, ∀ x4c_1 : Nat, ∀ out0 : Int, ∀ out1 : Int, ∀ out2 : ByteArray, ∀ out3a : Option Addr, ∀ out3l : Nat, ∀ out3c : Nat, ∀ out4a : Option Addr, ∀ out4l : Nat, ∀ out4c : Nat, ∀ g4 : G, Le g2 g4 → Inv m i x0_1 x1_1 x2_1 x3a_1 x3l_1 x3c_1 x4a_1 x4l_1 x4c_1 out0 out1 out2 out3a out3l out3c out4a out4l out4c g4 →
  ifB (ltI i ((t4l : Nat) : Int))
  ((0 ≤ (0 : Int) ∧ (0 : Int) < ((atl : Nat) : Int)) ∧ derefP ata fun ad => ∃ x : Int, g4.w.cell? (Addr.add ad (Int.toNat (0 : Int) * 1)) = some (.int .i64 x) ∧ ifB (!eqI i x)
  (∀ g5 : G, Ex g4 g5 →
  (0 ≤ i ∧ i < ((t4l : Nat) : Int)) ∧ derefP t4a fun ad_1 => ¬ g5.X (Addr.block (Addr.add ad_1 (Int.toNat i * 5))) ∧ ∃ x0_2 : Int, ∃ x1_2 : Int, ∃ x2_2 : ByteArray, ∃ x3a_2 : Option Addr, ∃ x3l_2 : Nat, ∃ x3c_2 : Nat, ∃ x4a_2 : Option Addr, ∃ x4l_2 : Nat, ∃ x4c_2 : Nat, g5.w.cell? (Addr.add ad_1 (Int.toNat i * 5)) = some (.int .i64 x0_2) ∧ g5.w.cell? (Addr.add (Addr.add ad_1 (Int.toNat i * 5)) 1) = some (.int .i64 x1_2) ∧ g5.w.cell? (Addr.add (Addr.add ad_1 (Int.toNat i * 5)) 2) = some (.string x2_2) ∧ g5.w.cell? (Addr.add (Addr.add ad_1 (Int.toNat i * 5)) 3) = some (.slice x3a_2 x3l_2 x3c_2) ∧ g5.w.cell? (Addr.add (Addr.add ad_1 (Int.toNat i * 5)) 4) = some (.slice x4a_2 x4l_2 x4c_2) ∧ Rep 1 (∀ g6 : G, Ex g5 g6 →
  ∀ g7 : G, NewL g6 g7 25 [(.int .i64 x0_2), (.int .i64 x1_2), (.string x2_2), (.slice x3a_2 x3l_2 x3c_2), (.slice x4a_2 x4l_2 x4c_2)] →
  ∃ xa : Option Addr, ∃ xl : Nat, ∃ xc : Nat, ∃ wo1 : World, Sem.run Tryd.prog (Builtin.append_ #[23, 23] 23 #[(.slice out4a out4l out4c), (.slice (some ⟨g6.w.heap.size, 0, none⟩) 1 1)]) g7.w = .ok (.slice xa xl xc) wo1 ∧ ∃ g8 : G, g8.w = wo1 ∧ Stp g.w.heap.size nobody g7 g8 ∧ InI64 (i + (1 : Int)) ∧ ∀ g9 : G, Ex g8 g9 →
  (∃ m_1 : Nat, m_1 < m ∧ Inv m_1 (i + (1 : Int)) x0_1 x1_1 x2_1 x3a_1 x3l_1 x3c_1 x4a_1 x4l_1 x4c_1 out0 out1 out2 out3a out3l out3c xa xl xc g9)))
  (∀ J_1 : Bool → Int → Int → ByteArray → Option Addr → Nat → Nat → Option Addr → Nat → Nat → G → Prop,
  (∀ ok : Bool, ∀ x0_3 : Int, ∀ x1_3 : Int, ∀ x2_3 : ByteArray, ∀ x3a_3 : Option Addr, ∀ x3l_3 : Nat, ∀ x3c_3 : Nat, ∀ x4a_3 : Option Addr, ∀ x4l_3 : Nat, ∀ x4c_3 : Nat, ∀ g14 : G, (ifB (!ok)
  (∀ g15 : G, Ex g14 g15 →
  R (.tuple ⟨[(.agg ⟨[(.int .i64 (0 : Int)), (.int .i64 (0 : Int)), (.string (bs [])), (.slice none 0 0), (.slice none 0 0)]⟩), (.bool false)]⟩) g15)
  (∀ g16 : G, NewL g14 g16 25 [(.int .i64 x0_3), (.int .i64 x1_3), (.string x2_3), (.slice x3a_3 x3l_3 x3c_3), (.slice x4a_3 x4l_3 x4c_3)] →
  ∃ xa_2 : Option Addr, ∃ xl_2 : Nat, ∃ xc_2 : Nat, ∃ wo3 : World, Sem.run Tryd.prog (Builtin.append_ #[23, 23] 23 #[(.slice out4a out4l out4c), (.slice (some ⟨g14.w.heap.size, 0, none⟩) 1 1)]) g16.w = .ok (.slice xa_2 xl_2 xc_2) wo3 ∧ ∃ g17 : G, g17.w = wo3 ∧ Stp g.w.heap.size nobody g16 g17 ∧ InI64 (i + (1 : Int)) ∧ ∀ g18 : G, Ex g17 g18 →
  (∃ m_1 : Nat, m_1 < m ∧ Inv m_1 (i + (1 : Int)) x0_1 x1_1 x2_1 x3a_1 x3l_1 x3c_1 x4a_1 x4l_1 x4c_1 out0 out1 out2 out3a out3l out3c xa_2 xl_2 xc_2 g18))) → J_1 ok x0_3 x1_3 x2_3 x3a_3 x3l_3 x3c_3 x4a_3 x4l_3 x4c_3 g14) →
  ∀ g19 : G, Ex g4 g19 →
  (0 ≤ i ∧ i < ((t4l : Nat) : Int)) ∧ derefP t4a fun ad_2 => ¬ g19.X (Addr.block (Addr.add ad_2 (Int.toNat i * 5))) ∧ ∃ x0_4 : Int, ∃ x1_4 : Int, ∃ x2_4 : ByteArray, ∃ x3a_4 : Option Addr, ∃ x3l_4 : Nat, ∃ x3c_4 : Nat, ∃ x4a_4 : Option Addr, ∃ x4l_4 : Nat, ∃ x4c_4 : Nat, g19.w.cell? (Addr.add ad_2 (Int.toNat i * 5)) = some (.int .i64 x0_4) ∧ g19.w.cell? (Addr.add (Addr.add ad_2 (Int.toNat i * 5)) 1) = some (.int .i64 x1_4) ∧ g19.w.cell? (Addr.add (Addr.add ad_2 (Int.toNat i * 5)) 2) = some (.string x2_4) ∧ g19.w.cell? (Addr.add (Addr.add ad_2 (Int.toNat i * 5)) 3) = some (.slice x3a_4 x3l_4 x3c_4) ∧ g19.w.cell? (Addr.add (Addr.add ad_2 (Int.toNat i * 5)) 4) = some (.slice x4a_4 x4l_4 x4c_4) ∧ (0 ≤ (1 : Int) ∧ (1 : Int) ≤ ((atl : Nat) : Int)) ∧ Rep 1 (∀ g20 : G, Ex g19 g20 →
  (CallsP Tryd.prog 48 #[(.agg ⟨[(.int .i64 x0_4), (.int .i64 x1_4), (.string x2_4), (.slice x3a_4 x3l_4 x3c_4), (.slice x4a_4 x4l_4 x4c_4)]⟩), (.slice (slAddr ata atc (Int.toNat (1 : Int)) 1) (atl - (Int.toNat (1 : Int))) (atc - (Int.toNat (1 : Int)))), (.agg ⟨[(.int .i64 by0), (.int .i64 by1), (.string by2), (.slice by3a by3l by3c), (.slice by4a by4l by4c)]⟩)] g20 fun v g21 =>
  ∃ x00 : Int, ∃ x01 : Int, ∃ x02 : ByteArray, ∃ x03a : Option Addr, ∃ x03l : Nat, ∃ x03c : Nat, ∃ x04a : Option Addr, ∃ x04l : Nat, ∃ x04c : Nat, ∃ x1_5 : Bool, v = (.tuple ⟨[(.agg ⟨[(.int .i64 x00), (.int .i64 x01), (.string x02), (.slice x03a x03l x03c), (.slice x04a x04l x04c)]⟩), (.bool x1_5)]⟩) ∧ ∀ g22 : G, Ex g21 g22 →
  J_1 x1_5 x00 x01 x02 x03a x03l x03c x04a x04l x04c g22))))
  (∀ g26 : G, Ex g4 g26 →
  R (.tuple ⟨[(.agg ⟨[(.int .i64 out0), (.int .i64 out1), (.string out2), (.slice out3a out3l out3c), (.slice out4a out4l out4c)]⟩), (.bool true)]⟩) g26)) → J x0 x1 x2 x3a x3l x3c x4a x4l x4c g2) →
  ∀ g27 : G, Ex g g27 →
  (0 ≤ (0 : Int) ∧ (0 : Int) < ((atl : Nat) : Int)) ∧ derefP ata fun ad_3 => ∃ x_1 : Int, g27.w.cell? (Addr.add ad_3 (Int.toNat (0 : Int) * 1)) = some (.int .i64 x_1) ∧ ifB (ltI x_1 (0 : Int))
  (∀ g28 : G, Ex g27 g28 →
  R (.tuple ⟨[(.agg ⟨[(.int .i64 (0 : Int)), (.int .i64 (0 : Int)), (.string (bs [])), (.slice none 0 0), (.slice none 0 0)]⟩), (.bool false)]⟩) g28)
  ((0 ≤ (0 : Int) ∧ (0 : Int) < ((atl : Nat) : Int)) ∧ derefP ata fun ad_4 => ∃ x_2 : Int, g27.w.cell? (Addr.add ad_4 (Int.toNat (0 : Int) * 1)) = some (.int .i64 x_2) ∧ ifB (leI ((t4l : Nat) : Int) x_2)
  (∀ g29 : G, Ex g27 g29 →
  R (.tuple ⟨[(.agg ⟨[(.int .i64 (0 : Int)), (.int .i64 (0 : Int)), (.string (bs [])), (.slice none 0 0), (.slice none 0 0)]⟩), (.bool false)]⟩) g29)
  (J (0 : Int) (0 : Int) (bs []) none 0 0 none 0 0 g27)))
theorem F48_eq (t0 : Int) (t1 : Int) (t2 : ByteArray) (t3a : Option Addr) (t3l : Nat) (t3c : Nat) (t4a : Option Addr) (t4l : Nat) (t4c : Nat) (ata : Option Addr) (atl : Nat) (atc : Nat) (by0 : Int) (by1 : Int) (by2 : ByteArray) (by3a : Option Addr) (by3l : Nat) (by3c : Nat) (by4a : Option Addr) (by4l : Nat) (by4c : Nat) (g : G) (R : Value → G → Prop) : fnG cfg48 83 [.cell 6 25, .tmp 7] c48 an48 [(.agg ⟨[(.int .i64 t0), (.int .i64 t1), (.string t2), (.slice t3a t3l t3c), (.slice t4a t4l t4c)]⟩), (.slice ata atl atc), (.agg ⟨[(.int .i64 by0), (.int .i64 by1), (.string by2), (.slice by3a by3l by3c), (.slice by4a by4l by4c)]⟩)] g nobody R = F48 t0 t1 t2 t3a t3l t3c t4a t4l t4c ata atl atc by0 by1 by2 by3a by3l by3c by4a by4l by4c g R := by kernel_rfl
theorem call48 (t0 : Int) (t1 : Int) (t2 : ByteArray) (t3a : Option Addr) (t3l : Nat) (t3c : Nat) (t4a : Option Addr) (t4l : Nat) (t4c : Nat) (ata : Option Addr) (atl : Nat) (atc : Nat) (by0 : Int) (by1 : Int) (by2 : ByteArray) (by3a : Option Addr) (by3l : Nat) (by3c : Nat) (by4a : Option Addr) (by4l : Nat) (by4c : Nat) (g : G) (R : Value → G → Prop) (hF : F48 t0 t1 t2 t3a t3l t3c t4a t4l t4c ata atl atc by0 by1 by2 by3a by3l by3c by4a by4l by4c g R) : CallsG Tryd.prog 48 #[(.agg ⟨[(.int .i64 t0), (.int .i64 t1), (.string t2), (.slice t3a t3l t3c), (.slice t4a t4l t4c)]⟩), (.slice ata atl atc), (.agg ⟨[(.int .i64 by0), (.int .i64 by1), (.string by2), (.slice by3a by3l by3c), (.slice by4a by4l by4c)]⟩)] g nobody R :=
  fn_soundG (c := cfg48) TTok FNSok mixed Tryd.func48 (show Tryd.f48.body = some c48 by kernel_rfl) (show Tryd.f48.ntmps = 83 by kernel_rfl) (show Tryd.f48.results.toList = [.cell 6 25, .tmp 7] by kernel_rfl) rfl ((F48_eq t0 t1 t2 t3a t3l t3c t4a t4l t4c ata atl atc by0 by1 by2 by3a by3l by3c by4a by4l by4c g R).mpr hF)

/- 49 pilaster/syntax.formed$1 -/
noncomputable def c49 : Code := match Tryd.f49.body with
  | some c => c
  | none => .skip
noncomputable def cfg49 : Cfg := ⟨Tryd.prog, TT, FNS, [], [], [5, 6], TCH, false, false⟩
def an49 : AnnG := (.seq .leaf (.seq .leaf (.join ⟨[], [], []⟩ (.seq .leaf (.cond (.seq .leaf .leaf) .leaf)) (.seq .leaf .leaf))))
def F49 (t0 : Int) (t1 : Int) (t2 : ByteArray) (t3a : Option Addr) (t3l : Nat) (t3c : Nat) (t4a : Option Addr) (t4l : Nat) (t4c : Nat) (depth : Int) (inWith : Bool) (c0 : Option Addr) (c1 : Value) (g : G) (M : Nat → Prop) (R : Value → G → Prop) : Prop :=
  ∀ g1 : G, NewL g g1 25 ([(.int .i64 t0), (.int .i64 t1), (.string t2), (.slice t3a t3l t3c), (.slice t4a t4l t4c)] : List Value) →
  ∀ g2 : G, NewL g1 g2 3 ([(.int .i64 depth)] : List Value) →
  derefP c0 fun ad => ∃ x : Int, g2.w.cell? ad = some (.int .i64 x) ∧ InI64 (x + (1 : Int)) ∧ derefP c0 fun ad_1 => stOk g2.w ad_1 1 ∧ ¬ g2.X (Addr.block ad_1) ∧ mutAt g2 ad_1 1 ∧ ((Addr.block ad_1) < g.w.heap.size → M (Addr.block ad_1)) ∧ ∀ g3 : G, StG false g2 ad_1 [(.int .i64 (x + (1 : Int)))] g3 →
  ∀ J : G → Prop,
  (∀ g4 : G, (∃ xa : Option Addr, ∃ xl : Nat, ∃ xc : Nat, g4.w.cell? (Addr.add ⟨g.w.heap.size, 0, none⟩ 4) = some (.slice xa xl xc) ∧ ∃ M1 : Nat → Prop, (∀ b, b < g.w.heap.size → M1 b → M b) ∧ (CallsG Tryd.prog 37 #[(.slice xa xl xc), (.func (.func 52) #[] ⟨[c1, (.pointer (some ⟨g1.w.heap.size, 0, none⟩)), (.pointer (some ⟨g.w.heap.size, 0, none⟩))]⟩)] g4 M1 fun v g5 =>
  ∃ x_1 : Bool, v = (.bool x_1) ∧ ∀ g6 : G, Ex g5 g6 →
  R (.bool (!x_1)) g6)) → J g4) →
  derefP c0 fun ad_2 => ∃ x_2 : Int, g3.w.cell? ad_2 = some (.int .i64 x_2) ∧ ifB (ltI (20000 : Int) x_2)
  (∀ g7 : G, Ex g3 g7 →
  R (.bool false) g7)
  (∃ depth_1 : Int, g3.w.cell? ⟨g1.w.heap.size, 0, none⟩ = some (.int .i64 depth_1) ∧ ifB (ltI (400 : Int) depth_1)
  (∀ g8 : G, Ex g3 g8 →
  R (.bool false) g8)
  (∃ t0_1 : Int, ∃ t1_1 : Int, ∃ t2_1 : ByteArray, ∃ t3a_1 : Option Addr, ∃ t3l_1 : Nat, ∃ t3c_1 : Nat, ∃ t4a_1 : Option Addr, ∃ t4l_1 : Nat, ∃ t4c_1 : Nat, g3.w.cell? ⟨g.w.heap.size, 0, none⟩ = some (.int .i64 t0_1) ∧ g3.w.cell? (Addr.add ⟨g.w.heap.size, 0, none⟩ 1) = some (.int .i64 t1_1) ∧ g3.w.cell? (Addr.add ⟨g.w.heap.size, 0, none⟩ 2) = some (.string t2_1) ∧ g3.w.cell? (Addr.add ⟨g.w.heap.size, 0, none⟩ 3) = some (.slice t3a_1 t3l_1 t3c_1) ∧ g3.w.cell? (Addr.add ⟨g.w.heap.size, 0, none⟩ 4) = some (.slice t4a_1 t4l_1 t4c_1) ∧ (CallsP Tryd.prog 50 #[(.agg ⟨[(.int .i64 t0_1), (.int .i64 t1_1), (.string t2_1), (.slice t3a_1 t3l_1 t3c_1), (.slice t4a_1 t4l_1 t4c_1)]⟩), (.bool inWith)] g3 fun v g9 =>
  ∃ x_3 : Bool, v = (.bool x_3) ∧ ifB (!x_3)
  (∀ g10 : G, Ex g9 g10 →
  R (.bool false) g10)
  (∃ t0_2 : Int, ∃ t1_2 : Int, ∃ t2_2 : ByteArray, ∃ t3a_2 : Option Addr, ∃ t3l_2 : Nat, ∃ t3c_2 : Nat, ∃ t4a_2 : Option Addr, ∃ t4l_2 : Nat, ∃ t4c_2 : Nat, g9.w.cell? ⟨g.w.heap.size, 0, none⟩ = some (.int .i64 t0_2) ∧ g9.w.cell? (Addr.add ⟨g.w.heap.size, 0, none⟩ 1) = some (.int .i64 t1_2) ∧ g9.w.cell? (Addr.add ⟨g.w.heap.size, 0, none⟩ 2) = some (.string t2_2) ∧ g9.w.cell? (Addr.add ⟨g.w.heap.size, 0, none⟩ 3) = some (.slice t3a_2 t3l_2 t3c_2) ∧ g9.w.cell? (Addr.add ⟨g.w.heap.size, 0, none⟩ 4) = some (.slice t4a_2 t4l_2 t4c_2) ∧ (CallsP Tryd.prog 51 #[(.agg ⟨[(.int .i64 t0_2), (.int .i64 t1_2), (.string t2_2), (.slice t3a_2 t3l_2 t3c_2), (.slice t4a_2 t4l_2 t4c_2)]⟩)] g9 fun v g11 =>
  ∃ x_4 : Bool, v = (.bool x_4) ∧ ifB (!x_4)
  (∀ g12 : G, Ex g11 g12 →
  R (.bool false) g12)
  (J g11))))))
theorem F49_eq (t0 : Int) (t1 : Int) (t2 : ByteArray) (t3a : Option Addr) (t3l : Nat) (t3c : Nat) (t4a : Option Addr) (t4l : Nat) (t4c : Nat) (depth : Int) (inWith : Bool) (c0 : Option Addr) (c1 : Value) (g : G) (M : Nat → Prop) (R : Value → G → Prop) : fnG cfg49 33 [.tmp 8] c49 an49 [(.agg ⟨[(.int .i64 t0), (.int .i64 t1), (.string t2), (.slice t3a t3l t3c), (.slice t4a t4l t4c)]⟩), (.int .i64 depth), (.bool inWith), (.pointer c0), c1] g M R = F49 t0 t1 t2 t3a t3l t3c t4a t4l t4c depth inWith c0 c1 g M R := by kernel_rfl
theorem call49 (t0 : Int) (t1 : Int) (t2 : ByteArray) (t3a : Option Addr) (t3l : Nat) (t3c : Nat) (t4a : Option Addr) (t4l : Nat) (t4c : Nat) (depth : Int) (inWith : Bool) (c0 : Option Addr) (c1 : Value) (g : G) (M : Nat → Prop) (R : Value → G → Prop) (hF : F49 t0 t1 t2 t3a t3l t3c t4a t4l t4c depth inWith c0 c1 g M R) : CallsG Tryd.prog 49 #[(.agg ⟨[(.int .i64 t0), (.int .i64 t1), (.string t2), (.slice t3a t3l t3c), (.slice t4a t4l t4c)]⟩), (.int .i64 depth), (.bool inWith), (.pointer c0), c1] g M R :=
  fn_soundG (c := cfg49) TTok FNSok mixed Tryd.func49 (show Tryd.f49.body = some c49 by kernel_rfl) (show Tryd.f49.ntmps = 33 by kernel_rfl) (show Tryd.f49.results.toList = [.tmp 8] by kernel_rfl) rfl ((F49_eq t0 t1 t2 t3a t3l t3c t4a t4l t4c depth inWith c0 c1 g M R).mpr hF)

/- 50 pilaster/syntax.own -/
noncomputable def c50 : Code := match Tryd.f50.body with
  | some c => c
  | none => .skip
noncomputable def cfg50 : Cfg := ⟨Tryd.prog, TT, FNS, [2, 5], [(2, 2), (5, 5), (6, 2), (9, 5), (13, 2), (18, 5), (22, 2), (28, 5), (32, 2), (38, 2), (42, 2), (50, 2), (62, 2), (69, 2), (74, 2), (78, 2), (84, 2), (88, 2), (94, 2), (99, 2), (103, 2), (109, 2), (113, 2), (119, 2), (123, 2), (129, 2), (135, 2), (144, 2), (152, 2), (158, 2), (165, 2), (169, 2), (180, 2), (186, 2), (190, 2), (194, 2)], [], TCH, false, false⟩
def an50 : AnnG := (.seq .leaf (.seq .leaf (.join ⟨[], [], []⟩ (.seq .leaf (.cond (.seq .leaf .leaf) .leaf)) (.seq (.seq .leaf (.blk (.seq .leaf (.cond (.seq .leaf .leaf) (.join ⟨[(45, .bool)], [], []⟩ (.seq .leaf (.cond .leaf (.seq .leaf (.cond .leaf (.seq .leaf (.cond .leaf .leaf)))))) (.cond (.seq .leaf .leaf) (.join ⟨[(53, .bool)], [], []⟩ (.seq .leaf (.cond .leaf (.seq .leaf (.cond .leaf (.seq .leaf (.cond .leaf (.seq .leaf (.cond .leaf (.seq .leaf (.cond .leaf (.seq .leaf (.cond .leaf (.seq .leaf (.cond .leaf .leaf)))))))))))))) (.cond (.seq .leaf .leaf) (.join ⟨[(65, .bool)], [], []⟩ (.seq .leaf (.cond .leaf (.seq .leaf (.cond .leaf .leaf)))) (.cond (.seq .leaf .leaf) (.seq .leaf (.cond (.seq .leaf .leaf) (.seq .leaf (.cond (.seq .leaf .leaf) (.seq .leaf (.cond (.seq .leaf .leaf) (.seq .leaf (.cond (.seq .leaf .leaf) (.seq .leaf (.cond (.seq .leaf .leaf) (.seq .leaf (.cond (.seq .leaf .leaf) (.seq .leaf (.cond (.seq .leaf .leaf) (.join ⟨[(162, .bool)], [], []⟩ (.seq .leaf (.cond .leaf .leaf)) (.cond (.seq .leaf .leaf) (.join ⟨[(173, .bool)], [], []⟩ (.seq .leaf (.cond .leaf (.seq .leaf (.cond .leaf (.seq .leaf (.cond .leaf (.seq .leaf (.cond .leaf (.seq .leaf (.cond .leaf .leaf)))))))))) (.cond (.seq .leaf .leaf) (.join ⟨[(183, .bool)], [], []⟩ (.seq .leaf (.cond .leaf .leaf)) (.cond (.seq .leaf .leaf) .leaf)))))))))))))))))))))))))))))) (.seq .leaf .leaf)))))
def F50 (t0 : Int) (t1 : Int) (t2 : ByteArray) (t3a : Option Addr) (t3l : Nat) (t3c : Nat) (t4a : Option Addr) (t4l : Nat) (t4c : Nat) (inWith : Bool) (g : G) (R : Value → G → Prop) : Prop :=
  ∀ g1 : G, Ex g g1 →
  (CallsP Tryd.prog 41 #[(.int .i64 t0)] g1 fun v g2 =>
  ∃ x0 : Bool, ∃ x1 : Bool, ∃ x2 : Bool, v = (.agg ⟨[(.bool x0), (.bool x1), (.bool x2)]⟩) ∧ ∀ J : G → Prop,
  (∀ g3 : G, (ifB (eqI t0 (1 : Int))
  ((CallsP Tryd.prog 56 #[(.string t2)] g3 fun v g4 =>
  ∃ x : Bool, v = (.bool x) ∧ ∀ g5 : G, Ex g4 g5 →
  R (.bool x) g5))
  (∀ J_1 : Bool → G → Prop,
  (∀ v_1 : Bool, ∀ g6 : G, (ifB v_1
  ((CallsP Tryd.prog 57 #[(.slice t3a t3l t3c), (.bool true)] g6 fun v g7 =>
  ∃ x_1 : Bool, v = (.bool x_1) ∧ ∀ g8 : G, Ex g7 g8 →
  R (.bool x_1) g8))
  (∀ J_2 : Bool → G → Prop,
  (∀ v_2 : Bool, ∀ g9 : G, (ifB v_2
  ((CallsP Tryd.prog 57 #[(.slice t3a t3l t3c), (.bool false)] g9 fun v g10 =>
  ∃ x_2 : Bool, v = (.bool x_2) ∧ ∀ g11 : G, Ex g10 g11 →
  R (.bool x_2) g11))
  (∀ J_3 : Bool → G → Prop,
  (∀ v_3 : Bool, ∀ g12 : G, (ifB v_3
  ((CallsP Tryd.prog 58 #[(.string t2)] g12 fun v g13 =>
  ∃ x_3 : Bool, v = (.bool x_3) ∧ ∀ g14 : G, Ex g13 g14 →
  R (.bool x_3) g14))
  (ifB (eqI t0 (13 : Int))
  (ifB (leI (-4503599627370496 : Int) t1)
  (∀ g15 : G, Ex g12 g15 →
  R (.bool (leI t1 (4503599627370496 : Int))) g15)
  (∀ g16 : G, Ex g12 g16 →
  R (.bool false) g16))
  (ifB (eqI t0 (21 : Int))
  (ifB (leI (0 : Int) t1)
  (∀ g17 : G, Ex g12 g17 →
  R (.bool (leI t1 (4503599627370496 : Int))) g17)
  (∀ g18 : G, Ex g12 g18 →
  R (.bool false) g18))
  (ifB (eqI t0 (22 : Int))
  ((CallsP Tryd.prog 59 #[(.string t2)] g12 fun v g19 =>
  ∃ x_4 : Bool, v = (.bool x_4) ∧ ∀ g20 : G, Ex g19 g20 →
  R (.bool x_4) g20))
  (ifB (eqI t0 (25 : Int))
  (ifB (strEq t2 (bs []))
  (∀ g21 : G, Ex g12 g21 →
  R (.bool true) g21)
  ((CallsP Tryd.prog 58 #[(.string t2)] g12 fun v g22 =>
  ∃ x_5 : Bool, v = (.bool x_5) ∧ ∀ g23 : G, Ex g22 g23 →
  R (.bool x_5) g23)))
  (ifB (eqI t0 (32 : Int))
  (ifB (leI (1 : Int) t1)
  (∀ g24 : G, Ex g12 g24 →
  R (.bool (leI t1 (12 : Int))) g24)
  (∀ g25 : G, Ex g12 g25 →
  R (.bool false) g25))
  (ifB (eqI t0 (42 : Int))
  ((CallsP Tryd.prog 58 #[(.string t2)] g12 fun v g26 =>
  ∃ x_6 : Bool, v = (.bool x_6) ∧ ifB x_6
  (ifB (leI (1 : Int) ((t3l : Nat) : Int))
  (ifB (leI ((t3l : Nat) : Int) (9 : Int))
  ((CallsP Tryd.prog 35 #[(.slice t3a t3l t3c), (.func (.func 60) #[] #[])] g26 fun v g27 =>
  ∃ x_7 : Bool, v = (.bool x_7) ∧ ∀ g28 : G, Ex g27 g28 →
  R (.bool (!x_7)) g28))
  (∀ g29 : G, Ex g26 g29 →
  R (.bool false) g29))
  (∀ g30 : G, Ex g26 g30 →
  R (.bool false) g30))
  (∀ g31 : G, Ex g26 g31 →
  R (.bool false) g31)))
  (ifB (eqI t0 (43 : Int))
  (ifB inWith
  (ifB (strEq t2 (bs []))
  ((CallsP Tryd.prog 61 #[(.slice t3a t3l t3c)] g12 fun v g32 =>
  ∃ x_8 : Bool, v = (.bool x_8) ∧ ∀ g33 : G, Ex g32 g33 →
  R (.bool x_8) g33))
  (ifB (!inWith)
  ((CallsP Tryd.prog 58 #[(.string t2)] g12 fun v g34 =>
  ∃ x_9 : Bool, v = (.bool x_9) ∧ ifB x_9
  ((CallsP Tryd.prog 61 #[(.slice t3a t3l t3c)] g34 fun v g35 =>
  ∃ x_10 : Bool, v = (.bool x_10) ∧ ∀ g36 : G, Ex g35 g36 →
  R (.bool x_10) g36))
  (∀ g37 : G, Ex g34 g37 →
  R (.bool false) g37)))
  (∀ g38 : G, Ex g12 g38 →
  R (.bool false) g38)))
  (ifB (!inWith)
  ((CallsP Tryd.prog 58 #[(.string t2)] g12 fun v g39 =>
  ∃ x_11 : Bool, v = (.bool x_11) ∧ ifB x_11
  ((CallsP Tryd.prog 61 #[(.slice t3a t3l t3c)] g39 fun v g40 =>
  ∃ x_12 : Bool, v = (.bool x_12) ∧ ∀ g41 : G, Ex g40 g41 →
  R (.bool x_12) g41))
  (∀ g42 : G, Ex g39 g42 →
  R (.bool false) g42)))
  (∀ g43 : G, Ex g12 g43 →
  R (.bool false) g43)))
  (∀ J_4 : Bool → G → Prop,
  (∀ v_4 : Bool, ∀ g44 : G, (ifB v_4
  ((CallsP Tryd.prog 58 #[(.string t2)] g44 fun v g45 =>
  ∃ x_13 : Bool, v = (.bool x_13) ∧ ifB x_13
  ((CallsP Tryd.prog 61 #[(.slice t3a t3l t3c)] g45 fun v g46 =>
  ∃ x_14 : Bool, v = (.bool x_14) ∧ ∀ g47 : G, Ex g46 g47 →
  R (.bool x_14) g47))
  (∀ g48 : G, Ex g45 g48 →
  R (.bool false) g48)))
  (∀ J_5 : Bool → G → Prop,
  (∀ v_5 : Bool, ∀ g49 : G, (ifB v_5
  ((CallsP Tryd.prog 62 #[(.string t2)] g49 fun v g50 =>
  ∃ x_15 : Bool, v = (.bool x_15) ∧ ∀ g51 : G, Ex g50 g51 →
  R (.bool x_15) g51))
  (∀ J_6 : Bool → G → Prop,
  (∀ v_6 : Bool, ∀ g52 : G, (ifB v_6
  ((CallsP Tryd.prog 62 #[(.string t2)] g52 fun v g53 =>
  ∃ x_16 : Bool, v = (.bool x_16) ∧ ifB x_16
  (ifB (eqI t1 (0 : Int))
  (∀ g54 : G, Ex g53 g54 →
  R (.bool true) g54)
  (∀ g55 : G, Ex g53 g55 →
  R (.bool (eqI t1 (1 : Int))) g55))
  (∀ g56 : G, Ex g53 g56 →
  R (.bool false) g56)))
  (∀ g57 : G, Ex g52 g57 →
  R (.bool true) g57)) → J_6 v_6 g52) →
  ifB (eqI t0 (73 : Int))
  (J_6 true g49)
  (J_6 (eqI t0 (83 : Int)) g49))) → J_5 v_5 g49) →
  ifB (eqI t0 (45 : Int))
  (J_5 true g44)
  (ifB (eqI t0 (46 : Int))
  (J_5 true g44)
  (ifB (eqI t0 (47 : Int))
  (J_5 true g44)
  (ifB (eqI t0 (50 : Int))
  (J_5 true g44)
  (ifB (eqI t0 (63 : Int))
  (J_5 true g44)
  (J_5 (eqI t0 (64 : Int)) g44))))))) → J_4 v_4 g44) →
  ifB (eqI t0 (44 : Int))
  (J_4 true g12)
  (J_4 (eqI t0 (62 : Int)) g12)))))))))) → J_3 v_3 g12) →
  ifB (eqI t0 (12 : Int))
  (J_3 true g9)
  (ifB (eqI t0 (41 : Int))
  (J_3 true g9)
  (J_3 (eqI t0 (61 : Int)) g9)))) → J_2 v_2 g9) →
  ifB (eqI t0 (5 : Int))
  (J_2 true g6)
  (ifB (eqI t0 (14 : Int))
  (J_2 true g6)
  (ifB (eqI t0 (24 : Int))
  (J_2 true g6)
  (ifB (eqI t0 (34 : Int))
  (J_2 true g6)
  (ifB (eqI t0 (48 : Int))
  (J_2 true g6)
  (ifB (eqI t0 (49 : Int))
  (J_2 true g6)
  (ifB (eqI t0 (72 : Int))
  (J_2 true g6)
  (J_2 (eqI t0 (82 : Int)) g6))))))))) → J_1 v_1 g6) →
  ifB (eqI t0 (2 : Int))
  (J_1 true g3)
  (ifB (eqI t0 (23 : Int))
  (J_1 true g3)
  (ifB (eqI t0 (66 : Int))
  (J_1 true g3)
  (J_1 (eqI t0 (74 : Int)) g3))))) → J g3) →
  ifB (!x0)
  (ifB (!eqI t1 (0 : Int))
  (∀ g58 : G, Ex g2 g58 →
  R (.bool false) g58)
  (ifB (!x1)
  (ifB (!strEq t2 (bs []))
  (∀ g59 : G, Ex g2 g59 →
  R (.bool false) g59)
  (ifB (!x2)
  (ifB (ltI (0 : Int) ((t3l : Nat) : Int))
  (∀ g60 : G, Ex g2 g60 →
  R (.bool false) g60)
  (∀ g61 : G, Ex g2 g61 →
  J g61))
  (∀ g62 : G, Ex g2 g62 →
  J g62)))
  (ifB (!x2)
  (ifB (ltI (0 : Int) ((t3l : Nat) : Int))
  (∀ g63 : G, Ex g2 g63 →
  R (.bool false) g63)
  (∀ g64 : G, Ex g2 g64 →
  J g64))
  (∀ g65 : G, Ex g2 g65 →
  J g65))))
  (ifB (!x1)
  (ifB (!strEq t2 (bs []))
  (∀ g66 : G, Ex g2 g66 →
  R (.bool false) g66)
  (ifB (!x2)
  (ifB (ltI (0 : Int) ((t3l : Nat) : Int))
  (∀ g67 : G, Ex g2 g67 →
  R (.bool false) g67)
  (∀ g68 : G, Ex g2 g68 →
  J g68))
  (∀ g69 : G, Ex g2 g69 →
  J g69)))
  (ifB (!x2)
  (ifB (ltI (0 : Int) ((t3l : Nat) : Int))
  (∀ g70 : G, Ex g2 g70 →
  R (.bool false) g70)
  (∀ g71 : G, Ex g2 g71 →
  J g71))
  (∀ g72 : G, Ex g2 g72 →
  J g72))))
theorem F50_eq (t0 : Int) (t1 : Int) (t2 : ByteArray) (t3a : Option Addr) (t3l : Nat) (t3c : Nat) (t4a : Option Addr) (t4l : Nat) (t4c : Nat) (inWith : Bool) (g : G) (R : Value → G → Prop) : fnG cfg50 199 [.tmp 4] c50 an50 [(.agg ⟨[(.int .i64 t0), (.int .i64 t1), (.string t2), (.slice t3a t3l t3c), (.slice t4a t4l t4c)]⟩), (.bool inWith)] g nobody R = F50 t0 t1 t2 t3a t3l t3c t4a t4l t4c inWith g R := by kernel_rfl
theorem call50 (t0 : Int) (t1 : Int) (t2 : ByteArray) (t3a : Option Addr) (t3l : Nat) (t3c : Nat) (t4a : Option Addr) (t4l : Nat) (t4c : Nat) (inWith : Bool) (g : G) (R : Value → G → Prop) (hF : F50 t0 t1 t2 t3a t3l t3c t4a t4l t4c inWith g R) : CallsG Tryd.prog 50 #[(.agg ⟨[(.int .i64 t0), (.int .i64 t1), (.string t2), (.slice t3a t3l t3c), (.slice t4a t4l t4c)]⟩), (.bool inWith)] g nobody R :=
  fn_soundG (c := cfg50) TTok FNSok mixed Tryd.func50 (show Tryd.f50.body = some c50 by kernel_rfl) (show Tryd.f50.ntmps = 199 by kernel_rfl) (show Tryd.f50.results.toList = [.tmp 4] by kernel_rfl) rfl ((F50_eq t0 t1 t2 t3a t3l t3c t4a t4l t4c inWith g R).mpr hF)

/- 51 pilaster/syntax.shape -/
noncomputable def c51 : Code := match Tryd.f51.body with
  | some c => c
  | none => .skip
noncomputable def cfg51 : Cfg := ⟨Tryd.prog, TT, FNS, [1], [(1, 1), (4, 1), (7, 1), (28, 1), (38, 1), (43, 1), (51, 1), (72, 1), (86, 1), (93, 1), (109, 1), (118, 1), (128, 1), (147, 1), (163, 1), (169, 1), (175, 1), (197, 1), (204, 1), (215, 1), (221, 1), (231, 1), (245, 1), (252, 1), (260, 1), (285, 1), (294, 1)], [], TCH, false, false⟩
def an51 : AnnG := (.seq .leaf (.seq .leaf (.seq (.seq .leaf (.blk (.join ⟨[(9, .bool)], [], []⟩ (.seq .leaf (.cond .leaf (.seq .leaf (.cond .leaf (.seq .leaf (.cond .leaf (.seq .leaf (.cond .leaf (.seq .leaf (.cond .leaf (.seq .leaf (.cond .leaf (.seq .leaf (.cond .leaf (.seq .leaf (.cond .leaf (.seq .leaf (.cond .leaf (.seq .leaf (.cond .leaf (.seq .leaf (.cond .leaf (.seq .leaf (.cond .leaf (.seq .leaf (.cond .leaf .leaf)))))))))))))))))))))))))) (.cond (.seq .leaf .leaf) (.seq .leaf (.cond (.seq .leaf .leaf) (.seq .leaf (.cond (.seq .leaf .leaf) (.seq .leaf (.cond (.seq .leaf .leaf) (.seq .leaf (.cond (.seq .leaf .leaf) (.seq .leaf (.cond (.seq .leaf .leaf) (.join ⟨[(55, .bool)], [], []⟩ (.seq .leaf (.cond .leaf (.seq .leaf (.cond .leaf .leaf)))) (.cond (.seq .leaf .leaf) (.seq .leaf (.cond (.seq .leaf .leaf) (.seq .leaf (.cond (.seq .leaf .leaf) (.seq .leaf (.cond (.seq .leaf .leaf) (.seq .leaf (.cond (.seq .leaf .leaf) (.seq .leaf (.cond (.seq .leaf .leaf) (.seq .leaf (.cond (.seq .leaf .leaf) (.seq .leaf (.cond (.seq (.seq .leaf (.cond (.seq .leaf .leaf) .leaf)) (.seq .leaf .leaf)) (.seq .leaf (.cond (.seq .leaf .leaf) (.seq .leaf (.cond (.seq .leaf .leaf) (.join ⟨[(152, .bool)], [], []⟩ (.seq .leaf (.cond .leaf .leaf)) (.cond (.seq .leaf .leaf) (.seq .leaf (.cond (.seq .leaf .leaf) (.seq .leaf (.cond (.seq .leaf .leaf) (.seq .leaf (.cond (.seq .leaf .leaf) (.join ⟨[(183, .bool)], [], []⟩ (.seq .leaf (.cond .leaf (.seq .leaf (.cond .leaf (.seq .leaf (.cond .leaf .leaf)))))) (.cond (.seq .leaf .leaf) (.join ⟨[(191, .bool)], [], []⟩ (.seq .leaf (.cond .leaf .leaf)) (.cond (.seq .leaf .leaf) (.seq .leaf (.cond (.seq .leaf .leaf) (.seq .leaf (.cond (.seq .leaf .leaf) (.seq .leaf (.cond (.seq .leaf .leaf) (.seq .leaf (.cond (.seq .leaf .leaf) (.seq .leaf (.cond (.seq .leaf .leaf) (.seq .leaf (.cond (.seq .leaf .leaf) (.seq .leaf (.cond (.seq .leaf .leaf) (.join ⟨[(274, .bool)], [], []⟩ (.seq .leaf (.cond .leaf .leaf)) (.cond (.seq .leaf .leaf) (.seq .leaf (.cond (.seq .leaf .leaf) .leaf)))))))))))))))))))))))))))))))))))))))))))))))))))))))))))))))) (.seq .leaf .leaf))))
def F51 (t0 : Int) (t1 : Int) (t2 : ByteArray) (t3a : Option Addr) (t3l : Nat) (t3c : Nat) (t4a : Option Addr) (t4l : Nat) (t4c : Nat) (g : G) (R : Value → G → Prop) : Prop :=
  ∀ J : Bool → G → Prop,
  (∀ v_1 : Bool, ∀ g1 : G, (ifB v_1
  (∀ g2 : G, Ex g1 g2 →
  R (.bool (eqI ((t4l : Nat) : Int) (0 : Int))) g2)
  (ifB (eqI t0 (2 : Int))
  ((CallsP Tryd.prog 63 #[(.slice t4a t4l t4c), (.int .i64 (1 : Int)), (.int .i64 (0 : Int)), (.int .i64 (4 : Int))] g1 fun v g3 =>
  ∃ x : Bool, v = (.bool x) ∧ ∀ g4 : G, Ex g3 g4 →
  R (.bool x) g4))
  (ifB (eqI t0 (3 : Int))
  (∀ g5 : G, NewL g1 g5 3 [(.int .i64 (1 : Int)), (.int .i64 (1 : Int))] →
  (CallsP Tryd.prog 64 #[(.agg ⟨[(.int .i64 t0), (.int .i64 t1), (.string t2), (.slice t3a t3l t3c), (.slice t4a t4l t4c)]⟩), (.slice (some ⟨g1.w.heap.size, 0, none⟩) 2 2)] g5 fun v g6 =>
  ∃ x_1 : Bool, v = (.bool x_1) ∧ ∀ g7 : G, Ex g6 g7 →
  R (.bool x_1) g7))
  (ifB (eqI t0 (4 : Int))
  ((CallsP Tryd.prog 63 #[(.slice t4a t4l t4c), (.int .i64 (1 : Int)), (.int .i64 (2 : Int)), (.int .i64 (9 : Int))] g1 fun v g8 =>
  ∃ x_2 : Bool, v = (.bool x_2) ∧ ∀ g9 : G, Ex g8 g9 →
  R (.bool x_2) g9))
  (ifB (eqI t0 (14 : Int))
  ((CallsP Tryd.prog 63 #[(.slice t4a t4l t4c), (.int .i64 (2 : Int)), (.int .i64 (0 : Int)), (.int .i64 (1 : Int))] g1 fun v g10 =>
  ∃ x_3 : Bool, v = (.bool x_3) ∧ ∀ g11 : G, Ex g10 g11 →
  R (.bool x_3) g11))
  (ifB (eqI t0 (15 : Int))
  (ifB (!eqI ((t4l : Nat) : Int) (1 : Int))
  ((CallsP Tryd.prog 63 #[(.slice t4a t4l t4c), (.int .i64 (2 : Int)), (.int .i64 (0 : Int)), (.int .i64 (9 : Int))] g1 fun v g12 =>
  ∃ x_4 : Bool, v = (.bool x_4) ∧ ∀ g13 : G, Ex g12 g13 →
  R (.bool x_4) g13))
  (∀ g14 : G, Ex g1 g14 →
  R (.bool false) g14))
  (∀ J_1 : Bool → G → Prop,
  (∀ v_2 : Bool, ∀ g15 : G, (ifB v_2
  (∀ g16 : G, NewL g15 g16 3 [(.int .i64 (3 : Int))] →
  (CallsP Tryd.prog 64 #[(.agg ⟨[(.int .i64 t0), (.int .i64 t1), (.string t2), (.slice t3a t3l t3c), (.slice t4a t4l t4c)]⟩), (.slice (some ⟨g15.w.heap.size, 0, none⟩) 1 1)] g16 fun v g17 =>
  ∃ x_5 : Bool, v = (.bool x_5) ∧ ∀ g18 : G, Ex g17 g18 →
  R (.bool x_5) g18))
  (ifB (eqI t0 (26 : Int))
  (∀ g19 : G, NewL g15 g19 3 [(.int .i64 (3 : Int)), (.int .i64 (3 : Int))] →
  (CallsP Tryd.prog 64 #[(.agg ⟨[(.int .i64 t0), (.int .i64 t1), (.string t2), (.slice t3a t3l t3c), (.slice t4a t4l t4c)]⟩), (.slice (some ⟨g15.w.heap.size, 0, none⟩) 2 2)] g19 fun v g20 =>
  ∃ x_6 : Bool, v = (.bool x_6) ∧ ∀ g21 : G, Ex g20 g21 →
  R (.bool x_6) g21))
  (ifB (eqI t0 (27 : Int))
  (ifB (!eqI ((t4l : Nat) : Int) (1 : Int))
  ((CallsP Tryd.prog 63 #[(.slice t4a t4l t4c), (.int .i64 (3 : Int)), (.int .i64 (0 : Int)), (.int .i64 (9 : Int))] g15 fun v g22 =>
  ∃ x_7 : Bool, v = (.bool x_7) ∧ ∀ g23 : G, Ex g22 g23 →
  R (.bool x_7) g23))
  (∀ g24 : G, Ex g15 g24 →
  R (.bool false) g24))
  (ifB (eqI t0 (28 : Int))
  (∀ g25 : G, NewL g15 g25 3 [(.int .i64 (3 : Int)), (.int .i64 (3 : Int)), (.int .i64 (3 : Int))] →
  (CallsP Tryd.prog 64 #[(.agg ⟨[(.int .i64 t0), (.int .i64 t1), (.string t2), (.slice t3a t3l t3c), (.slice t4a t4l t4c)]⟩), (.slice (some ⟨g15.w.heap.size, 0, none⟩) 3 3)] g25 fun v g26 =>
  ∃ x_8 : Bool, v = (.bool x_8) ∧ ∀ g27 : G, Ex g26 g27 →
  R (.bool x_8) g27))
  (ifB (eqI t0 (29 : Int))
  (ifB (leI (2 : Int) ((t4l : Nat) : Int))
  ((0 ≤ (0 : Int) ∧ (0 : Int) < ((t4l : Nat) : Int)) ∧ derefP t4a fun ad => ∃ x0 : Int, ∃ x1 : Int, ∃ x2 : ByteArray, ∃ x3a : Option Addr, ∃ x3l : Nat, ∃ x3c : Nat, ∃ x4a : Option Addr, ∃ x4l : Nat, ∃ x4c : Nat, g15.w.cell? (Addr.add ad (Int.toNat (0 : Int) * 5)) = some (.int .i64 x0) ∧ g15.w.cell? (Addr.add (Addr.add ad (Int.toNat (0 : Int) * 5)) 1) = some (.int .i64 x1) ∧ g15.w.cell? (Addr.add (Addr.add ad (Int.toNat (0 : Int) * 5)) 2) = some (.string x2) ∧ g15.w.cell? (Addr.add (Addr.add ad (Int.toNat (0 : Int) * 5)) 3) = some (.slice x3a x3l x3c) ∧ g15.w.cell? (Addr.add (Addr.add ad (Int.toNat (0 : Int) * 5)) 4) = some (.slice x4a x4l x4c) ∧ (CallsP Tryd.prog 31 #[(.int .i64 (3 : Int)), (.agg ⟨[(.int .i64 x0), (.int .i64 x1), (.string x2), (.slice x3a x3l x3c), (.slice x4a x4l x4c)]⟩)] g15 fun v g28 =>
  ∃ x_9 : Bool, v = (.bool x_9) ∧ ifB x_9
  ((0 ≤ (1 : Int) ∧ (1 : Int) ≤ ((t4l : Nat) : Int)) ∧ ∀ g29 : G, NewL g28 g29 3 [(.int .i64 (30 : Int))] →
  (CallsP Tryd.prog 65 #[(.slice (slAddr t4a t4c (Int.toNat (1 : Int)) 5) (t4l - (Int.toNat (1 : Int))) (t4c - (Int.toNat (1 : Int)))), (.slice (some ⟨g28.w.heap.size, 0, none⟩) 1 1)] g29 fun v g30 =>
  ∃ x_10 : Bool, v = (.bool x_10) ∧ ∀ g31 : G, Ex g30 g31 →
  R (.bool x_10) g31))
  (∀ g32 : G, Ex g28 g32 →
  R (.bool false) g32)))
  (∀ g33 : G, Ex g15 g33 →
  R (.bool false) g33))
  (ifB (eqI t0 (30 : Int))
  (∀ g34 : G, NewL g15 g34 3 [(.int .i64 (2 : Int)), (.int .i64 (3 : Int))] →
  (CallsP Tryd.prog 64 #[(.agg ⟨[(.int .i64 t0), (.int .i64 t1), (.string t2), (.slice t3a t3l t3c), (.slice t4a t4l t4c)]⟩), (.slice (some ⟨g15.w.heap.size, 0, none⟩) 2 2)] g34 fun v g35 =>
  ∃ x_11 : Bool, v = (.bool x_11) ∧ ∀ g36 : G, Ex g35 g36 →
  R (.bool x_11) g36))
  (ifB (eqI t0 (31 : Int))
  (ifB (leI (1 : Int) ((t4l : Nat) : Int))
  (InI64 (((t4l : Nat) : Int) - (1 : Int)) ∧ (0 ≤ (((t4l : Nat) : Int) - (1 : Int)) ∧ (((t4l : Nat) : Int) - (1 : Int)) < ((t4l : Nat) : Int)) ∧ derefP t4a fun ad_1 => ∃ x0_1 : Int, ∃ x1_1 : Int, ∃ x2_1 : ByteArray, ∃ x3a_1 : Option Addr, ∃ x3l_1 : Nat, ∃ x3c_1 : Nat, ∃ x4a_1 : Option Addr, ∃ x4l_1 : Nat, ∃ x4c_1 : Nat, g15.w.cell? (Addr.add ad_1 (Int.toNat (((t4l : Nat) : Int) - (1 : Int)) * 5)) = some (.int .i64 x0_1) ∧ g15.w.cell? (Addr.add (Addr.add ad_1 (Int.toNat (((t4l : Nat) : Int) - (1 : Int)) * 5)) 1) = some (.int .i64 x1_1) ∧ g15.w.cell? (Addr.add (Addr.add ad_1 (Int.toNat (((t4l : Nat) : Int) - (1 : Int)) * 5)) 2) = some (.string x2_1) ∧ g15.w.cell? (Addr.add (Addr.add ad_1 (Int.toNat (((t4l : Nat) : Int) - (1 : Int)) * 5)) 3) = some (.slice x3a_1 x3l_1 x3c_1) ∧ g15.w.cell? (Addr.add (Addr.add ad_1 (Int.toNat (((t4l : Nat) : Int) - (1 : Int)) * 5)) 4) = some (.slice x4a_1 x4l_1 x4c_1) ∧ (CallsP Tryd.prog 31 #[(.int .i64 (3 : Int)), (.agg ⟨[(.int .i64 x0_1), (.int .i64 x1_1), (.string x2_1), (.slice x3a_1 x3l_1 x3c_1), (.slice x4a_1 x4l_1 x4c_1)]⟩)] g15 fun v g37 =>
  ∃ x_12 : Bool, v = (.bool x_12) ∧ ifB x_12
  (InI64 (((t4l : Nat) : Int) - (1 : Int)) ∧ (0 ≤ (((t4l : Nat) : Int) - (1 : Int)) ∧ (((t4l : Nat) : Int) - (1 : Int)) ≤ ((t4c : Nat) : Int)) ∧ ∀ g38 : G, NewL g37 g38 3 [(.int .i64 (41 : Int)), (.int .i64 (42 : Int)), (.int .i64 (50 : Int))] →
  (CallsP Tryd.prog 65 #[(.slice (slAddr t4a t4c 0 5) ((Int.toNat (((t4l : Nat) : Int) - (1 : Int))) - 0) (t4c - 0)), (.slice (some ⟨g37.w.heap.size, 0, none⟩) 3 3)] g38 fun v g39 =>
  ∃ x_13 : Bool, v = (.bool x_13) ∧ ∀ g40 : G, Ex g39 g40 →
  R (.bool x_13) g40))
  (∀ g41 : G, Ex g37 g41 →
  R (.bool false) g41)))
  (∀ g42 : G, Ex g15 g42 →
  R (.bool false) g42))
  (ifB (eqI t0 (32 : Int))
  (ifB (eqI t1 (12 : Int))
  (∀ g43 : G, NewL g15 g43 3 [(.int .i64 (3 : Int))] →
  (CallsP Tryd.prog 64 #[(.agg ⟨[(.int .i64 t0), (.int .i64 t1), (.string t2), (.slice t3a t3l t3c), (.slice t4a t4l t4c)]⟩), (.slice (some ⟨g15.w.heap.size, 0, none⟩) 1 1)] g43 fun v g44 =>
  ∃ x_14 : Bool, v = (.bool x_14) ∧ ∀ g45 : G, Ex g44 g45 →
  R (.bool x_14) g45))
  (∀ g46 : G, NewL g15 g46 3 [(.int .i64 (3 : Int)), (.int .i64 (3 : Int))] →
  (CallsP Tryd.prog 64 #[(.agg ⟨[(.int .i64 t0), (.int .i64 t1), (.string t2), (.slice t3a t3l t3c), (.slice t4a t4l t4c)]⟩), (.slice (some ⟨g15.w.heap.size, 0, none⟩) 2 2)] g46 fun v g47 =>
  ∃ x_15 : Bool, v = (.bool x_15) ∧ ∀ g48 : G, Ex g47 g48 →
  R (.bool x_15) g48)))
  (ifB (eqI t0 (33 : Int))
  (∀ g49 : G, NewL g15 g49 3 [(.int .i64 (3 : Int)), (.int .i64 (1 : Int))] →
  (CallsP Tryd.prog 64 #[(.agg ⟨[(.int .i64 t0), (.int .i64 t1), (.string t2), (.slice t3a t3l t3c), (.slice t4a t4l t4c)]⟩), (.slice (some ⟨g15.w.heap.size, 0, none⟩) 2 2)] g49 fun v g50 =>
  ∃ x_16 : Bool, v = (.bool x_16) ∧ ∀ g51 : G, Ex g50 g51 →
  R (.bool x_16) g51))
  (ifB (eqI t0 (34 : Int))
  (ifB (eqI ((t4l : Nat) : Int) (1 : Int))
  (∀ g52 : G, NewL g15 g52 3 [(.int .i64 (72 : Int))] →
  (CallsP Tryd.prog 65 #[(.slice t4a t4l t4c), (.slice (some ⟨g15.w.heap.size, 0, none⟩) 1 1)] g52 fun v g53 =>
  ∃ x_17 : Bool, v = (.bool x_17) ∧ ∀ g54 : G, Ex g53 g54 →
  R (.bool x_17) g54))
  (∀ g55 : G, Ex g15 g55 →
  R (.bool false) g55))
  (∀ J_2 : Bool → G → Prop,
  (∀ v_3 : Bool, ∀ g56 : G, (ifB v_3
  (∀ g57 : G, NewL g56 g57 3 [(.int .i64 (1 : Int))] →
  (CallsP Tryd.prog 64 #[(.agg ⟨[(.int .i64 t0), (.int .i64 t1), (.string t2), (.slice t3a t3l t3c), (.slice t4a t4l t4c)]⟩), (.slice (some ⟨g56.w.heap.size, 0, none⟩) 1 1)] g57 fun v g58 =>
  ∃ x_18 : Bool, v = (.bool x_18) ∧ ∀ g59 : G, Ex g58 g59 →
  R (.bool x_18) g59))
  (ifB (eqI t0 (44 : Int))
  (ifB (leI (1 : Int) ((t4l : Nat) : Int))
  (∀ g60 : G, NewL g56 g60 3 [(.int .i64 (45 : Int))] →
  (CallsP Tryd.prog 65 #[(.slice t4a t4l t4c), (.slice (some ⟨g56.w.heap.size, 0, none⟩) 1 1)] g60 fun v g61 =>
  ∃ x_19 : Bool, v = (.bool x_19) ∧ ifB x_19
  ((CallsP Tryd.prog 66 #[(.slice t4a t4l t4c)] g61 fun v g62 =>
  ∃ x_20 : Bool, v = (.bool x_20) ∧ ∀ g63 : G, Ex g62 g63 →
  R (.bool x_20) g63))
  (∀ g64 : G, Ex g61 g64 →
  R (.bool false) g64)))
  (∀ g65 : G, Ex g56 g65 →
  R (.bool false) g65))
  (ifB (eqI t0 (45 : Int))
  ((CallsP Tryd.prog 63 #[(.slice t4a t4l t4c), (.int .i64 (1 : Int)), (.int .i64 (0 : Int)), (.int .i64 (1 : Int))] g56 fun v g66 =>
  ∃ x_21 : Bool, v = (.bool x_21) ∧ ∀ g67 : G, Ex g66 g67 →
  R (.bool x_21) g67))
  (ifB (eqI t0 (46 : Int))
  (∀ g68 : G, NewL g56 g68 3 [(.int .i64 (7 : Int))] →
  (CallsP Tryd.prog 64 #[(.agg ⟨[(.int .i64 t0), (.int .i64 t1), (.string t2), (.slice t3a t3l t3c), (.slice t4a t4l t4c)]⟩), (.slice (some ⟨g56.w.heap.size, 0, none⟩) 1 1)] g68 fun v g69 =>
  ∃ x_22 : Bool, v = (.bool x_22) ∧ ∀ g70 : G, Ex g69 g70 →
  R (.bool x_22) g70))
  (∀ J_3 : Bool → G → Prop,
  (∀ v_4 : Bool, ∀ g71 : G, (ifB v_4
  (∀ g72 : G, NewL g71 g72 3 [(.int .i64 (6 : Int))] →
  (CallsP Tryd.prog 64 #[(.agg ⟨[(.int .i64 t0), (.int .i64 t1), (.string t2), (.slice t3a t3l t3c), (.slice t4a t4l t4c)]⟩), (.slice (some ⟨g71.w.heap.size, 0, none⟩) 1 1)] g72 fun v g73 =>
  ∃ x_23 : Bool, v = (.bool x_23) ∧ ∀ g74 : G, Ex g73 g74 →
  R (.bool x_23) g74))
  (∀ J_4 : Bool → G → Prop,
  (∀ v_5 : Bool, ∀ g75 : G, (ifB v_5
  (ifB (eqI ((t4l : Nat) : Int) (2 : Int))
  ((0 ≤ (0 : Int) ∧ (0 : Int) < ((t4l : Nat) : Int)) ∧ derefP t4a fun ad_2 => ∃ x0_2 : Int, ∃ x1_2 : Int, ∃ x2_2 : ByteArray, ∃ x3a_2 : Option Addr, ∃ x3l_2 : Nat, ∃ x3c_2 : Nat, ∃ x4a_2 : Option Addr, ∃ x4l_2 : Nat, ∃ x4c_2 : Nat, g75.w.cell? (Addr.add ad_2 (Int.toNat (0 : Int) * 5)) = some (.int .i64 x0_2) ∧ g75.w.cell? (Addr.add (Addr.add ad_2 (Int.toNat (0 : Int) * 5)) 1) = some (.int .i64 x1_2) ∧ g75.w.cell? (Addr.add (Addr.add ad_2 (Int.toNat (0 : Int) * 5)) 2) = some (.string x2_2) ∧ g75.w.cell? (Addr.add (Addr.add ad_2 (Int.toNat (0 : Int) * 5)) 3) = some (.slice x3a_2 x3l_2 x3c_2) ∧ g75.w.cell? (Addr.add (Addr.add ad_2 (Int.toNat (0 : Int) * 5)) 4) = some (.slice x4a_2 x4l_2 x4c_2) ∧ (CallsP Tryd.prog 31 #[(.int .i64 (3 : Int)), (.agg ⟨[(.int .i64 x0_2), (.int .i64 x1_2), (.string x2_2), (.slice x3a_2 x3l_2 x3c_2), (.slice x4a_2 x4l_2 x4c_2)]⟩)] g75 fun v g76 =>
  ∃ x_24 : Bool, v = (.bool x_24) ∧ ifB x_24
  ((0 ≤ (1 : Int) ∧ (1 : Int) ≤ ((t4l : Nat) : Int)) ∧ ∀ g77 : G, NewL g76 g77 3 [(.int .i64 (72 : Int))] →
  (CallsP Tryd.prog 65 #[(.slice (slAddr t4a t4c (Int.toNat (1 : Int)) 5) (t4l - (Int.toNat (1 : Int))) (t4c - (Int.toNat (1 : Int)))), (.slice (some ⟨g76.w.heap.size, 0, none⟩) 1 1)] g77 fun v g78 =>
  ∃ x_25 : Bool, v = (.bool x_25) ∧ ∀ g79 : G, Ex g78 g79 →
  R (.bool x_25) g79))
  (∀ g80 : G, Ex g76 g80 →
  R (.bool false) g80)))
  (∀ g81 : G, Ex g75 g81 →
  R (.bool false) g81))
  (ifB (eqI t0 (66 : Int))
  (ifB (eqI ((t4l : Nat) : Int) (1 : Int))
  (∀ g82 : G, NewL g75 g82 3 [(.int .i64 (2 : Int))] →
  (CallsP Tryd.prog 65 #[(.slice t4a t4l t4c), (.slice (some ⟨g75.w.heap.size, 0, none⟩) 1 1)] g82 fun v g83 =>
  ∃ x_26 : Bool, v = (.bool x_26) ∧ ifB x_26
  ((0 ≤ (0 : Int) ∧ (0 : Int) < ((t4l : Nat) : Int)) ∧ derefP t4a fun ad_3 => ∃ xa : Option Addr, ∃ xl : Nat, ∃ xc : Nat, g83.w.cell? (Addr.add (Addr.add ad_3 (Int.toNat (0 : Int) * 5)) 4) = some (.slice xa xl xc) ∧ ∀ g84 : G, Ex g83 g84 →
  R (.bool (eqI ((xl : Nat) : Int) (0 : Int))) g84)
  (∀ g85 : G, Ex g83 g85 →
  R (.bool false) g85)))
  (∀ g86 : G, Ex g75 g86 →
  R (.bool false) g86))
  (ifB (eqI t0 (71 : Int))
  ((CallsP Tryd.prog 63 #[(.slice t4a t4l t4c), (.int .i64 (5 : Int)), (.int .i64 (0 : Int)), (.int .i64 ((t4l : Nat) : Int))] g75 fun v g87 =>
  ∃ x_27 : Bool, v = (.bool x_27) ∧ ∀ g88 : G, Ex g87 g88 →
  R (.bool x_27) g88))
  (ifB (eqI t0 (73 : Int))
  (∀ g89 : G, NewL g75 g89 3 [(.int .i64 (6 : Int)), (.int .i64 (6 : Int))] →
  (CallsP Tryd.prog 64 #[(.agg ⟨[(.int .i64 t0), (.int .i64 t1), (.string t2), (.slice t3a t3l t3c), (.slice t4a t4l t4c)]⟩), (.slice (some ⟨g75.w.heap.size, 0, none⟩) 2 2)] g89 fun v g90 =>
  ∃ x_28 : Bool, v = (.bool x_28) ∧ ∀ g91 : G, Ex g90 g91 →
  R (.bool x_28) g91))
  (ifB (eqI t0 (74 : Int))
  (ifB (eqI ((t4l : Nat) : Int) (2 : Int))
  ((0 ≤ (0 : Int) ∧ (0 : Int) < ((t4l : Nat) : Int)) ∧ derefP t4a fun ad_4 => ∃ x0_3 : Int, ∃ x1_3 : Int, ∃ x2_3 : ByteArray, ∃ x3a_3 : Option Addr, ∃ x3l_3 : Nat, ∃ x3c_3 : Nat, ∃ x4a_3 : Option Addr, ∃ x4l_3 : Nat, ∃ x4c_3 : Nat, g75.w.cell? (Addr.add ad_4 (Int.toNat (0 : Int) * 5)) = some (.int .i64 x0_3) ∧ g75.w.cell? (Addr.add (Addr.add ad_4 (Int.toNat (0 : Int) * 5)) 1) = some (.int .i64 x1_3) ∧ g75.w.cell? (Addr.add (Addr.add ad_4 (Int.toNat (0 : Int) * 5)) 2) = some (.string x2_3) ∧ g75.w.cell? (Addr.add (Addr.add ad_4 (Int.toNat (0 : Int) * 5)) 3) = some (.slice x3a_3 x3l_3 x3c_3) ∧ g75.w.cell? (Addr.add (Addr.add ad_4 (Int.toNat (0 : Int) * 5)) 4) = some (.slice x4a_3 x4l_3 x4c_3) ∧ (CallsP Tryd.prog 31 #[(.int .i64 (6 : Int)), (.agg ⟨[(.int .i64 x0_3), (.int .i64 x1_3), (.string x2_3), (.slice x3a_3 x3l_3 x3c_3), (.slice x4a_3 x4l_3 x4c_3)]⟩)] g75 fun v g92 =>
  ∃ x_29 : Bool, v = (.bool x_29) ∧ ifB x_29
  ((0 ≤ (1 : Int) ∧ (1 : Int) ≤ ((t4l : Nat) : Int)) ∧ ∀ g93 : G, NewL g92 g93 3 [(.int .i64 (43 : Int))] →
  (CallsP Tryd.prog 65 #[(.slice (slAddr t4a t4c (Int.toNat (1 : Int)) 5) (t4l - (Int.toNat (1 : Int))) (t4c - (Int.toNat (1 : Int)))), (.slice (some ⟨g92.w.heap.size, 0, none⟩) 1 1)] g93 fun v g94 =>
  ∃ x_30 : Bool, v = (.bool x_30) ∧ ∀ g95 : G, Ex g94 g95 →
  R (.bool x_30) g95))
  (∀ g96 : G, Ex g92 g96 →
  R (.bool false) g96)))
  (∀ g97 : G, Ex g75 g97 →
  R (.bool false) g97))
  (ifB (eqI t0 (81 : Int))
  ((CallsP Tryd.prog 63 #[(.slice t4a t4l t4c), (.int .i64 (4 : Int)), (.int .i64 (0 : Int)), (.int .i64 ((t4l : Nat) : Int))] g75 fun v g98 =>
  ∃ x_31 : Bool, v = (.bool x_31) ∧ ∀ g99 : G, Ex g98 g99 →
  R (.bool x_31) g99))
  (ifB (eqI t0 (83 : Int))
  (∀ g100 : G, NewL g75 g100 3 [(.int .i64 (6 : Int)), (.int .i64 (7 : Int))] →
  (CallsP Tryd.prog 64 #[(.agg ⟨[(.int .i64 t0), (.int .i64 t1), (.string t2), (.slice t3a t3l t3c), (.slice t4a t4l t4c)]⟩), (.slice (some ⟨g75.w.heap.size, 0, none⟩) 2 2)] g100 fun v g101 =>
  ∃ x_32 : Bool, v = (.bool x_32) ∧ ∀ g102 : G, Ex g101 g102 →
  R (.bool x_32) g102))
  (ifB (eqI t0 (84 : Int))
  (∀ g103 : G, NewL g75 g103 3 [(.int .i64 (7 : Int)), (.int .i64 (7 : Int))] →
  (CallsP Tryd.prog 64 #[(.agg ⟨[(.int .i64 t0), (.int .i64 t1), (.string t2), (.slice t3a t3l t3c), (.slice t4a t4l t4c)]⟩), (.slice (some ⟨g75.w.heap.size, 0, none⟩) 2 2)] g103 fun v g104 =>
  ∃ x_33 : Bool, v = (.bool x_33) ∧ ∀ g105 : G, Ex g104 g105 →
  R (.bool x_33) g105))
  (∀ J_5 : Bool → G → Prop,
  (∀ v_6 : Bool, ∀ g106 : G, (ifB v_6
  (∀ g107 : G, NewL g106 g107 3 [(.int .i64 (7 : Int)), (.int .i64 (6 : Int))] →
  (CallsP Tryd.prog 64 #[(.agg ⟨[(.int .i64 t0), (.int .i64 t1), (.string t2), (.slice t3a t3l t3c), (.slice t4a t4l t4c)]⟩), (.slice (some ⟨g106.w.heap.size, 0, none⟩) 2 2)] g107 fun v g108 =>
  ∃ x_34 : Bool, v = (.bool x_34) ∧ ∀ g109 : G, Ex g108 g109 →
  R (.bool x_34) g109))
  (ifB (eqI t0 (87 : Int))
  (ifB (leI (1 : Int) ((t4l : Nat) : Int))
  (InI64 (((t4l : Nat) : Int) - (1 : Int)) ∧ (0 ≤ (((t4l : Nat) : Int) - (1 : Int)) ∧ (((t4l : Nat) : Int) - (1 : Int)) < ((t4l : Nat) : Int)) ∧ derefP t4a fun ad_5 => ∃ x0_4 : Int, ∃ x1_4 : Int, ∃ x2_4 : ByteArray, ∃ x3a_4 : Option Addr, ∃ x3l_4 : Nat, ∃ x3c_4 : Nat, ∃ x4a_4 : Option Addr, ∃ x4l_4 : Nat, ∃ x4c_4 : Nat, g106.w.cell? (Addr.add ad_5 (Int.toNat (((t4l : Nat) : Int) - (1 : Int)) * 5)) = some (.int .i64 x0_4) ∧ g106.w.cell? (Addr.add (Addr.add ad_5 (Int.toNat (((t4l : Nat) : Int) - (1 : Int)) * 5)) 1) = some (.int .i64 x1_4) ∧ g106.w.cell? (Addr.add (Addr.add ad_5 (Int.toNat (((t4l : Nat) : Int) - (1 : Int)) * 5)) 2) = some (.string x2_4) ∧ g106.w.cell? (Addr.add (Addr.add ad_5 (Int.toNat (((t4l : Nat) : Int) - (1 : Int)) * 5)) 3) = some (.slice x3a_4 x3l_4 x3c_4) ∧ g106.w.cell? (Addr.add (Addr.add ad_5 (Int.toNat (((t4l : Nat) : Int) - (1 : Int)) * 5)) 4) = some (.slice x4a_4 x4l_4 x4c_4) ∧ (CallsP Tryd.prog 31 #[(.int .i64 (7 : Int)), (.agg ⟨[(.int .i64 x0_4), (.int .i64 x1_4), (.string x2_4), (.slice x3a_4 x3l_4 x3c_4), (.slice x4a_4 x4l_4 x4c_4)]⟩)] g106 fun v g110 =>
  ∃ x_35 : Bool, v = (.bool x_35) ∧ ifB x_35
  (InI64 (((t4l : Nat) : Int) - (1 : Int)) ∧ (0 ≤ (((t4l : Nat) : Int) - (1 : Int)) ∧ (((t4l : Nat) : Int) - (1 : Int)) ≤ ((t4c : Nat) : Int)) ∧ (CallsP Tryd.prog 63 #[(.slice (slAddr t4a t4c 0 5) ((Int.toNat (((t4l : Nat) : Int) - (1 : Int))) - 0) (t4c - 0)), (.int .i64 (4 : Int)), (.int .i64 (0 : Int)), (.int .i64 ((t4l : Nat) : Int))] g110 fun v g111 =>
  ∃ x_36 : Bool, v = (.bool x_36) ∧ ∀ g112 : G, Ex g111 g112 →
  R (.bool x_36) g112))
  (∀ g113 : G, Ex g110 g113 →
  R (.bool false) g113)))
  (∀ g114 : G, Ex g106 g114 →
  R (.bool false) g114))
  (∀ g115 : G, Ex g106 g115 →
  R (.bool false) g115))) → J_5 v_6 g106) →
  ifB (eqI t0 (85 : Int))
  (J_5 true g75)
  (J_5 (eqI t0 (86 : Int)) g75)))))))))) → J_4 v_5 g75) →
  ifB (eqI t0 (50 : Int))
  (J_4 true g71)
  (J_4 (eqI t0 (88 : Int)) g71))) → J_3 v_4 g71) →
  ifB (eqI t0 (47 : Int))
  (J_3 true g56)
  (ifB (eqI t0 (63 : Int))
  (J_3 true g56)
  (ifB (eqI t0 (64 : Int))
  (J_3 true g56)
  (J_3 (eqI t0 (65 : Int)) g56)))))))) → J_2 v_3 g56) →
  ifB (eqI t0 (43 : Int))
  (J_2 true g15)
  (J_2 (eqI t0 (61 : Int)) g15)))))))))))) → J_1 v_2 g15) →
  ifB (eqI t0 (25 : Int))
  (J_1 true g1)
  (ifB (eqI t0 (41 : Int))
  (J_1 true g1)
  (J_1 (eqI t0 (42 : Int)) g1))))))))) → J v_1 g1) →
  ifB (eqI t0 (1 : Int))
  (∀ g116 : G, Ex g g116 →
  J true g116)
  (ifB (eqI t0 (5 : Int))
  (∀ g117 : G, Ex g g117 →
  J true g117)
  (ifB (eqI t0 (11 : Int))
  (∀ g118 : G, Ex g g118 →
  J true g118)
  (ifB (eqI t0 (12 : Int))
  (∀ g119 : G, Ex g g119 →
  J true g119)
  (ifB (eqI t0 (13 : Int))
  (∀ g120 : G, Ex g g120 →
  J true g120)
  (ifB (eqI t0 (21 : Int))
  (∀ g121 : G, Ex g g121 →
  J true g121)
  (ifB (eqI t0 (22 : Int))
  (∀ g122 : G, Ex g g122 →
  J true g122)
  (ifB (eqI t0 (23 : Int))
  (∀ g123 : G, Ex g g123 →
  J true g123)
  (ifB (eqI t0 (24 : Int))
  (∀ g124 : G, Ex g g124 →
  J true g124)
  (ifB (eqI t0 (48 : Int))
  (∀ g125 : G, Ex g g125 →
  J true g125)
  (ifB (eqI t0 (49 : Int))
  (∀ g126 : G, Ex g g126 →
  J true g126)
  (ifB (eqI t0 (62 : Int))
  (∀ g127 : G, Ex g g127 →
  J true g127)
  (ifB (eqI t0 (72 : Int))
  (∀ g128 : G, Ex g g128 →
  J true g128)
  (∀ g129 : G, Ex g g129 →
  J (eqI t0 (82 : Int)) g129)))))))))))))
theorem F51_eq (t0 : Int) (t1 : Int) (t2 : ByteArray) (t3a : Option Addr) (t3l : Nat) (t3c : Nat) (t4a : Option Addr) (t4l : Nat) (t4c : Nat) (g : G) (R : Value → G → Prop) : fnG cfg51 302 [.tmp 2] c51 an51 [(.agg ⟨[(.int .i64 t0), (.int .i64 t1), (.string t2), (.slice t3a t3l t3c), (.slice t4a t4l t4c)]⟩)] g nobody R = F51 t0 t1 t2 t3a t3l t3c t4a t4l t4c g R := by kernel_rfl
theorem call51 (t0 : Int) (t1 : Int) (t2 : ByteArray) (t3a : Option Addr) (t3l : Nat) (t3c : Nat) (t4a : Option Addr) (t4l : Nat) (t4c : Nat) (g : G) (R : Value → G → Prop) (hF : F51 t0 t1 t2 t3a t3l t3c t4a t4l t4c g R) : CallsG Tryd.prog 51 #[(.agg ⟨[(.int .i64 t0), (.int .i64 t1), (.string t2), (.slice t3a t3l t3c), (.slice t4a t4l t4c)]⟩)] g nobody R :=
  fn_soundG (c := cfg51) TTok FNSok mixed Tryd.func51 (show Tryd.f51.body = some c51 by kernel_rfl) (show Tryd.f51.ntmps = 302 by kernel_rfl) (show Tryd.f51.results.toList = [.tmp 2] by kernel_rfl) rfl ((F51_eq t0 t1 t2 t3a t3l t3c t4a t4l t4c g R).mpr hF)

/- 52 pilaster/syntax.formed$1$1 -/
noncomputable def c52 : Code := match Tryd.f52.body with
  | some c => c
  | none => .skip
noncomputable def cfg52 : Cfg := ⟨Tryd.prog, TT, FNS, [4], [(4, 4)], [], TCH, true, false⟩
def an52 : AnnG := (.seq .leaf (.seq .leaf .leaf))
def F52 (x0 : Int) (x1 : Int) (x2 : ByteArray) (x3a : Option Addr) (x3l : Nat) (x3c : Nat) (x4a : Option Addr) (x4l : Nat) (x4c : Nat) (c0 : Option Addr) (c1 : Option Addr) (c2 : Option Addr) (g : G) (M : Nat → Prop) (R : Value → G → Prop) : Prop :=
  ∀ g1 : G, Ex g g1 →
  derefP c0 fun ad => ∃ xf : FuncId, ∃ xc : Array Value, g1.w.cell? ad = some (.func (.func xf) #[] xc) ∧ derefP c1 fun ad_1 => ∃ x : Int, g1.w.cell? ad_1 = some (.int .i64 x) ∧ InI64 (x + (1 : Int)) ∧ derefP c2 fun ad_2 => ∃ x_1 : Int, g1.w.cell? ad_2 = some (.int .i64 x_1) ∧ Enters Tryd.prog xf ∧ ∃ M1 : Nat → Prop, (∀ b, b < g.w.heap.size → M1 b → M b) ∧ (CallsG Tryd.prog xf ((⟨[(.agg ⟨[(.int .i64 x0), (.int .i64 x1), (.string x2), (.slice x3a x3l x3c), (.slice x4a x4l x4c)]⟩), (.int .i64 (x + (1 : Int))), (.bool (eqI x_1 (74 : Int)))]⟩ : Array Value) ++ xc) g1 M1 fun v g2 =>
  ∃ x_2 : Bool, v = (.bool x_2) ∧ ∀ g3 : G, Ex g2 g3 →
  R (.bool (!x_2)) g3)
theorem F52_eq (x0 : Int) (x1 : Int) (x2 : ByteArray) (x3a : Option Addr) (x3l : Nat) (x3c : Nat) (x4a : Option Addr) (x4l : Nat) (x4c : Nat) (c0 : Option Addr) (c1 : Option Addr) (c2 : Option Addr) (g : G) (M : Nat → Prop) (R : Value → G → Prop) : fnG cfg52 15 [.tmp 5] c52 an52 [(.agg ⟨[(.int .i64 x0), (.int .i64 x1), (.string x2), (.slice x3a x3l x3c), (.slice x4a x4l x4c)]⟩), (.pointer c0), (.pointer c1), (.pointer c2)] g M R = F52 x0 x1 x2 x3a x3l x3c x4a x4l x4c c0 c1 c2 g M R := by kernel_rfl
theorem call52 (x0 : Int) (x1 : Int) (x2 : ByteArray) (x3a : Option Addr) (x3l : Nat) (x3c : Nat) (x4a : Option Addr) (x4l : Nat) (x4c : Nat) (c0 : Option Addr) (c1 : Option Addr) (c2 : Option Addr) (g : G) (M : Nat → Prop) (R : Value → G → Prop) (hF : F52 x0 x1 x2 x3a x3l x3c x4a x4l x4c c0 c1 c2 g M R) : CallsG Tryd.prog 52 #[(.agg ⟨[(.int .i64 x0), (.int .i64 x1), (.string x2), (.slice x3a x3l x3c), (.slice x4a x4l x4c)]⟩), (.pointer c0), (.pointer c1), (.pointer c2)] g M R :=
  fn_soundG (c := cfg52) TTok FNSok mixed Tryd.func52 (show Tryd.f52.body = some c52 by kernel_rfl) (show Tryd.f52.ntmps = 15 by kernel_rfl) (show Tryd.f52.results.toList = [.tmp 5] by kernel_rfl) rfl ((F52_eq x0 x1 x2 x3a x3l x3c x4a x4l x4c c0 c1 c2 g M R).mpr hF)

/- 53 pilaster/pilasterref03.nodes -/
noncomputable def c53 : Code := match Tryd.f53.body with
  | some c => c
  | none => .skip
noncomputable def cfg53 : Cfg := ⟨Tryd.prog, TT, FNS, [2], [(2, 2), (11, 2), (17, 2), (22, 2)], [], TCH, false, false⟩
def an53 : AnnG := (.seq .leaf (.seq (.seq .leaf (.cond (.seq .leaf .leaf) .leaf)) (.seq (.seq .leaf (.blk (.loop ⟨[(5, .int .i64)], [], []⟩ (.seq (.seq .leaf (.cond .leaf .leaf)) (.seq (.blk (.seq (.tree 12 (.quiet 0 (.quiet 1 (.quiet 2 (.quiet 3 (.quiet 4 (.quiet 5 (.quiet 6 (.quiet 7 (.quiet 8 (.quiet 9 (.quiet 10 (.quiet 11 .fin))))))))))))) (.cond (.seq .leaf .leaf) .leaf))) .leaf))))) (.seq .leaf .leaf))))
def F53 (t0 : Int) (t1 : Int) (t2 : ByteArray) (t3a : Option Addr) (t3l : Nat) (t3c : Nat) (t4a : Option Addr) (t4l : Nat) (t4c : Nat) (anonymous : Bool) (g : G) (R : Value → G → Prop) : Prop :=
  ∀ g1 : G, Ex g g1 →
  (CallsP Tryd.prog 67 #[(.agg ⟨[(.int .i64 t0), (.int .i64 t1), (.string t2), (.slice t3a t3l t3c), (.slice t4a t4l t4c)]⟩), (.bool anonymous)] g1 fun v g2 =>
  ∃ x : Bool, v = (.bool x) ∧ ifB (!x)
  (∀ g3 : G, Ex g2 g3 →
  R (.bool false) g3)
  (∃ Inv : Nat → Int → G → Prop, ((∃ m0 : Nat, Inv m0 (0 : Int) g2)) ∧
  ∀ m : Nat, ∀ i : Int, ∀ g4 : G, Le g2 g4 → Inv m i g4 →
  ifB (ltI i ((t4l : Nat) : Int))
  (∀ g5 : G, Ex g4 g5 →
  (0 ≤ i ∧ i < ((t4l : Nat) : Int)) ∧ derefP t4a fun ad => ∃ x0 : Int, ∃ x1 : Int, ∃ x2 : ByteArray, ∃ x3a : Option Addr, ∃ x3l : Nat, ∃ x3c : Nat, ∃ x4a : Option Addr, ∃ x4l : Nat, ∃ x4c : Nat, g5.w.cell? (Addr.add ad (Int.toNat i * 5)) = some (.int .i64 x0) ∧ g5.w.cell? (Addr.add (Addr.add ad (Int.toNat i * 5)) 1) = some (.int .i64 x1) ∧ g5.w.cell? (Addr.add (Addr.add ad (Int.toNat i * 5)) 2) = some (.string x2) ∧ g5.w.cell? (Addr.add (Addr.add ad (Int.toNat i * 5)) 3) = some (.slice x3a x3l x3c) ∧ g5.w.cell? (Addr.add (Addr.add ad (Int.toNat i * 5)) 4) = some (.slice x4a x4l x4c) ∧ ifB (eqI t0 (74 : Int))
  ((CallsP Tryd.prog 53 #[(.agg ⟨[(.int .i64 x0), (.int .i64 x1), (.string x2), (.slice x3a x3l x3c), (.slice x4a x4l x4c)]⟩), (.bool (eqI i (1 : Int)))] g5 fun v g6 =>
  ∃ x_1 : Bool, v = (.bool x_1) ∧ ifB (!x_1)
  (∀ g7 : G, Ex g6 g7 →
  R (.bool false) g7)
  (InI64 (i + (1 : Int)) ∧ (∃ m_1 : Nat, m_1 < m ∧ Inv m_1 (i + (1 : Int)) g6))))
  ((CallsP Tryd.prog 53 #[(.agg ⟨[(.int .i64 x0), (.int .i64 x1), (.string x2), (.slice x3a x3l x3c), (.slice x4a x4l x4c)]⟩), (.bool false)] g5 fun v g8 =>
  ∃ x_2 : Bool, v = (.bool x_2) ∧ ifB (!x_2)
  (∀ g9 : G, Ex g8 g9 →
  R (.bool false) g9)
  (InI64 (i + (1 : Int)) ∧ (∃ m_1 : Nat, m_1 < m ∧ Inv m_1 (i + (1 : Int)) g8)))))
  (∀ g10 : G, Ex g4 g10 →
  R (.bool true) g10)))
theorem F53_eq (t0 : Int) (t1 : Int) (t2 : ByteArray) (t3a : Option Addr) (t3l : Nat) (t3c : Nat) (t4a : Option Addr) (t4l : Nat) (t4c : Nat) (anonymous : Bool) (g : G) (R : Value → G → Prop) : fnG cfg53 31 [.tmp 4] c53 an53 [(.agg ⟨[(.int .i64 t0), (.int .i64 t1), (.string t2), (.slice t3a t3l t3c), (.slice t4a t4l t4c)]⟩), (.bool anonymous)] g nobody R = F53 t0 t1 t2 t3a t3l t3c t4a t4l t4c anonymous g R := by kernel_rfl
theorem call53 (t0 : Int) (t1 : Int) (t2 : ByteArray) (t3a : Option Addr) (t3l : Nat) (t3c : Nat) (t4a : Option Addr) (t4l : Nat) (t4c : Nat) (anonymous : Bool) (g : G) (R : Value → G → Prop) (hF : F53 t0 t1 t2 t3a t3l t3c t4a t4l t4c anonymous g R) : CallsG Tryd.prog 53 #[(.agg ⟨[(.int .i64 t0), (.int .i64 t1), (.string t2), (.slice t3a t3l t3c), (.slice t4a t4l t4c)]⟩), (.bool anonymous)] g nobody R :=
  fn_soundG (c := cfg53) TTok FNSok mixed Tryd.func53 (show Tryd.f53.body = some c53 by kernel_rfl) (show Tryd.f53.ntmps = 31 by kernel_rfl) (show Tryd.f53.results.toList = [.tmp 4] by kernel_rfl) rfl ((F53_eq t0 t1 t2 t3a t3l t3c t4a t4l t4c anonymous g R).mpr hF)

/- 54 slices.IndexFunc[[]string,string] -/
noncomputable def c54 : Code := match Tryd.f54.body with
  | some c => c
  | none => .skip
noncomputable def cfg54 : Cfg := ⟨Tryd.prog, TT, FNS, [], [], [], TCH, false, false⟩
def an54 : AnnG := (.seq .leaf (.seq (.seq .leaf (.blk (.loop ⟨[(8, .int .i64)], [], []⟩ (.seq .leaf (.seq (.cond .leaf .leaf) (.seq (.blk (.seq .leaf (.seq .leaf (.cond (.seq .leaf .leaf) .leaf)))) .leaf)))))) (.seq .leaf .leaf)))
def F54 (sa : Option Addr) (sl : Nat) (sc : Nat) (ff : FuncId) (fc : Array Value) (g : G) (R : Value → G → Prop) : Prop :=
  ∃ Inv : Nat → Int → G → Prop, ((∃ m0 : Nat, Inv m0 (0 : Int) g)) ∧
  ∀ m : Nat, ∀ v_1 : Int, ∀ g1 : G, Le g g1 → Inv m v_1 g1 →
  ifB (ltI v_1 ((sl : Nat) : Int))
  ((0 ≤ v_1 ∧ v_1 < ((sl : Nat) : Int)) ∧ derefP sa fun ad => ∃ x : ByteArray, g1.w.cell? (Addr.add ad (Int.toNat v_1 * 1)) = some (.string x) ∧ Enters Tryd.prog ff ∧ (CallsP Tryd.prog ff ((⟨[(.string x)]⟩ : Array Value) ++ fc) g1 fun v g2 =>
  ∃ x_1 : Bool, v = (.bool x_1) ∧ ifB x_1
  (∀ g3 : G, Ex g2 g3 →
  R (.int .i64 v_1) g3)
  (InI64 (v_1 + (1 : Int)) ∧ (∃ m_1 : Nat, m_1 < m ∧ Inv m_1 (v_1 + (1 : Int)) g2))))
  (∀ g4 : G, Ex g1 g4 →
  R (.int .i64 (-1 : Int)) g4)
theorem F54_eq (sa : Option Addr) (sl : Nat) (sc : Nat) (ff : FuncId) (fc : Array Value) (g : G) (R : Value → G → Prop) : fnG cfg54 19 [.tmp 4] c54 an54 [(.slice sa sl sc), (.func (.func ff) #[] fc)] g nobody R = F54 sa sl sc ff fc g R := by kernel_rfl
theorem call54 (sa : Option Addr) (sl : Nat) (sc : Nat) (ff : FuncId) (fc : Array Value) (g : G) (R : Value → G → Prop) (hF : F54 sa sl sc ff fc g R) : CallsG Tryd.prog 54 #[(.slice sa sl sc), (.func (.func ff) #[] fc)] g nobody R :=
  fn_soundG (c := cfg54) TTok FNSok mixed Tryd.func54 (show Tryd.f54.body = some c54 by kernel_rfl) (show Tryd.f54.ntmps = 19 by kernel_rfl) (show Tryd.f54.results.toList = [.tmp 4] by kernel_rfl) rfl ((F54_eq sa sl sc ff fc g R).mpr hF)

/- 55 slices.IndexFunc[[]pilaster/api.Syn,pilaster/api.Syn] -/
noncomputable def c55 : Code := match Tryd.f55.body with
  | some c => c
  | none => .skip
noncomputable def cfg55 : Cfg := ⟨Tryd.prog, TT, FNS, [], [], [], TCH, true, false⟩
def an55 : AnnG := (.seq .leaf (.seq (.seq .leaf (.blk (.loop ⟨[(8, .int .i64)], [], []⟩ (.seq .leaf (.seq (.cond .leaf .leaf) (.seq (.blk (.seq .leaf (.seq .leaf (.cond (.seq .leaf .leaf) .leaf)))) .leaf)))))) (.seq .leaf .leaf)))
def F55 (sa : Option Addr) (sl : Nat) (sc : Nat) (ff : FuncId) (fc : Array Value) (g : G) (M : Nat → Prop) (R : Value → G → Prop) : Prop :=
  ∃ Inv : Nat → Int → G → Prop, ((∃ m0 : Nat, Inv m0 (0 : Int) g)) ∧
  ∀ m : Nat, ∀ v_1 : Int, ∀ g1 : G, Le g g1 → Inv m v_1 g1 →
  ifB (ltI v_1 ((sl : Nat) : Int))
  ((0 ≤ v_1 ∧ v_1 < ((sl : Nat) : Int)) ∧ derefP sa fun ad => ∃ x0 : Int, ∃ x1 : Int, ∃ x2 : ByteArray, ∃ x3a : Option Addr, ∃ x3l : Nat, ∃ x3c : Nat, ∃ x4a : Option Addr, ∃ x4l : Nat, ∃ x4c : Nat, g1.w.cell? (Addr.add ad (Int.toNat v_1 * 5)) = some (.int .i64 x0) ∧ g1.w.cell? (Addr.add (Addr.add ad (Int.toNat v_1 * 5)) 1) = some (.int .i64 x1) ∧ g1.w.cell? (Addr.add (Addr.add ad (Int.toNat v_1 * 5)) 2) = some (.string x2) ∧ g1.w.cell? (Addr.add (Addr.add ad (Int.toNat v_1 * 5)) 3) = some (.slice x3a x3l x3c) ∧ g1.w.cell? (Addr.add (Addr.add ad (Int.toNat v_1 * 5)) 4) = some (.slice x4a x4l x4c) ∧ Enters Tryd.prog ff ∧ ∃ M1 : Nat → Prop, (∀ b, b < g.w.heap.size → M1 b → M b) ∧ (CallsG Tryd.prog ff ((⟨[(.agg ⟨[(.int .i64 x0), (.int .i64 x1), (.string x2), (.slice x3a x3l x3c), (.slice x4a x4l x4c)]⟩)]⟩ : Array Value) ++ fc) g1 M1 fun v g2 =>
  ∃ x : Bool, v = (.bool x) ∧ ifB x
  (∀ g3 : G, Ex g2 g3 →
  R (.int .i64 v_1) g3)
  (InI64 (v_1 + (1 : Int)) ∧ (∃ m_1 : Nat, m_1 < m ∧ Inv m_1 (v_1 + (1 : Int)) g2))))
  (∀ g4 : G, Ex g1 g4 →
  R (.int .i64 (-1 : Int)) g4)
theorem F55_eq (sa : Option Addr) (sl : Nat) (sc : Nat) (ff : FuncId) (fc : Array Value) (g : G) (M : Nat → Prop) (R : Value → G → Prop) : fnG cfg55 19 [.tmp 4] c55 an55 [(.slice sa sl sc), (.func (.func ff) #[] fc)] g M R = F55 sa sl sc ff fc g M R := by kernel_rfl
theorem call55 (sa : Option Addr) (sl : Nat) (sc : Nat) (ff : FuncId) (fc : Array Value) (g : G) (M : Nat → Prop) (R : Value → G → Prop) (hF : F55 sa sl sc ff fc g M R) : CallsG Tryd.prog 55 #[(.slice sa sl sc), (.func (.func ff) #[] fc)] g M R :=
  fn_soundG (c := cfg55) TTok FNSok mixed Tryd.func55 (show Tryd.f55.body = some c55 by kernel_rfl) (show Tryd.f55.ntmps = 19 by kernel_rfl) (show Tryd.f55.results.toList = [.tmp 4] by kernel_rfl) rfl ((F55_eq sa sl sc ff fc g M R).mpr hF)

/- 56 pilaster/ident.IsVar -/
noncomputable def c56 : Code := match Tryd.f56.body with
  | some c => c
  | none => .skip
noncomputable def cfg56 : Cfg := ⟨Tryd.prog, TT, FNS, [], [], [], TCH, false, false⟩
def an56 : AnnG := (.seq .leaf (.seq .leaf (.seq .leaf .leaf)))
def F56 (s : ByteArray) (g : G) (R : Value → G → Prop) : Prop :=
  (CallsP Tryd.prog 68 #[(.string s), (.string (bs [39]))] g fun v g1 =>
  ∃ x0 : ByteArray, ∃ x1 : Bool, v = (.tuple ⟨[(.string x0), (.bool x1)]⟩) ∧ ifB x1
  (ifB (leI ((s.size : Nat) : Int) (24 : Int))
  ((CallsP Tryd.prog 69 #[(.string x0), (.int .i64 (1 : Int))] g1 fun v g2 =>
  ∃ x : Bool, v = (.bool x) ∧ ∀ g3 : G, Ex g2 g3 →
  R (.bool x) g3))
  (∀ g4 : G, Ex g1 g4 →
  R (.bool false) g4))
  (∀ g5 : G, Ex g1 g5 →
  R (.bool false) g5))
theorem F56_eq (s : ByteArray) (g : G) (R : Value → G → Prop) : fnG cfg56 20 [.tmp 2] c56 an56 [(.string s)] g nobody R = F56 s g R := by kernel_rfl
theorem call56 (s : ByteArray) (g : G) (R : Value → G → Prop) (hF : F56 s g R) : CallsG Tryd.prog 56 #[(.string s)] g nobody R :=
  fn_soundG (c := cfg56) TTok FNSok mixed Tryd.func56 (show Tryd.f56.body = some c56 by kernel_rfl) (show Tryd.f56.ntmps = 20 by kernel_rfl) (show Tryd.f56.results.toList = [.tmp 2] by kernel_rfl) rfl ((F56_eq s g R).mpr hF)

/- 57 pilaster/syntax.path -/
noncomputable def c57 : Code := match Tryd.f57.body with
  | some c => c
  | none => .skip
noncomputable def cfg57 : Cfg := ⟨Tryd.prog, TT, FNS, [], [], [], TCH, false, false⟩
def an57 : AnnG := (.seq .leaf (.join ⟨[], [], []⟩ (.seq .leaf (.cond (.seq .leaf .leaf) .leaf)) (.seq .leaf (.seq (.seq .leaf (.cond (.seq .leaf .leaf) .leaf)) (.seq (.seq .leaf (.cond (.seq .leaf .leaf) .leaf)) (.seq .leaf .leaf))))))
def F57 (la : Option Addr) (ll : Nat) (lc : Nat) (lower : Bool) (g : G) (R : Value → G → Prop) : Prop :=
  ∀ J : G → Prop,
  (∀ g1 : G, (InI64 (((ll : Nat) : Int) - (1 : Int)) ∧ (0 ≤ (((ll : Nat) : Int) - (1 : Int)) ∧ (((ll : Nat) : Int) - (1 : Int)) ≤ ((lc : Nat) : Int)) ∧ (CallsP Tryd.prog 35 #[(.slice (slAddr la lc 0 1) ((Int.toNat (((ll : Nat) : Int) - (1 : Int))) - 0) (lc - 0)), (.func (.func 70) #[] #[])] g1 fun v g2 =>
  ∃ x : Bool, v = (.bool x) ∧ ifB x
  (∀ g3 : G, Ex g2 g3 →
  R (.bool false) g3)
  (ifB lower
  ((0 ≤ (((ll : Nat) : Int) - (1 : Int)) ∧ (((ll : Nat) : Int) - (1 : Int)) < ((ll : Nat) : Int)) ∧ derefP la fun ad => ∃ x_1 : ByteArray, g2.w.cell? (Addr.add ad (Int.toNat (((ll : Nat) : Int) - (1 : Int)) * 1)) = some (.string x_1) ∧ (CallsP Tryd.prog 58 #[(.string x_1)] g2 fun v g4 =>
  ∃ x_2 : Bool, v = (.bool x_2) ∧ ∀ g5 : G, Ex g4 g5 →
  R (.bool x_2) g5))
  ((0 ≤ (((ll : Nat) : Int) - (1 : Int)) ∧ (((ll : Nat) : Int) - (1 : Int)) < ((ll : Nat) : Int)) ∧ derefP la fun ad_1 => ∃ x_3 : ByteArray, g2.w.cell? (Addr.add ad_1 (Int.toNat (((ll : Nat) : Int) - (1 : Int)) * 1)) = some (.string x_3) ∧ (CallsP Tryd.prog 62 #[(.string x_3)] g2 fun v g6 =>
  ∃ x_4 : Bool, v = (.bool x_4) ∧ ∀ g7 : G, Ex g6 g7 →
  R (.bool x_4) g7))))) → J g1) →
  ifB (ltI ((ll : Nat) : Int) (1 : Int))
  (∀ g8 : G, Ex g g8 →
  R (.bool false) g8)
  (ifB (ltI (8 : Int) ((ll : Nat) : Int))
  (∀ g9 : G, Ex g g9 →
  R (.bool false) g9)
  (J g))
theorem F57_eq (la : Option Addr) (ll : Nat) (lc : Nat) (lower : Bool) (g : G) (R : Value → G → Prop) : fnG cfg57 32 [.tmp 4] c57 an57 [(.slice la ll lc), (.bool lower)] g nobody R = F57 la ll lc lower g R := by kernel_rfl
theorem call57 (la : Option Addr) (ll : Nat) (lc : Nat) (lower : Bool) (g : G) (R : Value → G → Prop) (hF : F57 la ll lc lower g R) : CallsG Tryd.prog 57 #[(.slice la ll lc), (.bool lower)] g nobody R :=
  fn_soundG (c := cfg57) TTok FNSok mixed Tryd.func57 (show Tryd.f57.body = some c57 by kernel_rfl) (show Tryd.f57.ntmps = 32 by kernel_rfl) (show Tryd.f57.results.toList = [.tmp 4] by kernel_rfl) rfl ((F57_eq la ll lc lower g R).mpr hF)

/- 58 pilaster/ident.IsLower -/
noncomputable def c58 : Code := match Tryd.f58.body with
  | some c => c
  | none => .skip
noncomputable def cfg58 : Cfg := ⟨Tryd.prog, TT, FNS, [], [], [], TCH, false, false⟩
def an58 : AnnG := (.seq .leaf (.seq .leaf .leaf))
def F58 (s : ByteArray) (g : G) (R : Value → G → Prop) : Prop :=
  (CallsP Tryd.prog 69 #[(.string s), (.int .i64 (1 : Int))] g fun v g1 =>
  ∃ x : Bool, v = (.bool x) ∧ ifB x
  ((CallsP Tryd.prog 71 #[(.string s)] g1 fun v g2 =>
  ∃ x_1 : Bool, v = (.bool x_1) ∧ ∀ g3 : G, Ex g2 g3 →
  R (.bool (!x_1)) g3))
  (∀ g4 : G, Ex g1 g4 →
  R (.bool false) g4))
theorem F58_eq (s : ByteArray) (g : G) (R : Value → G → Prop) : fnG cfg58 10 [.tmp 2] c58 an58 [(.string s)] g nobody R = F58 s g R := by kernel_rfl
theorem call58 (s : ByteArray) (g : G) (R : Value → G → Prop) (hF : F58 s g R) : CallsG Tryd.prog 58 #[(.string s)] g nobody R :=
  fn_soundG (c := cfg58) TTok FNSok mixed Tryd.func58 (show Tryd.f58.body = some c58 by kernel_rfl) (show Tryd.f58.ntmps = 10 by kernel_rfl) (show Tryd.f58.results.toList = [.tmp 2] by kernel_rfl) rfl ((F58_eq s g R).mpr hF)

/- 59 pilaster/syntax.plain -/
noncomputable def c59 : Code := match Tryd.f59.body with
  | some c => c
  | none => .skip
noncomputable def cfg59 : Cfg := ⟨Tryd.prog, TT, FNS, [], [], [], TCH, false, false⟩
def an59 : AnnG := (.seq .leaf (.seq (.seq .leaf (.blk (.loop ⟨[(6, .int .i64)], [], []⟩ (.seq .leaf (.seq (.cond .leaf .leaf) (.seq (.blk (.seq .leaf (.seq .leaf (.cond (.seq .leaf .leaf) .leaf)))) .leaf)))))) (.seq .leaf .leaf)))
def F59 (s : ByteArray) (g : G) (R : Value → G → Prop) : Prop :=
  ∃ Inv : Nat → Int → G → Prop, ((∃ m0 : Nat, Inv m0 (0 : Int) g)) ∧
  ∀ m : Nat, ∀ v_1 : Int, ∀ g1 : G, Le g g1 → Inv m v_1 g1 →
  ifB (ltI v_1 ((s.size : Nat) : Int))
  (∃ b : UInt8, (0 ≤ v_1 ∧ s[Int.toNat v_1]? = some b) ∧ ifB (!eqI ((b.toNat : Nat) : Int) (10 : Int))
  (∃ b_1 : UInt8, (0 ≤ v_1 ∧ s[Int.toNat v_1]? = some b_1) ∧ ifB (ltI ((b_1.toNat : Nat) : Int) (32 : Int))
  (∀ g2 : G, Ex g1 g2 →
  R (.bool false) g2)
  (∃ b_2 : UInt8, (0 ≤ v_1 ∧ s[Int.toNat v_1]? = some b_2) ∧ ifB (ltI (126 : Int) ((b_2.toNat : Nat) : Int))
  (∀ g3 : G, Ex g1 g3 →
  R (.bool false) g3)
  (InI64 (v_1 + (1 : Int)) ∧ (∃ m_1 : Nat, m_1 < m ∧ Inv m_1 (v_1 + (1 : Int)) g1))))
  (InI64 (v_1 + (1 : Int)) ∧ (∃ m_1 : Nat, m_1 < m ∧ Inv m_1 (v_1 + (1 : Int)) g1)))
  (∀ g4 : G, Ex g1 g4 →
  R (.bool (leI ((s.size : Nat) : Int) (16384 : Int))) g4)
theorem F59_eq (s : ByteArray) (g : G) (R : Value → G → Prop) : fnG cfg59 29 [.tmp 2] c59 an59 [(.string s)] g nobody R = F59 s g R := by kernel_rfl
theorem call59 (s : ByteArray) (g : G) (R : Value → G → Prop) (hF : F59 s g R) : CallsG Tryd.prog 59 #[(.string s)] g nobody R :=
  fn_soundG (c := cfg59) TTok FNSok mixed Tryd.func59 (show Tryd.f59.body = some c59 by kernel_rfl) (show Tryd.f59.ntmps = 29 by kernel_rfl) (show Tryd.f59.results.toList = [.tmp 2] by kernel_rfl) rfl ((F59_eq s g R).mpr hF)

/- 60 pilaster/syntax.own$1 -/
noncomputable def c60 : Code := match Tryd.f60.body with
  | some c => c
  | none => .skip
noncomputable def cfg60 : Cfg := ⟨Tryd.prog, TT, FNS, [], [], [], TCH, false, false⟩
def an60 : AnnG := (.seq .leaf (.seq .leaf .leaf))
def F60 (s : ByteArray) (g : G) (R : Value → G → Prop) : Prop :=
  (CallsP Tryd.prog 58 #[(.string s)] g fun v g1 =>
  ∃ x : Bool, v = (.bool x) ∧ ∀ g2 : G, Ex g1 g2 →
  R (.bool (!x)) g2)
theorem F60_eq (s : ByteArray) (g : G) (R : Value → G → Prop) : fnG cfg60 6 [.tmp 2] c60 an60 [(.string s)] g nobody R = F60 s g R := by kernel_rfl
theorem call60 (s : ByteArray) (g : G) (R : Value → G → Prop) (hF : F60 s g R) : CallsG Tryd.prog 60 #[(.string s)] g nobody R :=
  fn_soundG (c := cfg60) TTok FNSok mixed Tryd.func60 (show Tryd.f60.body = some c60 by kernel_rfl) (show Tryd.f60.ntmps = 6 by kernel_rfl) (show Tryd.f60.results.toList = [.tmp 2] by kernel_rfl) rfl ((F60_eq s g R).mpr hF)

/- 61 pilaster/syntax.params -/
noncomputable def c61 : Code := match Tryd.f61.body with
  | some c => c
  | none => .skip
noncomputable def cfg61 : Cfg := ⟨Tryd.prog, TT, FNS, [], [], [], TCH, false, false⟩
def an61 : AnnG := (.seq .leaf (.seq (.seq .leaf (.blk (.loop ⟨[(7, .int .i64)], [], []⟩ (.seq .leaf (.seq (.cond .leaf .leaf) (.seq (.blk (.seq .leaf (.seq .leaf (.cond (.seq .leaf .leaf) .leaf)))) .leaf)))))) (.seq .leaf .leaf)))
def F61 (la : Option Addr) (ll : Nat) (lc : Nat) (g : G) (R : Value → G → Prop) : Prop :=
  ∃ Inv : Nat → Int → G → Prop, ((∃ m0 : Nat, Inv m0 (0 : Int) g)) ∧
  ∀ m : Nat, ∀ v_1 : Int, ∀ g1 : G, Le g g1 → Inv m v_1 g1 →
  ifB (ltI v_1 ((ll : Nat) : Int))
  ((0 ≤ v_1 ∧ v_1 < ((ll : Nat) : Int)) ∧ derefP la fun ad => ∃ s : ByteArray, g1.w.cell? (Addr.add ad (Int.toNat v_1 * 1)) = some (.string s) ∧ (CallsP Tryd.prog 56 #[(.string s)] g1 fun v g2 =>
  ∃ x : Bool, v = (.bool x) ∧ ifB (!x)
  (∀ g3 : G, Ex g2 g3 →
  R (.bool false) g3)
  ((0 ≤ v_1 ∧ v_1 ≤ ((lc : Nat) : Int)) ∧ (CallsP Tryd.prog 72 #[(.slice (slAddr la lc 0 1) ((Int.toNat v_1) - 0) (lc - 0)), (.string s)] g2 fun v g4 =>
  ∃ x_1 : Bool, v = (.bool x_1) ∧ ifB x_1
  (∀ g5 : G, Ex g4 g5 →
  R (.bool false) g5)
  (InI64 (v_1 + (1 : Int)) ∧ (∃ m_1 : Nat, m_1 < m ∧ Inv m_1 (v_1 + (1 : Int)) g4))))))
  (∀ g6 : G, Ex g1 g6 →
  R (.bool (leI ((ll : Nat) : Int) (4 : Int))) g6)
theorem F61_eq (la : Option Addr) (ll : Nat) (lc : Nat) (g : G) (R : Value → G → Prop) : fnG cfg61 26 [.tmp 2] c61 an61 [(.slice la ll lc)] g nobody R = F61 la ll lc g R := by kernel_rfl
theorem call61 (la : Option Addr) (ll : Nat) (lc : Nat) (g : G) (R : Value → G → Prop) (hF : F61 la ll lc g R) : CallsG Tryd.prog 61 #[(.slice la ll lc)] g nobody R :=
  fn_soundG (c := cfg61) TTok FNSok mixed Tryd.func61 (show Tryd.f61.body = some c61 by kernel_rfl) (show Tryd.f61.ntmps = 26 by kernel_rfl) (show Tryd.f61.results.toList = [.tmp 2] by kernel_rfl) rfl ((F61_eq la ll lc g R).mpr hF)

/- 62 pilaster/ident.IsUpper -/
noncomputable def c62 : Code := match Tryd.f62.body with
  | some c => c
  | none => .skip
noncomputable def cfg62 : Cfg := ⟨Tryd.prog, TT, FNS, [], [], [], TCH, false, false⟩
def an62 : AnnG := (.seq .leaf (.seq .leaf .leaf))
def F62 (s : ByteArray) (g : G) (R : Value → G → Prop) : Prop :=
  (CallsP Tryd.prog 69 #[(.string s), (.int .i64 (2 : Int))] g fun v g1 =>
  ∃ x : Bool, v = (.bool x) ∧ ∀ g2 : G, Ex g1 g2 →
  R (.bool x) g2)
theorem F62_eq (s : ByteArray) (g : G) (R : Value → G → Prop) : fnG cfg62 5 [.tmp 2] c62 an62 [(.string s)] g nobody R = F62 s g R := by kernel_rfl
theorem call62 (s : ByteArray) (g : G) (R : Value → G → Prop) (hF : F62 s g R) : CallsG Tryd.prog 62 #[(.string s)] g nobody R :=
  fn_soundG (c := cfg62) TTok FNSok mixed Tryd.func62 (show Tryd.f62.body = some c62 by kernel_rfl) (show Tryd.f62.ntmps = 5 by kernel_rfl) (show Tryd.f62.results.toList = [.tmp 2] by kernel_rfl) rfl ((F62_eq s g R).mpr hF)

/- 63 pilaster/syntax.many -/
noncomputable def c63 : Code := match Tryd.f63.body with
  | some c => c
  | none => .skip
noncomputable def cfg63 : Cfg := ⟨Tryd.prog, TT, FNS, [], [], [5], TCH, false, false⟩
def an63 : AnnG := (.seq .leaf (.seq .leaf .leaf))
def F63 (la : Option Addr) (ll : Nat) (lc : Nat) (cat : Int) (least : Int) (most : Int) (g : G) (R : Value → G → Prop) : Prop :=
  ∀ g1 : G, NewL g g1 3 ([(.int .i64 cat)] : List Value) →
  ifB (leI least ((ll : Nat) : Int))
  (ifB (leI ((ll : Nat) : Int) most)
  (∃ M1 : Nat → Prop, (∀ b, b < g.w.heap.size → M1 b → nobody b) ∧ (CallsG Tryd.prog 37 #[(.slice la ll lc), (.func (.func 73) #[] ⟨[(.pointer (some ⟨g.w.heap.size, 0, none⟩))]⟩)] g1 M1 fun v g2 =>
  ∃ x : Bool, v = (.bool x) ∧ ∀ g3 : G, Ex g2 g3 →
  R (.bool (!x)) g3))
  (∀ g4 : G, Ex g1 g4 →
  R (.bool false) g4))
  (∀ g5 : G, Ex g1 g5 →
  R (.bool false) g5)
theorem F63_eq (la : Option Addr) (ll : Nat) (lc : Nat) (cat : Int) (least : Int) (most : Int) (g : G) (R : Value → G → Prop) : fnG cfg63 25 [.tmp 8] c63 an63 [(.slice la ll lc), (.int .i64 cat), (.int .i64 least), (.int .i64 most)] g nobody R = F63 la ll lc cat least most g R := by kernel_rfl
theorem call63 (la : Option Addr) (ll : Nat) (lc : Nat) (cat : Int) (least : Int) (most : Int) (g : G) (R : Value → G → Prop) (hF : F63 la ll lc cat least most g R) : CallsG Tryd.prog 63 #[(.slice la ll lc), (.int .i64 cat), (.int .i64 least), (.int .i64 most)] g nobody R :=
  fn_soundG (c := cfg63) TTok FNSok mixed Tryd.func63 (show Tryd.f63.body = some c63 by kernel_rfl) (show Tryd.f63.ntmps = 25 by kernel_rfl) (show Tryd.f63.results.toList = [.tmp 8] by kernel_rfl) rfl ((F63_eq la ll lc cat least most g R).mpr hF)

/- 64 pilaster/syntax.parts -/
noncomputable def c64 : Code := match Tryd.f64.body with
  | some c => c
  | none => .skip
noncomputable def cfg64 : Cfg := ⟨Tryd.prog, TT, FNS, [2], [(2, 2), (7, 2), (21, 2)], [], TCH, false, false⟩
def an64 : AnnG := (.seq .leaf (.seq (.seq .leaf (.cond (.seq .leaf .leaf) .leaf)) (.seq (.seq .leaf (.blk (.loop ⟨[(15, .int .i64)], [], []⟩ (.seq .leaf (.seq (.cond .leaf .leaf) (.seq (.blk (.seq .leaf (.seq .leaf (.cond (.seq .leaf .leaf) .leaf)))) .leaf)))))) (.seq .leaf .leaf))))
def F64 (t0 : Int) (t1 : Int) (t2 : ByteArray) (t3a : Option Addr) (t3l : Nat) (t3c : Nat) (t4a : Option Addr) (t4l : Nat) (t4c : Nat) (catsa : Option Addr) (catsl : Nat) (catsc : Nat) (g : G) (R : Value → G → Prop) : Prop :=
  ifB (!eqI ((t4l : Nat) : Int) ((catsl : Nat) : Int))
  (∀ g1 : G, Ex g g1 →
  R (.bool false) g1)
  (∃ Inv : Nat → Int → G → Prop, (∀ g2 : G, Ex g g2 →
  (∃ m0 : Nat, Inv m0 (0 : Int) g2)) ∧
  ∀ m : Nat, ∀ v_1 : Int, ∀ g3 : G, Le g g3 → Inv m v_1 g3 →
  ifB (ltI v_1 ((catsl : Nat) : Int))
  ((0 ≤ v_1 ∧ v_1 < ((catsl : Nat) : Int)) ∧ derefP catsa fun ad => ∃ cat : Int, g3.w.cell? (Addr.add ad (Int.toNat v_1 * 1)) = some (.int .i64 cat) ∧ (0 ≤ v_1 ∧ v_1 < ((t4l : Nat) : Int)) ∧ derefP t4a fun ad_1 => ∃ x0 : Int, ∃ x1 : Int, ∃ x2 : ByteArray, ∃ x3a : Option Addr, ∃ x3l : Nat, ∃ x3c : Nat, ∃ x4a : Option Addr, ∃ x4l : Nat, ∃ x4c : Nat, g3.w.cell? (Addr.add ad_1 (Int.toNat v_1 * 5)) = some (.int .i64 x0) ∧ g3.w.cell? (Addr.add (Addr.add ad_1 (Int.toNat v_1 * 5)) 1) = some (.int .i64 x1) ∧ g3.w.cell? (Addr.add (Addr.add ad_1 (Int.toNat v_1 * 5)) 2) = some (.string x2) ∧ g3.w.cell? (Addr.add (Addr.add ad_1 (Int.toNat v_1 * 5)) 3) = some (.slice x3a x3l x3c) ∧ g3.w.cell? (Addr.add (Addr.add ad_1 (Int.toNat v_1 * 5)) 4) = some (.slice x4a x4l x4c) ∧ (CallsP Tryd.prog 31 #[(.int .i64 cat), (.agg ⟨[(.int .i64 x0), (.int .i64 x1), (.string x2), (.slice x3a x3l x3c), (.slice x4a x4l x4c)]⟩)] g3 fun v g4 =>
  ∃ x : Bool, v = (.bool x) ∧ ifB (!x)
  (∀ g5 : G, Ex g4 g5 →
  R (.bool false) g5)
  (InI64 (v_1 + (1 : Int)) ∧ (∃ m_1 : Nat, m_1 < m ∧ Inv m_1 (v_1 + (1 : Int)) g4))))
  (∀ g6 : G, Ex g3 g6 →
  R (.bool true) g6))
theorem F64_eq (t0 : Int) (t1 : Int) (t2 : ByteArray) (t3a : Option Addr) (t3l : Nat) (t3c : Nat) (t4a : Option Addr) (t4l : Nat) (t4c : Nat) (catsa : Option Addr) (catsl : Nat) (catsc : Nat) (g : G) (R : Value → G → Prop) : fnG cfg64 29 [.tmp 4] c64 an64 [(.agg ⟨[(.int .i64 t0), (.int .i64 t1), (.string t2), (.slice t3a t3l t3c), (.slice t4a t4l t4c)]⟩), (.slice catsa catsl catsc)] g nobody R = F64 t0 t1 t2 t3a t3l t3c t4a t4l t4c catsa catsl catsc g R := by kernel_rfl
theorem call64 (t0 : Int) (t1 : Int) (t2 : ByteArray) (t3a : Option Addr) (t3l : Nat) (t3c : Nat) (t4a : Option Addr) (t4l : Nat) (t4c : Nat) (catsa : Option Addr) (catsl : Nat) (catsc : Nat) (g : G) (R : Value → G → Prop) (hF : F64 t0 t1 t2 t3a t3l t3c t4a t4l t4c catsa catsl catsc g R) : CallsG Tryd.prog 64 #[(.agg ⟨[(.int .i64 t0), (.int .i64 t1), (.string t2), (.slice t3a t3l t3c), (.slice t4a t4l t4c)]⟩), (.slice catsa catsl catsc)] g nobody R :=
  fn_soundG (c := cfg64) TTok FNSok mixed Tryd.func64 (show Tryd.f64.body = some c64 by kernel_rfl) (show Tryd.f64.ntmps = 29 by kernel_rfl) (show Tryd.f64.results.toList = [.tmp 4] by kernel_rfl) rfl ((F64_eq t0 t1 t2 t3a t3l t3c t4a t4l t4c catsa catsl catsc g R).mpr hF)

/- 65 pilaster/syntax.only -/
noncomputable def c65 : Code := match Tryd.f65.body with
  | some c => c
  | none => .skip
noncomputable def cfg65 : Cfg := ⟨Tryd.prog, TT, FNS, [], [], [3], TCH, false, false⟩
def an65 : AnnG := (.seq .leaf (.seq .leaf .leaf))
def F65 (la : Option Addr) (ll : Nat) (lc : Nat) (opsa : Option Addr) (opsl : Nat) (opsc : Nat) (g : G) (R : Value → G → Prop) : Prop :=
  ∀ g1 : G, NewL g g1 41 ([(.slice opsa opsl opsc)] : List Value) →
  ∃ M1 : Nat → Prop, (∀ b, b < g.w.heap.size → M1 b → nobody b) ∧ (CallsG Tryd.prog 37 #[(.slice la ll lc), (.func (.func 74) #[] ⟨[(.pointer (some ⟨g.w.heap.size, 0, none⟩))]⟩)] g1 M1 fun v g2 =>
  ∃ x : Bool, v = (.bool x) ∧ ∀ g3 : G, Ex g2 g3 →
  R (.bool (!x)) g3)
theorem F65_eq (la : Option Addr) (ll : Nat) (lc : Nat) (opsa : Option Addr) (opsl : Nat) (opsc : Nat) (g : G) (R : Value → G → Prop) : fnG cfg65 9 [.tmp 4] c65 an65 [(.slice la ll lc), (.slice opsa opsl opsc)] g nobody R = F65 la ll lc opsa opsl opsc g R := by kernel_rfl
theorem call65 (la : Option Addr) (ll : Nat) (lc : Nat) (opsa : Option Addr) (opsl : Nat) (opsc : Nat) (g : G) (R : Value → G → Prop) (hF : F65 la ll lc opsa opsl opsc g R) : CallsG Tryd.prog 65 #[(.slice la ll lc), (.slice opsa opsl opsc)] g nobody R :=
  fn_soundG (c := cfg65) TTok FNSok mixed Tryd.func65 (show Tryd.f65.body = some c65 by kernel_rfl) (show Tryd.f65.ntmps = 9 by kernel_rfl) (show Tryd.f65.results.toList = [.tmp 4] by kernel_rfl) rfl ((F65_eq la ll lc opsa opsl opsc g R).mpr hF)

/- 66 pilaster/syntax.differ -/
noncomputable def c66 : Code := match Tryd.f66.body with
  | some c => c
  | none => .skip
noncomputable def cfg66 : Cfg := ⟨Tryd.prog, TT, FNS, [], [], [4], TCH, false, false⟩
def an66 : AnnG := (.seq .leaf (.seq (.seq .leaf (.blk (.loop ⟨[(7, .int .i64)], [], []⟩ (.seq .leaf (.seq (.cond .leaf .leaf) (.seq (.blk (.seq .leaf (.seq .leaf (.cond (.seq .leaf .leaf) .leaf)))) .leaf)))))) (.seq .leaf .leaf)))
def F66 (la : Option Addr) (ll : Nat) (lc : Nat) (g : G) (R : Value → G → Prop) : Prop :=
  ∃ Inv : Nat → Int → G → Prop, ((∃ m0 : Nat, Inv m0 (0 : Int) g)) ∧
  ∀ m : Nat, ∀ v_1 : Int, ∀ g1 : G, Le g g1 → Inv m v_1 g1 →
  ifB (ltI v_1 ((ll : Nat) : Int))
  ((0 ≤ v_1 ∧ v_1 < ((ll : Nat) : Int)) ∧ derefP la fun ad => ∃ x0 : Int, ∃ x1 : Int, ∃ x2 : ByteArray, ∃ x3a : Option Addr, ∃ x3l : Nat, ∃ x3c : Nat, ∃ x4a : Option Addr, ∃ x4l : Nat, ∃ x4c : Nat, g1.w.cell? (Addr.add ad (Int.toNat v_1 * 5)) = some (.int .i64 x0) ∧ g1.w.cell? (Addr.add (Addr.add ad (Int.toNat v_1 * 5)) 1) = some (.int .i64 x1) ∧ g1.w.cell? (Addr.add (Addr.add ad (Int.toNat v_1 * 5)) 2) = some (.string x2) ∧ g1.w.cell? (Addr.add (Addr.add ad (Int.toNat v_1 * 5)) 3) = some (.slice x3a x3l x3c) ∧ g1.w.cell? (Addr.add (Addr.add ad (Int.toNat v_1 * 5)) 4) = some (.slice x4a x4l x4c) ∧ ∀ g2 : G, NewD g1 g2 25 [(.int .i64 (0 : Int)), (.int .i64 (0 : Int)), (.string (bs [])), (.slice none 0 0), (.slice none 0 0)] →
  stOk g2.w ⟨g1.w.heap.size, 0, none⟩ 5 ∧ ¬ g2.X (Addr.block ⟨g1.w.heap.size, 0, none⟩) ∧ mutAt g2 ⟨g1.w.heap.size, 0, none⟩ 5 ∧ ((Addr.block ⟨g1.w.heap.size, 0, none⟩) < g.w.heap.size → nobody (Addr.block ⟨g1.w.heap.size, 0, none⟩)) ∧ ∀ g3 : G, StG true g2 ⟨g1.w.heap.size, 0, none⟩ [(.int .i64 x0), (.int .i64 x1), (.string x2), (.slice x3a x3l x3c), (.slice x4a x4l x4c)] g3 →
  (0 ≤ v_1 ∧ v_1 ≤ ((lc : Nat) : Int)) ∧ ∃ M1 : Nat → Prop, (∀ b, b < g.w.heap.size → M1 b → nobody b) ∧ (CallsG Tryd.prog 37 #[(.slice (slAddr la lc 0 5) ((Int.toNat v_1) - 0) (lc - 0)), (.func (.func 76) #[] ⟨[(.pointer (some ⟨g1.w.heap.size, 0, none⟩))]⟩)] g3 M1 fun v g4 =>
  ∃ x : Bool, v = (.bool x) ∧ ifB x
  (∀ g5 : G, Ex g4 g5 →
  R (.bool false) g5)
  (InI64 (v_1 + (1 : Int)) ∧ (∃ m_1 : Nat, m_1 < m ∧ Inv m_1 (v_1 + (1 : Int)) g4))))
  (∀ g6 : G, Ex g1 g6 →
  R (.bool true) g6)
theorem F66_eq (la : Option Addr) (ll : Nat) (lc : Nat) (g : G) (R : Value → G → Prop) : fnG cfg66 18 [.tmp 2] c66 an66 [(.slice la ll lc)] g nobody R = F66 la ll lc g R := by kernel_rfl
theorem call66 (la : Option Addr) (ll : Nat) (lc : Nat) (g : G) (R : Value → G → Prop) (hF : F66 la ll lc g R) : CallsG Tryd.prog 66 #[(.slice la ll lc)] g nobody R :=
  fn_soundG (c := cfg66) TTok FNSok mixed Tryd.func66 (show Tryd.f66.body = some c66 by kernel_rfl) (show Tryd.f66.ntmps = 18 by kernel_rfl) (show Tryd.f66.results.toList = [.tmp 2] by kernel_rfl) rfl ((F66_eq la ll lc g R).mpr hF)

/- 67 pilaster/pilasterref03.form -/
noncomputable def c67 : Code := match Tryd.f67.body with
  | some c => c
  | none => .skip
noncomputable def cfg67 : Cfg := ⟨Tryd.prog, TT, FNS, [2], [(2, 2), (6, 2), (9, 2), (13, 2), (30, 2), (39, 2)], [], TCH, false, false⟩
def an67 : AnnG := (.seq .leaf (.seq .leaf (.join ⟨[], [], []⟩ (.seq .leaf (.cond (.seq .leaf .leaf) .leaf)) (.seq (.seq .leaf (.cond (.seq .leaf .leaf) .leaf)) (.seq (.seq .leaf (.cond (.seq .leaf .leaf) .leaf)) (.join ⟨[], [], []⟩ (.seq .leaf (.cond (.seq .leaf .leaf) .leaf)) (.join ⟨[], [], []⟩ (.seq .leaf (.cond (.seq .leaf .leaf) .leaf)) (.join ⟨[], [], []⟩ (.seq .leaf (.cond (.seq .leaf .leaf) .leaf)) (.seq .leaf .leaf)))))))))
def F67 (t0 : Int) (t1 : Int) (t2 : ByteArray) (t3a : Option Addr) (t3l : Nat) (t3c : Nat) (t4a : Option Addr) (t4l : Nat) (t4c : Nat) (anonymous : Bool) (g : G) (R : Value → G → Prop) : Prop :=
  ∀ g1 : G, Ex g g1 →
  (CallsP Tryd.prog 14 #[(.int .i64 t0)] g1 fun v g2 =>
  ∃ c : Int, v = (.int .i64 c) ∧ ∀ J : G → Prop,
  (∀ g3 : G, (ifB (eqI c (1 : Int))
  ((CallsP Tryd.prog 77 #[(.agg ⟨[(.int .i64 t0), (.int .i64 t1), (.string t2), (.slice t3a t3l t3c), (.slice t4a t4l t4c)]⟩)] g3 fun v g4 =>
  ∃ x : Bool, v = (.bool x) ∧ ∀ g5 : G, Ex g4 g5 →
  R (.bool x) g5))
  (ifB (eqI c (2 : Int))
  ((CallsP Tryd.prog 78 #[(.agg ⟨[(.int .i64 t0), (.int .i64 t1), (.string t2), (.slice t3a t3l t3c), (.slice t4a t4l t4c)]⟩)] g3 fun v g6 =>
  ∃ x_1 : Bool, v = (.bool x_1) ∧ ∀ g7 : G, Ex g6 g7 →
  R (.bool x_1) g7))
  (∀ J_1 : G → Prop,
  (∀ g8 : G, (∀ J_2 : G → Prop,
  (∀ g9 : G, (∀ J_3 : G → Prop,
  (∀ g10 : G, (ifB (eqI c (7 : Int))
  ((CallsP Tryd.prog 82 #[(.agg ⟨[(.int .i64 t0), (.int .i64 t1), (.string t2), (.slice t3a t3l t3c), (.slice t4a t4l t4c)]⟩)] g10 fun v g11 =>
  ∃ x_2 : Bool, v = (.bool x_2) ∧ ∀ g12 : G, Ex g11 g12 →
  R (.bool x_2) g12))
  (∀ g13 : G, Ex g10 g13 →
  R (.bool false) g13)) → J_3 g10) →
  ifB (eqI c (5 : Int))
  ((CallsP Tryd.prog 81 #[(.agg ⟨[(.int .i64 t0), (.int .i64 t1), (.string t2), (.slice t3a t3l t3c), (.slice t4a t4l t4c)]⟩)] g9 fun v g14 =>
  ∃ x_3 : Bool, v = (.bool x_3) ∧ ∀ g15 : G, Ex g14 g15 →
  R (.bool x_3) g15))
  (ifB (eqI c (6 : Int))
  ((CallsP Tryd.prog 81 #[(.agg ⟨[(.int .i64 t0), (.int .i64 t1), (.string t2), (.slice t3a t3l t3c), (.slice t4a t4l t4c)]⟩)] g9 fun v g16 =>
  ∃ x_4 : Bool, v = (.bool x_4) ∧ ∀ g17 : G, Ex g16 g17 →
  R (.bool x_4) g17))
  (J_3 g9))) → J_2 g9) →
  ifB (eqI c (4 : Int))
  ((CallsP Tryd.prog 80 #[(.agg ⟨[(.int .i64 t0), (.int .i64 t1), (.string t2), (.slice t3a t3l t3c), (.slice t4a t4l t4c)]⟩)] g8 fun v g18 =>
  ∃ x_5 : Bool, v = (.bool x_5) ∧ ∀ g19 : G, Ex g18 g19 →
  R (.bool x_5) g19))
  (ifB (eqI t0 (45 : Int))
  ((CallsP Tryd.prog 80 #[(.agg ⟨[(.int .i64 t0), (.int .i64 t1), (.string t2), (.slice t3a t3l t3c), (.slice t4a t4l t4c)]⟩)] g8 fun v g20 =>
  ∃ x_6 : Bool, v = (.bool x_6) ∧ ∀ g21 : G, Ex g20 g21 →
  R (.bool x_6) g21))
  (J_2 g8))) → J_1 g8) →
  ifB (eqI c (3 : Int))
  ((CallsP Tryd.prog 79 #[(.agg ⟨[(.int .i64 t0), (.int .i64 t1), (.string t2), (.slice t3a t3l t3c), (.slice t4a t4l t4c)]⟩)] g3 fun v g22 =>
  ∃ x_7 : Bool, v = (.bool x_7) ∧ ∀ g23 : G, Ex g22 g23 →
  R (.bool x_7) g23))
  (ifB (eqI t0 (30 : Int))
  ((CallsP Tryd.prog 79 #[(.agg ⟨[(.int .i64 t0), (.int .i64 t1), (.string t2), (.slice t3a t3l t3c), (.slice t4a t4l t4c)]⟩)] g3 fun v g24 =>
  ∃ x_8 : Bool, v = (.bool x_8) ∧ ∀ g25 : G, Ex g24 g25 →
  R (.bool x_8) g25))
  (J_1 g3))))) → J g3) →
  ifB (eqI t0 (43 : Int))
  (ifB (!((strEq t2 (bs [])) == anonymous))
  (∀ g26 : G, Ex g2 g26 →
  R (.bool false) g26)
  (J g2))
  (J g2))
theorem F67_eq (t0 : Int) (t1 : Int) (t2 : ByteArray) (t3a : Option Addr) (t3l : Nat) (t3c : Nat) (t4a : Option Addr) (t4l : Nat) (t4c : Nat) (anonymous : Bool) (g : G) (R : Value → G → Prop) : fnG cfg67 59 [.tmp 4] c67 an67 [(.agg ⟨[(.int .i64 t0), (.int .i64 t1), (.string t2), (.slice t3a t3l t3c), (.slice t4a t4l t4c)]⟩), (.bool anonymous)] g nobody R = F67 t0 t1 t2 t3a t3l t3c t4a t4l t4c anonymous g R := by kernel_rfl
theorem call67 (t0 : Int) (t1 : Int) (t2 : ByteArray) (t3a : Option Addr) (t3l : Nat) (t3c : Nat) (t4a : Option Addr) (t4l : Nat) (t4c : Nat) (anonymous : Bool) (g : G) (R : Value → G → Prop) (hF : F67 t0 t1 t2 t3a t3l t3c t4a t4l t4c anonymous g R) : CallsG Tryd.prog 67 #[(.agg ⟨[(.int .i64 t0), (.int .i64 t1), (.string t2), (.slice t3a t3l t3c), (.slice t4a t4l t4c)]⟩), (.bool anonymous)] g nobody R :=
  fn_soundG (c := cfg67) TTok FNSok mixed Tryd.func67 (show Tryd.f67.body = some c67 by kernel_rfl) (show Tryd.f67.ntmps = 59 by kernel_rfl) (show Tryd.f67.results.toList = [.tmp 4] by kernel_rfl) rfl ((F67_eq t0 t1 t2 t3a t3l t3c t4a t4l t4c anonymous g R).mpr hF)

/- 68 strings.CutPrefix -/
noncomputable def c68 : Code := match Tryd.f68.body with
  | some c => c
  | none => .skip
noncomputable def cfg68 : Cfg := ⟨Tryd.prog, TT, FNS, [], [], [], TCH, false, false⟩
def an68 : AnnG := (.seq .leaf (.seq .leaf .leaf))
def F68 (s : ByteArray) (prefix0 : ByteArray) (g : G) (R : Value → G → Prop) : Prop :=
  (CallsP Tryd.prog 83 #[(.string s), (.string prefix0)] g fun v g1 =>
  ∃ x0 : ByteArray, ∃ x1 : Bool, v = (.tuple ⟨[(.string x0), (.bool x1)]⟩) ∧ ∀ g2 : G, Ex g1 g2 →
  R (.tuple ⟨[(.string x0), (.bool x1)]⟩) g2)
theorem F68_eq (s : ByteArray) (prefix0 : ByteArray) (g : G) (R : Value → G → Prop) : fnG cfg68 11 [.tmp 4, .tmp 5] c68 an68 [(.string s), (.string prefix0)] g nobody R = F68 s prefix0 g R := by kernel_rfl
theorem call68 (s : ByteArray) (prefix0 : ByteArray) (g : G) (R : Value → G → Prop) (hF : F68 s prefix0 g R) : CallsG Tryd.prog 68 #[(.string s), (.string prefix0)] g nobody R :=
  fn_soundG (c := cfg68) TTok FNSok mixed Tryd.func68 (show Tryd.f68.body = some c68 by kernel_rfl) (show Tryd.f68.ntmps = 11 by kernel_rfl) (show Tryd.f68.results.toList = [.tmp 4, .tmp 5] by kernel_rfl) rfl ((F68_eq s prefix0 g R).mpr hF)

/- 69 pilaster/ident.name -/
noncomputable def c69 : Code := match Tryd.f69.body with
  | some c => c
  | none => .skip
noncomputable def cfg69 : Cfg := ⟨Tryd.prog, TT, FNS, [], [], [], TCH, false, false⟩
def an69 : AnnG := (.seq .leaf (.join ⟨[], [], []⟩ (.seq .leaf (.cond (.seq .leaf .leaf) .leaf)) (.seq (.seq .leaf (.blk (.loop ⟨[(25, .int .i64)], [], []⟩ (.seq .leaf (.seq (.cond .leaf .leaf) (.seq (.blk (.seq .leaf (.seq .leaf (.seq .leaf (.cond (.seq .leaf .leaf) .leaf))))) .leaf)))))) (.seq .leaf .leaf))))
def F69 (s : ByteArray) (first : Int) (g : G) (R : Value → G → Prop) : Prop :=
  ∀ J : G → Prop,
  (∀ g1 : G, (∃ xa : Option Addr, ∃ xl : Nat, ∃ xc : Nat, ∃ wo1 : World, Sem.run Tryd.prog (convert 9 82 (.string s)) g1.w = .ok (.slice xa xl xc) wo1 ∧ ∃ g2 : G, g2.w = wo1 ∧ Stp g.w.heap.size nobody g1 g2 ∧ ∃ Inv : Nat → Int → G → Prop, ((∃ m0 : Nat, Inv m0 (0 : Int) g2)) ∧
  ∀ m : Nat, ∀ v_1 : Int, ∀ g3 : G, Le g2 g3 → Inv m v_1 g3 →
  ifB (ltI v_1 ((xl : Nat) : Int))
  ((0 ≤ v_1 ∧ v_1 < ((xl : Nat) : Int)) ∧ derefP xa fun ad => ∃ c : Int, g3.w.cell? (Addr.add ad (Int.toNat v_1 * 1)) = some (.int .u8 c) ∧ (CallsP Tryd.prog 84 #[(.int .u8 c)] g3 fun v g4 =>
  ∃ k : Int, v = (.int .i64 k) ∧ ifB (eqI k (0 : Int))
  (∀ g5 : G, Ex g4 g5 →
  R (.bool false) g5)
  (ifB (eqI k (5 : Int))
  (∀ g6 : G, Ex g4 g6 →
  R (.bool false) g6)
  (InI64 (v_1 + (1 : Int)) ∧ (∃ m_1 : Nat, m_1 < m ∧ Inv m_1 (v_1 + (1 : Int)) g4)))))
  (∀ g7 : G, Ex g3 g7 →
  R (.bool true) g7)) → J g1) →
  ifB (strEq s (bs []))
  (∀ g8 : G, Ex g g8 →
  R (.bool false) g8)
  (ifB (ltI (24 : Int) ((s.size : Nat) : Int))
  (∀ g9 : G, Ex g g9 →
  R (.bool false) g9)
  (∃ b : UInt8, (0 ≤ (0 : Int) ∧ s[Int.toNat (0 : Int)]? = some b) ∧ (CallsP Tryd.prog 84 #[(.int .u8 ((b.toNat : Nat) : Int))] g fun v g10 =>
  ∃ x : Int, v = (.int .i64 x) ∧ ifB (!eqI x first)
  (∀ g11 : G, Ex g10 g11 →
  R (.bool false) g11)
  (J g10))))
theorem F69_eq (s : ByteArray) (first : Int) (g : G) (R : Value → G → Prop) : fnG cfg69 38 [.tmp 4] c69 an69 [(.string s), (.int .i64 first)] g nobody R = F69 s first g R := by kernel_rfl
theorem call69 (s : ByteArray) (first : Int) (g : G) (R : Value → G → Prop) (hF : F69 s first g R) : CallsG Tryd.prog 69 #[(.string s), (.int .i64 first)] g nobody R :=
  fn_soundG (c := cfg69) TTok FNSok mixed Tryd.func69 (show Tryd.f69.body = some c69 by kernel_rfl) (show Tryd.f69.ntmps = 38 by kernel_rfl) (show Tryd.f69.results.toList = [.tmp 4] by kernel_rfl) rfl ((F69_eq s first g R).mpr hF)
end Go.Proofs.YtmakoecgogjemaaDoor
