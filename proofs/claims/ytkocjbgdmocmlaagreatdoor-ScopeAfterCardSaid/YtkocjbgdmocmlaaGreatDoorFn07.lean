/- Printed by a program (wip/tools/gen2.py): for each function its condition as a plain formula, and that the formula gives the call. -/
import Derived.Test.YtkocjbgdmocmlaaGreatDoorProg
import Derived.Test.YtkocjbgdmocmlaaGreatDoorVda
namespace Go.Proofs.YtkocjbgdmocmlaaGreatDoor
open Go Go.Vc Go.RowKit
set_option maxRecDepth 100000
set_option linter.unusedVariables false
def TT : List TI := [
  ⟨0, .tuple #[], 1, 0, some (.tuple ⟨[]⟩), (.tup [])⟩,
  ⟨3, .int .i64, 1, 8, some (.int .i64 (0 : Int)), (.e (.one (.int .i64)))⟩,
  ⟨4, .bool, 1, 1, some (.bool false), (.e (.one (.bool)))⟩,
  ⟨5, .int .u8, 1, 1, some (.int .u8 (0 : Int)), (.e (.one (.int .u8)))⟩,
  ⟨9, .string, 1, 16, some (.string (bs [])), (.e (.one (.str)))⟩,
  ⟨22, .slice 9, 1, 24, some (.slice none 0 0), (.e (.one (.sl)))⟩,
  ⟨23, .slice 25, 1, 24, some (.slice none 0 0), (.e (.one (.sl)))⟩,
  ⟨25, .struct #[{ name := "Op", type := 3, offset := 0, embedded := false, tag := "", pkgPath := "", byteOffset := 0 }, { name := "N", type := 3, offset := 1, embedded := false, tag := "", pkgPath := "", byteOffset := 8 }, { name := "S", type := 9, offset := 2, embedded := false, tag := "", pkgPath := "", byteOffset := 16 }, { name := "Names", type := 22, offset := 3, embedded := false, tag := "", pkgPath := "", byteOffset := 32 }, { name := "L", type := 23, offset := 4, embedded := false, tag := "", pkgPath := "", byteOffset := 56 }], 5, 80, some (.agg ⟨[(.int .i64 (0 : Int)), (.int .i64 (0 : Int)), (.string (bs [])), (.slice none 0 0), (.slice none 0 0)]⟩), (.e (.agg [(.int .i64), (.int .i64), (.str), (.sl), (.sl)]))⟩,
  ⟨28, .int .i64, 1, 8, some (.int .i64 (0 : Int)), (.e (.one (.int .i64)))⟩,
  ⟨29, .tuple #[22, 28], 1, 0, some (.tuple ⟨[(.slice none 0 0), (.int .i64 (0 : Int))]⟩), (.tup [(.one (.sl)), (.one (.int .i64))])⟩,
  ⟨36, .func #[9] #[4] false, 1, 8, some .nilFunc, (.e (.one (.fn)))⟩,
  ⟨43, .slice 46, 1, 24, some (.slice none 0 0), (.e (.one (.sl)))⟩,
  ⟨46, .struct #[{ name := "Name", type := 9, offset := 0, embedded := false, tag := "", pkgPath := "", byteOffset := 0 }, { name := "Imports", type := 22, offset := 1, embedded := false, tag := "", pkgPath := "", byteOffset := 16 }, { name := "Decls", type := 23, offset := 2, embedded := false, tag := "", pkgPath := "", byteOffset := 40 }], 3, 64, some (.agg ⟨[(.string (bs [])), (.slice none 0 0), (.slice none 0 0)]⟩), (.e (.agg [(.str), (.sl), (.sl)]))⟩,
  ⟨47, .func #[46] #[4] false, 1, 8, some .nilFunc, (.e (.one (.fn)))⟩,
  ⟨53, .func #[25] #[4] false, 1, 8, some .nilFunc, (.e (.one (.fn)))⟩,
  ⟨72, .pointer 3, 1, 8, some (.pointer none), (.e (.one (.ptr)))⟩,
  ⟨87, .func #[36] #[] false, 1, 8, some .nilFunc, (.e (.one (.fn)))⟩,
  ⟨97, .pointer 100, 1, 8, some (.pointer none), (.e (.one (.ptr)))⟩,
  ⟨98, .map 9 4, 1, 8, some (.map none), (.e (.one (.map)))⟩,
  ⟨100, .struct #[{ name := "free", type := 98, offset := 0, embedded := false, tag := "", pkgPath := "pilaster/scope", byteOffset := 0 }], 1, 8, some (.agg ⟨[(.map none)]⟩), (.e (.agg [(.map)]))⟩,
  ⟨109, .tuple #[3, 4], 1, 0, some (.tuple ⟨[(.int .i64 (0 : Int)), (.bool false)]⟩), (.tup [(.one (.int .i64)), (.one (.bool))])⟩,
  ⟨118, .tuple #[9, 28], 1, 0, some (.tuple ⟨[(.string (bs [])), (.int .i64 (0 : Int))]⟩), (.tup [(.one (.str)), (.one (.int .i64))])⟩,
  ⟨121, .func #[25, 3, 4] #[4] false, 1, 8, some .nilFunc, (.e (.one (.fn)))⟩,
  ⟨122, .tuple #[9, 4], 1, 0, some (.tuple ⟨[(.string (bs [])), (.bool false)]⟩), (.tup [(.one (.str)), (.one (.bool))])⟩,
  ⟨131, .int .i64, 1, 8, some (.int .i64 (0 : Int)), (.e (.one (.int .i64)))⟩,
  ⟨136, .struct #[{ name := "n", type := 4, offset := 0, embedded := false, tag := "", pkgPath := "pilaster/syntax", byteOffset := 0 }, { name := "s", type := 4, offset := 1, embedded := false, tag := "", pkgPath := "pilaster/syntax", byteOffset := 1 }, { name := "names", type := 4, offset := 2, embedded := false, tag := "", pkgPath := "pilaster/syntax", byteOffset := 2 }], 3, 3, some (.agg ⟨[(.bool false), (.bool false), (.bool false)]⟩), (.e (.agg [(.bool), (.bool), (.bool)]))⟩,
  ⟨148, .slice 5, 1, 24, some (.slice none 0 0), (.e (.one (.sl)))⟩,
  ⟨150, .slice 3, 1, 24, some (.slice none 0 0), (.e (.one (.sl)))⟩]
theorem TTok : TOk Tryz.prog TT := tok_of (by kernel_rfl)
def FNS : List Nat := [12, 13, 19, 21, 23, 28, 30, 33, 35, 45, 55, 57, 58, 59, 60, 61, 63, 67, 68, 69, 70, 73, 74, 79, 81, 82, 83, 84, 88, 89, 92, 95, 96, 97, 98, 111, 114, 116, 117, 118, 119, 120, 121, 122, 123, 125, 126, 128, 136, 138, 139, 140, 141, 142, 143, 144, 145, 146, 148, 149, 150, 151, 152, 155, 156, 157, 158, 159, 160, 161, 162, 163, 165, 168, 170, 171, 172, 173, 174, 175, 176, 177, 178, 179, 180, 181, 182, 183, 184, 185, 186, 189]
theorem FNSok : FOk Tryz.prog FNS := fok_of (by kernel_rfl)
theorem mixed : Tryz.prog.follows .mixedOrders = true := by kernel_rfl
def TCH : List Nat := [31, 55, 56, 57, 92, 93, 94, 97, 124, 127]

/- 11 pilaster/pilasterlaw07.awake -/
noncomputable def c11 : Code := match Tryz.f11.body with
  | some c => c
  | none => .skip
noncomputable def cfg11 : Cfg := ⟨Tryz.prog, TT, FNS, [3, 6], [(3, 3), (6, 6)], [], TCH, false, false⟩
def an11 : AnnG := (.seq .leaf (.seq .leaf (.seq .leaf (.seq .leaf (.seq .leaf (.seq .leaf (.seq .leaf (.seq .leaf .leaf))))))))
def F11 (g : G) (R : Value → G → Prop) : Prop :=
  ∀ g1 : G, NewL g g1 9 [(.string (bs [120]))] →
  Enters Tryz.prog 53 ∧ (CallsP Tryz.prog 53 ((⟨[(.slice (some ⟨g.w.heap.size, 0, none⟩) 1 1)]⟩ : Array Value) ++ #[]) g1 fun v g2 =>
  ∃ x0 : Int, ∃ x1 : Int, ∃ x2 : ByteArray, ∃ x3a : Option Addr, ∃ x3l : Nat, ∃ x3c : Nat, ∃ x4a : Option Addr, ∃ x4l : Nat, ∃ x4c : Nat, v = (.agg ⟨[(.int .i64 x0), (.int .i64 x1), (.string x2), (.slice x3a x3l x3c), (.slice x4a x4l x4c)]⟩) ∧ ∀ g3 : G, NewL g2 g3 25 [(.int .i64 x0), (.int .i64 x1), (.string x2), (.slice x3a x3l x3c), (.slice x4a x4l x4c)] →
  ∀ g4 : G, NewL g3 g4 9 [(.string (bs [77])), (.string (bs [102]))] →
  Enters Tryz.prog 53 ∧ (CallsP Tryz.prog 53 ((⟨[(.slice (some ⟨g3.w.heap.size, 0, none⟩) 2 2)]⟩ : Array Value) ++ #[]) g4 fun v g5 =>
  ∃ x0_1 : Int, ∃ x1_1 : Int, ∃ x2_1 : ByteArray, ∃ x3a_1 : Option Addr, ∃ x3l_1 : Nat, ∃ x3c_1 : Nat, ∃ x4a_1 : Option Addr, ∃ x4l_1 : Nat, ∃ x4c_1 : Nat, v = (.agg ⟨[(.int .i64 x0_1), (.int .i64 x1_1), (.string x2_1), (.slice x3a_1 x3l_1 x3c_1), (.slice x4a_1 x4l_1 x4c_1)]⟩) ∧ ∀ g6 : G, NewL g5 g6 9 [(.string (bs [122]))] →
  Enters Tryz.prog 53 ∧ (CallsP Tryz.prog 53 ((⟨[(.slice (some ⟨g5.w.heap.size, 0, none⟩) 1 1)]⟩ : Array Value) ++ #[]) g6 fun v g7 =>
  ∃ x0_2 : Int, ∃ x1_2 : Int, ∃ x2_2 : ByteArray, ∃ x3a_2 : Option Addr, ∃ x3l_2 : Nat, ∃ x3c_2 : Nat, ∃ x4a_2 : Option Addr, ∃ x4l_2 : Nat, ∃ x4c_2 : Nat, v = (.agg ⟨[(.int .i64 x0_2), (.int .i64 x1_2), (.string x2_2), (.slice x3a_2 x3l_2 x3c_2), (.slice x4a_2 x4l_2 x4c_2)]⟩) ∧ Enters Tryz.prog 54 ∧ (CallsP Tryz.prog 54 ((⟨[(.agg ⟨[(.int .i64 x0_1), (.int .i64 x1_1), (.string x2_1), (.slice x3a_1 x3l_1 x3c_1), (.slice x4a_1 x4l_1 x4c_1)]⟩), (.agg ⟨[(.int .i64 x0_2), (.int .i64 x1_2), (.string x2_2), (.slice x3a_2 x3l_2 x3c_2), (.slice x4a_2 x4l_2 x4c_2)]⟩)]⟩ : Array Value) ++ #[]) g7 fun v g8 =>
  ∃ x0_3 : Int, ∃ x1_3 : Int, ∃ x2_3 : ByteArray, ∃ x3a_3 : Option Addr, ∃ x3l_3 : Nat, ∃ x3c_3 : Nat, ∃ x4a_3 : Option Addr, ∃ x4l_3 : Nat, ∃ x4c_3 : Nat, v = (.agg ⟨[(.int .i64 x0_3), (.int .i64 x1_3), (.string x2_3), (.slice x3a_3 x3l_3 x3c_3), (.slice x4a_3 x4l_3 x4c_3)]⟩) ∧ ∀ g9 : G, NewL g8 g9 9 [(.string (bs [121]))] →
  Enters Tryz.prog 53 ∧ (CallsP Tryz.prog 53 ((⟨[(.slice (some ⟨g8.w.heap.size, 0, none⟩) 1 1)]⟩ : Array Value) ++ #[]) g9 fun v g10 =>
  ∃ x0_4 : Int, ∃ x1_4 : Int, ∃ x2_4 : ByteArray, ∃ x3a_4 : Option Addr, ∃ x3l_4 : Nat, ∃ x3c_4 : Nat, ∃ x4a_4 : Option Addr, ∃ x4l_4 : Nat, ∃ x4c_4 : Nat, v = (.agg ⟨[(.int .i64 x0_4), (.int .i64 x1_4), (.string x2_4), (.slice x3a_4 x3l_4 x3c_4), (.slice x4a_4 x4l_4 x4c_4)]⟩) ∧ Enters Tryz.prog 54 ∧ (CallsP Tryz.prog 54 ((⟨[(.agg ⟨[(.int .i64 x0_3), (.int .i64 x1_3), (.string x2_3), (.slice x3a_3 x3l_3 x3c_3), (.slice x4a_3 x4l_3 x4c_3)]⟩), (.agg ⟨[(.int .i64 x0_4), (.int .i64 x1_4), (.string x2_4), (.slice x3a_4 x3l_4 x3c_4), (.slice x4a_4 x4l_4 x4c_4)]⟩)]⟩ : Array Value) ++ #[]) g10 fun v g11 =>
  ∃ x0_5 : Int, ∃ x1_5 : Int, ∃ x2_5 : ByteArray, ∃ x3a_5 : Option Addr, ∃ x3l_5 : Nat, ∃ x3c_5 : Nat, ∃ x4a_5 : Option Addr, ∃ x4l_5 : Nat, ∃ x4c_5 : Nat, v = (.agg ⟨[(.int .i64 x0_5), (.int .i64 x1_5), (.string x2_5), (.slice x3a_5 x3l_5 x3c_5), (.slice x4a_5 x4l_5 x4c_5)]⟩) ∧ ∀ g12 : G, NewL g11 g12 25 [(.int .i64 x0_5), (.int .i64 x1_5), (.string x2_5), (.slice x3a_5 x3l_5 x3c_5), (.slice x4a_5 x4l_5 x4c_5)] →
  ∀ g13 : G, NewL g12 g13 25 [(.int .i64 (41 : Int)), (.int .i64 (0 : Int)), (.string (bs [121])), (.slice none 0 0), (.slice (some ⟨g2.w.heap.size, 0, none⟩) 1 1), (.int .i64 (25 : Int)), (.int .i64 (0 : Int)), (.string (bs [122])), (.slice none 0 0), (.slice (some ⟨g11.w.heap.size, 0, none⟩) 1 1)] →
  ∀ g14 : G, Ex g13 g14 →
  (CallsP Tryz.prog 13 #[(.int .i64 (3 : Int)), (.agg ⟨[(.int .i64 (31 : Int)), (.int .i64 (0 : Int)), (.string (bs [])), (.slice none 0 0), (.slice (some ⟨g12.w.heap.size, 0, none⟩) 2 2)]⟩)] g14 fun v g15 =>
  ∃ x0a : Option Addr, ∃ x0l : Nat, ∃ x0c : Nat, ∃ x1_6 : Int, v = (.tuple ⟨[(.slice x0a x0l x0c), (.int .i64 x1_6)]⟩) ∧ ∀ g16 : G, Ex g15 g16 →
  ∀ g17 : G, NewL g16 g17 9 [(.string (bs [65]))] →
  ∀ g18 : G, NewL g17 g18 46 [(.string (bs [66])), (.slice (some ⟨g16.w.heap.size, 0, none⟩) 1 1), (.slice none 0 0), (.string (bs [65])), (.slice none 0 0), (.slice none 0 0)] →
  (CallsP Tryz.prog 28 #[(.slice (some ⟨g17.w.heap.size, 0, none⟩) 2 2)] g18 fun v g19 =>
  ∃ x0a_1 : Option Addr, ∃ x0l_1 : Nat, ∃ x0c_1 : Nat, ∃ x1_7 : Int, v = (.tuple ⟨[(.slice x0a_1 x0l_1 x0c_1), (.int .i64 x1_7)]⟩) ∧ ∀ g20 : G, NewL g19 g20 9 [(.string (bs [109, 111, 100, 46, 77])), (.string (bs [118, 97, 108, 46, 120]))] →
  (CallsP Tryz.prog 21 #[(.slice x0a x0l x0c), (.slice (some ⟨g19.w.heap.size, 0, none⟩) 2 2)] g20 fun v g21 =>
  ∃ x : Bool, v = (.bool x) ∧ ifB x
  (ifB (eqI x1_6 (0 : Int))
  (∀ g22 : G, NewL g21 g22 25 [(.int .i64 (12 : Int)), (.int .i64 (0 : Int)), (.string (bs [120])), (.slice none 0 0), (.slice none 0 0), (.int .i64 (12 : Int)), (.int .i64 (0 : Int)), (.string (bs [120])), (.slice none 0 0), (.slice none 0 0)] →
  (CallsP Tryz.prog 23 #[(.int .i64 (2 : Int)), (.agg ⟨[(.int .i64 (15 : Int)), (.int .i64 (0 : Int)), (.string (bs [])), (.slice none 0 0), (.slice (some ⟨g21.w.heap.size, 0, none⟩) 2 2)]⟩)] g22 fun v g23 =>
  ∃ x_1 : Int, v = (.int .i64 x_1) ∧ ifB (eqI x_1 (9 : Int))
  (∀ g24 : G, NewL g23 g24 9 [(.string (bs [65])), (.string (bs [66]))] →
  (CallsP Tryz.prog 21 #[(.slice x0a_1 x0l_1 x0c_1), (.slice (some ⟨g23.w.heap.size, 0, none⟩) 2 2)] g24 fun v g25 =>
  ∃ x_2 : Bool, v = (.bool x_2) ∧ ifB x_2
  (∀ g26 : G, Ex g25 g26 →
  R (.bool (eqI x1_7 (0 : Int))) g26)
  (∀ g27 : G, Ex g25 g27 →
  R (.bool false) g27)))
  (∀ g28 : G, Ex g23 g28 →
  R (.bool false) g28)))
  (∀ g29 : G, Ex g21 g29 →
  R (.bool false) g29))
  (∀ g30 : G, Ex g21 g30 →
  R (.bool false) g30))))))))))
theorem F11_eq (g : G) (R : Value → G → Prop) : fnG cfg11 69 [.tmp 0] c11 an11 [] g nobody R = F11 g R := by kernel_rfl
theorem call11 (g : G) (R : Value → G → Prop) (hF : F11 g R) : CallsG Tryz.prog 11 #[] g nobody R :=
  fn_soundG (c := cfg11) TTok FNSok mixed Tryz.func11 (show Tryz.f11.body = some c11 by kernel_rfl) (show Tryz.f11.ntmps = 69 by kernel_rfl) (show Tryz.f11.results.toList = [.tmp 0] by kernel_rfl) rfl ((F11_eq g R).mpr hF)

/- 12 pilaster/pilasterlaw07.fits -/
noncomputable def c12 : Code := match Tryz.f12.body with
  | some c => c
  | none => .skip
noncomputable def cfg12 : Cfg := ⟨Tryz.prog, TT, FNS, [], [], [], TCH, true, false⟩
def an12 : AnnG := (.seq .leaf (.seq .leaf (.seq .leaf .leaf)))
def F12 (la : Option Addr) (ll : Nat) (lc : Nat) (g : G) (R : Value → G → Prop) : Prop :=
  ∀ g1 : G, NewD g g1 3 [(.int .i64 (0 : Int))] →
  stOk g1.w ⟨g.w.heap.size, 0, none⟩ 1 ∧ ¬ g1.X (Addr.block ⟨g.w.heap.size, 0, none⟩) ∧ mutAt g1 ⟨g.w.heap.size, 0, none⟩ 1 ∧ ((Addr.block ⟨g.w.heap.size, 0, none⟩) < g.w.heap.size → nobody (Addr.block ⟨g.w.heap.size, 0, none⟩)) ∧ ∀ g2 : G, StG false g1 ⟨g.w.heap.size, 0, none⟩ [(.int .i64 (600 : Int))] g2 →
  ∃ M1 : Nat → Prop, (∀ b, b < g.w.heap.size → M1 b → nobody b) ∧ (CallsG Tryz.prog 55 #[(.slice la ll lc), (.func (.func 56) #[] ⟨[(.pointer (some ⟨g.w.heap.size, 0, none⟩))]⟩)] g2 M1 fun v g3 =>
  ∃ x : Bool, v = (.bool x) ∧ ∀ g4 : G, Ex g3 g4 →
  R (.bool (!x)) g4)
theorem F12_eq (la : Option Addr) (ll : Nat) (lc : Nat) (g : G) (R : Value → G → Prop) : fnG cfg12 8 [.tmp 2] c12 an12 [(.slice la ll lc)] g nobody R = F12 la ll lc g R := by kernel_rfl
theorem call12 (la : Option Addr) (ll : Nat) (lc : Nat) (g : G) (R : Value → G → Prop) (hF : F12 la ll lc g R) : CallsG Tryz.prog 12 #[(.slice la ll lc)] g nobody R :=
  fn_soundG (c := cfg12) TTok FNSok mixed Tryz.func12 (show Tryz.f12.body = some c12 by kernel_rfl) (show Tryz.f12.ntmps = 8 by kernel_rfl) (show Tryz.f12.results.toList = [.tmp 2] by kernel_rfl) rfl ((F12_eq la ll lc g R).mpr hF)

/- 13 pilaster/scope.Free -/
noncomputable def c13 : Code := match Tryz.f13.body with
  | some c => c
  | none => .skip
noncomputable def cfg13 : Cfg := ⟨Tryz.prog, TT, FNS, [3], [(3, 3)], [], TCH, false, false⟩
def an13 : AnnG := (.seq .leaf (.seq (.seq .leaf (.cond (.seq .leaf .leaf) .leaf)) (.seq .leaf .leaf)))
def F13 (cat : Int) (t0 : Int) (t1 : Int) (t2 : ByteArray) (t3a : Option Addr) (t3l : Nat) (t3c : Nat) (t4a : Option Addr) (t4l : Nat) (t4c : Nat) (g : G) (R : Value → G → Prop) : Prop :=
  ∀ g1 : G, Ex g g1 →
  (CallsP Tryz.prog 58 #[(.int .i64 cat), (.agg ⟨[(.int .i64 t0), (.int .i64 t1), (.string t2), (.slice t3a t3l t3c), (.slice t4a t4l t4c)]⟩)] g1 fun v g2 =>
  ∃ x : Bool, v = (.bool x) ∧ ifB (!x)
  (∀ g3 : G, Ex g2 g3 →
  R (.tuple ⟨[(.slice none 0 0), (.int .i64 (1 : Int))]⟩) g3)
  ((CallsP Tryz.prog 59 #[(.agg ⟨[(.int .i64 t0), (.int .i64 t1), (.string t2), (.slice t3a t3l t3c), (.slice t4a t4l t4c)]⟩)] g2 fun v g4 =>
  ∃ xa : Option Addr, ∃ xl : Nat, ∃ xc : Nat, v = (.slice xa xl xc) ∧ ∀ g5 : G, Ex g4 g5 →
  R (.tuple ⟨[(.slice xa xl xc), (.int .i64 (0 : Int))]⟩) g5)))
theorem F13_eq (cat : Int) (t0 : Int) (t1 : Int) (t2 : ByteArray) (t3a : Option Addr) (t3l : Nat) (t3c : Nat) (t4a : Option Addr) (t4l : Nat) (t4c : Nat) (g : G) (R : Value → G → Prop) : fnG cfg13 12 [.tmp 4, .tmp 5] c13 an13 [(.int .i64 cat), (.agg ⟨[(.int .i64 t0), (.int .i64 t1), (.string t2), (.slice t3a t3l t3c), (.slice t4a t4l t4c)]⟩)] g nobody R = F13 cat t0 t1 t2 t3a t3l t3c t4a t4l t4c g R := by kernel_rfl
theorem call13 (cat : Int) (t0 : Int) (t1 : Int) (t2 : ByteArray) (t3a : Option Addr) (t3l : Nat) (t3c : Nat) (t4a : Option Addr) (t4l : Nat) (t4c : Nat) (g : G) (R : Value → G → Prop) (hF : F13 cat t0 t1 t2 t3a t3l t3c t4a t4l t4c g R) : CallsG Tryz.prog 13 #[(.int .i64 cat), (.agg ⟨[(.int .i64 t0), (.int .i64 t1), (.string t2), (.slice t3a t3l t3c), (.slice t4a t4l t4c)]⟩)] g nobody R :=
  fn_soundG (c := cfg13) TTok FNSok mixed Tryz.func13 (show Tryz.f13.body = some c13 by kernel_rfl) (show Tryz.f13.ntmps = 12 by kernel_rfl) (show Tryz.f13.results.toList = [.tmp 4, .tmp 5] by kernel_rfl) rfl ((F13_eq cat t0 t1 t2 t3a t3l t3c t4a t4l t4c g R).mpr hF)

/- 17 slices.Clone[[]string,string] -/
noncomputable def c17 : Code := match Tryz.f17.body with
  | some c => c
  | none => .skip
noncomputable def cfg17 : Cfg := ⟨Tryz.prog, TT, FNS, [], [], [], TCH, false, false⟩
def an17 : AnnG := (.seq .leaf (.seq (.seq .leaf (.cond (.seq .leaf .leaf) .leaf)) (.seq .leaf .leaf)))
def F17 (sa : Option Addr) (sl : Nat) (sc : Nat) (g : G) (R : Value → G → Prop) : Prop :=
  ifB sa.isNone
  (∀ g1 : G, Ex g g1 →
  R (.slice none 0 0) g1)
  (∀ g2 : G, NewL g g2 9 [] →
  ∃ xa : Option Addr, ∃ xl : Nat, ∃ xc : Nat, ∃ wo1 : World, Sem.run Tryz.prog (Builtin.append_ #[22, 22] 22 #[(.slice (some ⟨g.w.heap.size, 0, none⟩) 0 0), (.slice sa sl sc)]) g2.w = .ok (.slice xa xl xc) wo1 ∧ ∃ g3 : G, g3.w = wo1 ∧ Stp g.w.heap.size nobody g2 g3 ∧ ∀ g4 : G, Ex g3 g4 →
  R (.slice xa xl xc) g4)
theorem F17_eq (sa : Option Addr) (sl : Nat) (sc : Nat) (g : G) (R : Value → G → Prop) : fnG cfg17 8 [.tmp 2] c17 an17 [(.slice sa sl sc)] g nobody R = F17 sa sl sc g R := by kernel_rfl
theorem call17 (sa : Option Addr) (sl : Nat) (sc : Nat) (g : G) (R : Value → G → Prop) (hF : F17 sa sl sc g R) : CallsG Tryz.prog 17 #[(.slice sa sl sc)] g nobody R :=
  fn_soundG (c := cfg17) TTok FNSok mixed Tryz.func17 (show Tryz.f17.body = some c17 by kernel_rfl) (show Tryz.f17.ntmps = 8 by kernel_rfl) (show Tryz.f17.results.toList = [.tmp 2] by kernel_rfl) rfl ((F17_eq sa sl sc g R).mpr hF)

/- 19 slices.Contains[[]string,string] -/
noncomputable def c19 : Code := match Tryz.f19.body with
  | some c => c
  | none => .skip
noncomputable def cfg19 : Cfg := ⟨Tryz.prog, TT, FNS, [], [], [], TCH, false, false⟩
def an19 : AnnG := (.seq .leaf (.seq .leaf .leaf))
def F19 (sa : Option Addr) (sl : Nat) (sc : Nat) (v_1 : ByteArray) (g : G) (R : Value → G → Prop) : Prop :=
  (CallsP Tryz.prog 45 #[(.slice sa sl sc), (.string v_1)] g fun v g1 =>
  ∃ x : Int, v = (.int .i64 x) ∧ ∀ g2 : G, Ex g1 g2 →
  R (.bool (leI (0 : Int) x)) g2)
theorem F19_eq (sa : Option Addr) (sl : Nat) (sc : Nat) (v_1 : ByteArray) (g : G) (R : Value → G → Prop) : fnG cfg19 9 [.tmp 4] c19 an19 [(.slice sa sl sc), (.string v_1)] g nobody R = F19 sa sl sc v_1 g R := by kernel_rfl
theorem call19 (sa : Option Addr) (sl : Nat) (sc : Nat) (v_1 : ByteArray) (g : G) (R : Value → G → Prop) (hF : F19 sa sl sc v_1 g R) : CallsG Tryz.prog 19 #[(.slice sa sl sc), (.string v_1)] g nobody R :=
  fn_soundG (c := cfg19) TTok FNSok mixed Tryz.func19 (show Tryz.f19.body = some c19 by kernel_rfl) (show Tryz.f19.ntmps = 9 by kernel_rfl) (show Tryz.f19.results.toList = [.tmp 4] by kernel_rfl) rfl ((F19_eq sa sl sc v_1 g R).mpr hF)

/- 21 slices.Equal[[]string,string] -/
noncomputable def c21 : Code := match Tryz.f21.body with
  | some c => c
  | none => .skip
noncomputable def cfg21 : Cfg := ⟨Tryz.prog, TT, FNS, [], [], [], TCH, false, false⟩
def an21 : AnnG := (.seq .leaf (.seq (.seq .leaf (.cond (.seq .leaf .leaf) .leaf)) (.seq (.seq .leaf (.blk (.loop ⟨[(13, .int .i64)], [], []⟩ (.seq .leaf (.seq (.cond .leaf .leaf) (.seq (.blk (.seq .leaf (.seq (.tree 8 (.quiet 0 (.quiet 1 (.quiet 2 (.quiet 3 (.quiet 4 (.quiet 5 (.quiet 6 (.quiet 7 .fin))))))))) (.cond (.seq .leaf .leaf) .leaf)))) .leaf)))))) (.seq .leaf .leaf))))
def F21 (s1a : Option Addr) (s1l : Nat) (s1c : Nat) (s2a : Option Addr) (s2l : Nat) (s2c : Nat) (g : G) (R : Value → G → Prop) : Prop :=
  ifB (!eqI ((s1l : Nat) : Int) ((s2l : Nat) : Int))
  (∀ g1 : G, Ex g g1 →
  R (.bool false) g1)
  (∃ Inv : Nat → Int → G → Prop, ((∃ m0 : Nat, Inv m0 (0 : Int) g)) ∧
  ∀ m : Nat, ∀ v_1 : Int, ∀ g2 : G, Le g g2 → Inv m v_1 g2 →
  ifB (ltI v_1 ((s1l : Nat) : Int))
  (∀ g3 : G, Ex g2 g3 →
  (0 ≤ v_1 ∧ v_1 < ((s1l : Nat) : Int)) ∧ derefP s1a fun ad => ∃ x : ByteArray, g3.w.cell? (Addr.add ad (Int.toNat v_1 * 1)) = some (.string x) ∧ (0 ≤ v_1 ∧ v_1 < ((s2l : Nat) : Int)) ∧ derefP s2a fun ad_1 => ∃ x_1 : ByteArray, g3.w.cell? (Addr.add ad_1 (Int.toNat v_1 * 1)) = some (.string x_1) ∧ ifB (!strEq x x_1)
  (∀ g4 : G, Ex g3 g4 →
  R (.bool false) g4)
  (InI64 (v_1 + (1 : Int)) ∧ (∃ m_1 : Nat, m_1 < m ∧ Inv m_1 (v_1 + (1 : Int)) g3)))
  (∀ g5 : G, Ex g2 g5 →
  R (.bool true) g5))
theorem F21_eq (s1a : Option Addr) (s1l : Nat) (s1c : Nat) (s2a : Option Addr) (s2l : Nat) (s2c : Nat) (g : G) (R : Value → G → Prop) : fnG cfg21 26 [.tmp 4] c21 an21 [(.slice s1a s1l s1c), (.slice s2a s2l s2c)] g nobody R = F21 s1a s1l s1c s2a s2l s2c g R := by kernel_rfl
theorem call21 (s1a : Option Addr) (s1l : Nat) (s1c : Nat) (s2a : Option Addr) (s2l : Nat) (s2c : Nat) (g : G) (R : Value → G → Prop) (hF : F21 s1a s1l s1c s2a s2l s2c g R) : CallsG Tryz.prog 21 #[(.slice s1a s1l s1c), (.slice s2a s2l s2c)] g nobody R :=
  fn_soundG (c := cfg21) TTok FNSok mixed Tryz.func21 (show Tryz.f21.body = some c21 by kernel_rfl) (show Tryz.f21.ntmps = 26 by kernel_rfl) (show Tryz.f21.results.toList = [.tmp 4] by kernel_rfl) rfl ((F21_eq s1a s1l s1c s2a s2l s2c g R).mpr hF)

/- 24 pilaster/pilasterref07.Check -/
/- 25 slices.ContainsFunc[[]pilaster/api.Unit,pilaster/api.Unit] -/
noncomputable def c25 : Code := match Tryz.f25.body with
  | some c => c
  | none => .skip
noncomputable def cfg25 : Cfg := ⟨Tryz.prog, TT, FNS, [], [], [], TCH, false, false⟩
def an25 : AnnG := (.seq .leaf (.seq .leaf .leaf))
def F25 (sa : Option Addr) (sl : Nat) (sc : Nat) (ff : FuncId) (fc : Array Value) (g : G) (R : Value → G → Prop) : Prop :=
  (CallsP Tryz.prog 70 #[(.slice sa sl sc), (.func (.func ff) #[] fc)] g fun v g1 =>
  ∃ x : Int, v = (.int .i64 x) ∧ ∀ g2 : G, Ex g1 g2 →
  R (.bool (leI (0 : Int) x)) g2)
theorem F25_eq (sa : Option Addr) (sl : Nat) (sc : Nat) (ff : FuncId) (fc : Array Value) (g : G) (R : Value → G → Prop) : fnG cfg25 9 [.tmp 4] c25 an25 [(.slice sa sl sc), (.func (.func ff) #[] fc)] g nobody R = F25 sa sl sc ff fc g R := by kernel_rfl
theorem call25 (sa : Option Addr) (sl : Nat) (sc : Nat) (ff : FuncId) (fc : Array Value) (g : G) (R : Value → G → Prop) (hF : F25 sa sl sc ff fc g R) : CallsG Tryz.prog 25 #[(.slice sa sl sc), (.func (.func ff) #[] fc)] g nobody R :=
  fn_soundG (c := cfg25) TTok FNSok mixed Tryz.func25 (show Tryz.f25.body = some c25 by kernel_rfl) (show Tryz.f25.ntmps = 9 by kernel_rfl) (show Tryz.f25.results.toList = [.tmp 4] by kernel_rfl) rfl ((F25_eq sa sl sc ff fc g R).mpr hF)

/- 27 pilaster/pilasterlaw07.small -/
noncomputable def c27 : Code := match Tryz.f27.body with
  | some c => c
  | none => .skip
noncomputable def cfg27 : Cfg := ⟨Tryz.prog, TT, FNS, [1], [(1, 1), (3, 1), (8, 1), (14, 1), (20, 1), (26, 1)], [], TCH, false, false⟩
def an27 : AnnG := (.seq .leaf (.seq .leaf .leaf))
def F27 (u0 : ByteArray) (u1a : Option Addr) (u1l : Nat) (u1c : Nat) (u2a : Option Addr) (u2l : Nat) (u2c : Nat) (g : G) (R : Value → G → Prop) : Prop :=
  ifB (leI ((u0.size : Nat) : Int) (60 : Int))
  (ifB (leI ((u1l : Nat) : Int) (30 : Int))
  (∀ g1 : G, Ex g g1 →
  (CallsP Tryz.prog 33 #[(.slice u1a u1l u1c), (.func (.func 71) #[] #[])] g1 fun v g2 =>
  ∃ x : Bool, v = (.bool x) ∧ ifB (!x)
  (ifB (leI ((u2l : Nat) : Int) (40 : Int))
  ((CallsP Tryz.prog 12 #[(.slice u2a u2l u2c)] g2 fun v g3 =>
  ∃ x_1 : Bool, v = (.bool x_1) ∧ ∀ g4 : G, Ex g3 g4 →
  R (.bool x_1) g4))
  (∀ g5 : G, Ex g2 g5 →
  R (.bool false) g5))
  (∀ g6 : G, Ex g2 g6 →
  R (.bool false) g6)))
  (∀ g7 : G, Ex g g7 →
  R (.bool false) g7))
  (∀ g8 : G, Ex g g8 →
  R (.bool false) g8)
theorem F27_eq (u0 : ByteArray) (u1a : Option Addr) (u1l : Nat) (u1c : Nat) (u2a : Option Addr) (u2l : Nat) (u2c : Nat) (g : G) (R : Value → G → Prop) : fnG cfg27 30 [.tmp 2] c27 an27 [(.agg ⟨[(.string u0), (.slice u1a u1l u1c), (.slice u2a u2l u2c)]⟩)] g nobody R = F27 u0 u1a u1l u1c u2a u2l u2c g R := by kernel_rfl
theorem call27 (u0 : ByteArray) (u1a : Option Addr) (u1l : Nat) (u1c : Nat) (u2a : Option Addr) (u2l : Nat) (u2c : Nat) (g : G) (R : Value → G → Prop) (hF : F27 u0 u1a u1l u1c u2a u2l u2c g R) : CallsG Tryz.prog 27 #[(.agg ⟨[(.string u0), (.slice u1a u1l u1c), (.slice u2a u2l u2c)]⟩)] g nobody R :=
  fn_soundG (c := cfg27) TTok FNSok mixed Tryz.func27 (show Tryz.f27.body = some c27 by kernel_rfl) (show Tryz.f27.ntmps = 30 by kernel_rfl) (show Tryz.f27.results.toList = [.tmp 2] by kernel_rfl) rfl ((F27_eq u0 u1a u1l u1c u2a u2l u2c g R).mpr hF)

/- 30 pilaster/pilasterref03.Depth -/
/- 33 slices.ContainsFunc[[]string,string] -/
noncomputable def c33 : Code := match Tryz.f33.body with
  | some c => c
  | none => .skip
noncomputable def cfg33 : Cfg := ⟨Tryz.prog, TT, FNS, [], [], [], TCH, false, false⟩
def an33 : AnnG := (.seq .leaf (.seq .leaf .leaf))
def F33 (sa : Option Addr) (sl : Nat) (sc : Nat) (ff : FuncId) (fc : Array Value) (g : G) (R : Value → G → Prop) : Prop :=
  (CallsP Tryz.prog 63 #[(.slice sa sl sc), (.func (.func ff) #[] fc)] g fun v g1 =>
  ∃ x : Int, v = (.int .i64 x) ∧ ∀ g2 : G, Ex g1 g2 →
  R (.bool (leI (0 : Int) x)) g2)
theorem F33_eq (sa : Option Addr) (sl : Nat) (sc : Nat) (ff : FuncId) (fc : Array Value) (g : G) (R : Value → G → Prop) : fnG cfg33 9 [.tmp 4] c33 an33 [(.slice sa sl sc), (.func (.func ff) #[] fc)] g nobody R = F33 sa sl sc ff fc g R := by kernel_rfl
theorem call33 (sa : Option Addr) (sl : Nat) (sc : Nat) (ff : FuncId) (fc : Array Value) (g : G) (R : Value → G → Prop) (hF : F33 sa sl sc ff fc g R) : CallsG Tryz.prog 33 #[(.slice sa sl sc), (.func (.func ff) #[] fc)] g nobody R :=
  fn_soundG (c := cfg33) TTok FNSok mixed Tryz.func33 (show Tryz.f33.body = some c33 by kernel_rfl) (show Tryz.f33.ntmps = 9 by kernel_rfl) (show Tryz.f33.results.toList = [.tmp 4] by kernel_rfl) rfl ((F33_eq sa sl sc ff fc g R).mpr hF)

/- 35 pilaster/pilasterref03.Valid -/
/- 36 pilaster/pilasterref07.Free -/
/- 37 pilaster/pilasterref07.Binds -/
/- 39 pilaster/pilasterref07.Unit -/
/- 45 slices.Index[[]string,string] -/
noncomputable def c45 : Code := match Tryz.f45.body with
  | some c => c
  | none => .skip
noncomputable def cfg45 : Cfg := ⟨Tryz.prog, TT, FNS, [], [], [], TCH, false, false⟩
def an45 : AnnG := (.seq .leaf (.seq (.seq .leaf (.blk (.loop ⟨[(8, .int .i64)], [], []⟩ (.seq .leaf (.seq (.cond .leaf .leaf) (.seq (.blk (.seq .leaf (.seq .leaf (.cond (.seq .leaf .leaf) .leaf)))) .leaf)))))) (.seq .leaf .leaf)))
def F45 (sa : Option Addr) (sl : Nat) (sc : Nat) (v_1 : ByteArray) (g : G) (R : Value → G → Prop) : Prop :=
  ∃ Inv : Nat → Int → G → Prop, ((∃ m0 : Nat, Inv m0 (0 : Int) g)) ∧
  ∀ m : Nat, ∀ v_2 : Int, ∀ g1 : G, Le g g1 → Inv m v_2 g1 →
  ifB (ltI v_2 ((sl : Nat) : Int))
  ((0 ≤ v_2 ∧ v_2 < ((sl : Nat) : Int)) ∧ derefP sa fun ad => ∃ x : ByteArray, g1.w.cell? (Addr.add ad (Int.toNat v_2 * 1)) = some (.string x) ∧ ifB (strEq v_1 x)
  (∀ g2 : G, Ex g1 g2 →
  R (.int .i64 v_2) g2)
  (InI64 (v_2 + (1 : Int)) ∧ (∃ m_1 : Nat, m_1 < m ∧ Inv m_1 (v_2 + (1 : Int)) g1)))
  (∀ g3 : G, Ex g1 g3 →
  R (.int .i64 (-1 : Int)) g3)
theorem F45_eq (sa : Option Addr) (sl : Nat) (sc : Nat) (v_1 : ByteArray) (g : G) (R : Value → G → Prop) : fnG cfg45 19 [.tmp 4] c45 an45 [(.slice sa sl sc), (.string v_1)] g nobody R = F45 sa sl sc v_1 g R := by kernel_rfl
theorem call45 (sa : Option Addr) (sl : Nat) (sc : Nat) (v_1 : ByteArray) (g : G) (R : Value → G → Prop) (hF : F45 sa sl sc v_1 g R) : CallsG Tryz.prog 45 #[(.slice sa sl sc), (.string v_1)] g nobody R :=
  fn_soundG (c := cfg45) TTok FNSok mixed Tryz.func45 (show Tryz.f45.body = some c45 by kernel_rfl) (show Tryz.f45.ntmps = 19 by kernel_rfl) (show Tryz.f45.results.toList = [.tmp 4] by kernel_rfl) rfl ((F45_eq sa sl sc v_1 g R).mpr hF)

/- 53 pilaster/pilasterlaw07.awake$1 -/
noncomputable def c53 : Code := match Tryz.f53.body with
  | some c => c
  | none => .skip
noncomputable def cfg53 : Cfg := ⟨Tryz.prog, TT, FNS, [2], [(2, 2)], [], TCH, false, false⟩
def an53 : AnnG := (.seq .leaf (.seq .leaf .leaf))
def F53 (la : Option Addr) (ll : Nat) (lc : Nat) (g : G) (R : Value → G → Prop) : Prop :=
  ∀ g1 : G, Ex g g1 →
  ∀ g2 : G, Ex g1 g2 →
  R (.agg ⟨[(.int .i64 (23 : Int)), (.int .i64 (0 : Int)), (.string (bs [])), (.slice la ll lc), (.slice none 0 0)]⟩) g2
theorem F53_eq (la : Option Addr) (ll : Nat) (lc : Nat) (g : G) (R : Value → G → Prop) : fnG cfg53 5 [.cell 2 25] c53 an53 [(.slice la ll lc)] g nobody R = F53 la ll lc g R := by kernel_rfl
theorem call53 (la : Option Addr) (ll : Nat) (lc : Nat) (g : G) (R : Value → G → Prop) (hF : F53 la ll lc g R) : CallsG Tryz.prog 53 #[(.slice la ll lc)] g nobody R :=
  fn_soundG (c := cfg53) TTok FNSok mixed Tryz.func53 (show Tryz.f53.body = some c53 by kernel_rfl) (show Tryz.f53.ntmps = 5 by kernel_rfl) (show Tryz.f53.results.toList = [.cell 2 25] by kernel_rfl) rfl ((F53_eq la ll lc g R).mpr hF)

/- 54 pilaster/pilasterlaw07.awake$2 -/
noncomputable def c54 : Code := match Tryz.f54.body with
  | some c => c
  | none => .skip
noncomputable def cfg54 : Cfg := ⟨Tryz.prog, TT, FNS, [2, 3, 4], [(2, 2), (3, 3), (4, 4)], [], TCH, false, false⟩
def an54 : AnnG := (.seq .leaf (.seq .leaf .leaf))
def F54 (a0 : Int) (a1 : Int) (a2 : ByteArray) (a3a : Option Addr) (a3l : Nat) (a3c : Nat) (a4a : Option Addr) (a4l : Nat) (a4c : Nat) (b0 : Int) (b1 : Int) (b2 : ByteArray) (b3a : Option Addr) (b3l : Nat) (b3c : Nat) (b4a : Option Addr) (b4l : Nat) (b4c : Nat) (g : G) (R : Value → G → Prop) : Prop :=
  ∀ g1 : G, Ex g g1 →
  ∀ g2 : G, NewL g1 g2 25 [(.int .i64 a0), (.int .i64 a1), (.string a2), (.slice a3a a3l a3c), (.slice a4a a4l a4c), (.int .i64 b0), (.int .i64 b1), (.string b2), (.slice b3a b3l b3c), (.slice b4a b4l b4c)] →
  ∀ g3 : G, Ex g2 g3 →
  R (.agg ⟨[(.int .i64 (26 : Int)), (.int .i64 (0 : Int)), (.string (bs [])), (.slice none 0 0), (.slice (some ⟨g1.w.heap.size, 0, none⟩) 2 2)]⟩) g3
theorem F54_eq (a0 : Int) (a1 : Int) (a2 : ByteArray) (a3a : Option Addr) (a3l : Nat) (a3c : Nat) (a4a : Option Addr) (a4l : Nat) (a4c : Nat) (b0 : Int) (b1 : Int) (b2 : ByteArray) (b3a : Option Addr) (b3l : Nat) (b3c : Nat) (b4a : Option Addr) (b4l : Nat) (b4c : Nat) (g : G) (R : Value → G → Prop) : fnG cfg54 9 [.cell 4 25] c54 an54 [(.agg ⟨[(.int .i64 a0), (.int .i64 a1), (.string a2), (.slice a3a a3l a3c), (.slice a4a a4l a4c)]⟩), (.agg ⟨[(.int .i64 b0), (.int .i64 b1), (.string b2), (.slice b3a b3l b3c), (.slice b4a b4l b4c)]⟩)] g nobody R = F54 a0 a1 a2 a3a a3l a3c a4a a4l a4c b0 b1 b2 b3a b3l b3c b4a b4l b4c g R := by kernel_rfl
theorem call54 (a0 : Int) (a1 : Int) (a2 : ByteArray) (a3a : Option Addr) (a3l : Nat) (a3c : Nat) (a4a : Option Addr) (a4l : Nat) (a4c : Nat) (b0 : Int) (b1 : Int) (b2 : ByteArray) (b3a : Option Addr) (b3l : Nat) (b3c : Nat) (b4a : Option Addr) (b4l : Nat) (b4c : Nat) (g : G) (R : Value → G → Prop) (hF : F54 a0 a1 a2 a3a a3l a3c a4a a4l a4c b0 b1 b2 b3a b3l b3c b4a b4l b4c g R) : CallsG Tryz.prog 54 #[(.agg ⟨[(.int .i64 a0), (.int .i64 a1), (.string a2), (.slice a3a a3l a3c), (.slice a4a a4l a4c)]⟩), (.agg ⟨[(.int .i64 b0), (.int .i64 b1), (.string b2), (.slice b3a b3l b3c), (.slice b4a b4l b4c)]⟩)] g nobody R :=
  fn_soundG (c := cfg54) TTok FNSok mixed Tryz.func54 (show Tryz.f54.body = some c54 by kernel_rfl) (show Tryz.f54.ntmps = 9 by kernel_rfl) (show Tryz.f54.results.toList = [.cell 4 25] by kernel_rfl) rfl ((F54_eq a0 a1 a2 a3a a3l a3c a4a a4l a4c b0 b1 b2 b3a b3l b3c b4a b4l b4c g R).mpr hF)

/- 55 slices.ContainsFunc[[]pilaster/api.Syn,pilaster/api.Syn] -/
noncomputable def c55 : Code := match Tryz.f55.body with
  | some c => c
  | none => .skip
noncomputable def cfg55 : Cfg := ⟨Tryz.prog, TT, FNS, [], [], [], TCH, false, false⟩
def an55 : AnnG := (.seq .leaf (.seq .leaf .leaf))
def F55 (sa : Option Addr) (sl : Nat) (sc : Nat) (ff : FuncId) (fc : Array Value) (g : G) (M : Nat → Prop) (R : Value → G → Prop) : Prop :=
  ∃ M1 : Nat → Prop, (∀ b, b < g.w.heap.size → M1 b → M b) ∧ (CallsG Tryz.prog 92 #[(.slice sa sl sc), (.func (.func ff) #[] fc)] g M1 fun v g1 =>
  ∃ x : Int, v = (.int .i64 x) ∧ ∀ g2 : G, Ex g1 g2 →
  R (.bool (leI (0 : Int) x)) g2)
theorem F55_eq (sa : Option Addr) (sl : Nat) (sc : Nat) (ff : FuncId) (fc : Array Value) (g : G) (M : Nat → Prop) (R : Value → G → Prop) : fnG cfg55 9 [.tmp 4] c55 an55 [(.slice sa sl sc), (.func (.func ff) #[] fc)] g M R = F55 sa sl sc ff fc g M R := by kernel_rfl
theorem call55 (sa : Option Addr) (sl : Nat) (sc : Nat) (ff : FuncId) (fc : Array Value) (g : G) (M : Nat → Prop) (R : Value → G → Prop) (hF : F55 sa sl sc ff fc g M R) : CallsG Tryz.prog 55 #[(.slice sa sl sc), (.func (.func ff) #[] fc)] g M R :=
  fn_soundG (c := cfg55) TTok FNSok mixed Tryz.func55 (show Tryz.f55.body = some c55 by kernel_rfl) (show Tryz.f55.ntmps = 9 by kernel_rfl) (show Tryz.f55.results.toList = [.tmp 4] by kernel_rfl) rfl ((F55_eq sa sl sc ff fc g M R).mpr hF)

/- 56 pilaster/pilasterlaw07.fits$1 -/
noncomputable def c56 : Code := match Tryz.f56.body with
  | some c => c
  | none => .skip
noncomputable def cfg56 : Cfg := ⟨Tryz.prog, TT, FNS, [2], [(2, 2)], [], TCH, false, false⟩
def an56 : AnnG := (.seq .leaf (.seq .leaf .leaf))
def F56 (t0 : Int) (t1 : Int) (t2 : ByteArray) (t3a : Option Addr) (t3l : Nat) (t3c : Nat) (t4a : Option Addr) (t4l : Nat) (t4c : Nat) (c0 : Value) (g : G) (M : Nat → Prop) (R : Value → G → Prop) : Prop :=
  ∀ g1 : G, Ex g g1 →
  ∃ M1 : Nat → Prop, (∀ b, b < g.w.heap.size → M1 b → M b) ∧ (CallsG Tryz.prog 57 #[(.agg ⟨[(.int .i64 t0), (.int .i64 t1), (.string t2), (.slice t3a t3l t3c), (.slice t4a t4l t4c)]⟩), c0, (.int .i64 (0 : Int))] g1 M1 fun v g2 =>
  ∃ x : Bool, v = (.bool x) ∧ ∀ g3 : G, Ex g2 g3 →
  R (.bool (!x)) g3)
theorem F56_eq (t0 : Int) (t1 : Int) (t2 : ByteArray) (t3a : Option Addr) (t3l : Nat) (t3c : Nat) (t4a : Option Addr) (t4l : Nat) (t4c : Nat) (c0 : Value) (g : G) (M : Nat → Prop) (R : Value → G → Prop) : fnG cfg56 7 [.tmp 3] c56 an56 [(.agg ⟨[(.int .i64 t0), (.int .i64 t1), (.string t2), (.slice t3a t3l t3c), (.slice t4a t4l t4c)]⟩), c0] g M R = F56 t0 t1 t2 t3a t3l t3c t4a t4l t4c c0 g M R := by kernel_rfl
theorem call56 (t0 : Int) (t1 : Int) (t2 : ByteArray) (t3a : Option Addr) (t3l : Nat) (t3c : Nat) (t4a : Option Addr) (t4l : Nat) (t4c : Nat) (c0 : Value) (g : G) (M : Nat → Prop) (R : Value → G → Prop) (hF : F56 t0 t1 t2 t3a t3l t3c t4a t4l t4c c0 g M R) : CallsG Tryz.prog 56 #[(.agg ⟨[(.int .i64 t0), (.int .i64 t1), (.string t2), (.slice t3a t3l t3c), (.slice t4a t4l t4c)]⟩), c0] g M R :=
  fn_soundG (c := cfg56) TTok FNSok mixed Tryz.func56 (show Tryz.f56.body = some c56 by kernel_rfl) (show Tryz.f56.ntmps = 7 by kernel_rfl) (show Tryz.f56.results.toList = [.tmp 3] by kernel_rfl) rfl ((F56_eq t0 t1 t2 t3a t3l t3c t4a t4l t4c c0 g M R).mpr hF)

/- 57 pilaster/pilasterlaw07.few -/
noncomputable def c57 : Code := match Tryz.f57.body with
  | some c => c
  | none => .skip
noncomputable def cfg57 : Cfg := ⟨Tryz.prog, TT, FNS, [3], [(3, 3), (21, 3), (27, 3), (33, 3), (37, 3)], [4, 5], TCH, false, false⟩
def an57 : AnnG := (.seq .leaf (.seq .leaf (.join ⟨[], [], []⟩ (.seq .leaf (.cond (.seq .leaf .leaf) .leaf)) (.seq .leaf .leaf))))
def F57 (t0 : Int) (t1 : Int) (t2 : ByteArray) (t3a : Option Addr) (t3l : Nat) (t3c : Nat) (t4a : Option Addr) (t4l : Nat) (t4c : Nat) (left : Option Addr) (depth : Int) (g : G) (M : Nat → Prop) (R : Value → G → Prop) : Prop :=
  ∀ g1 : G, Ex g g1 →
  ∀ g2 : G, NewL g1 g2 72 ([(.pointer left)] : List Value) →
  ∀ g3 : G, NewL g2 g3 3 ([(.int .i64 depth)] : List Value) →
  ∃ left_1 : Option Addr, g3.w.cell? ⟨g1.w.heap.size, 0, none⟩ = some (.pointer left_1) ∧ derefP left_1 fun ad => ∃ x : Int, g3.w.cell? ad = some (.int .i64 x) ∧ InI64 (x - (1 : Int)) ∧ derefP left_1 fun ad_1 => stOk g3.w ad_1 1 ∧ ¬ g3.X (Addr.block ad_1) ∧ mutAt g3 ad_1 1 ∧ ((Addr.block ad_1) < g.w.heap.size → M (Addr.block ad_1)) ∧ ∀ g4 : G, StG false g3 ad_1 [(.int .i64 (x - (1 : Int)))] g4 →
  ∀ J : G → Prop,
  (∀ g5 : G, (∃ M1 : Nat → Prop, (∀ b, b < g.w.heap.size → M1 b → M b) ∧ (CallsG Tryz.prog 55 #[(.slice t4a t4l t4c), (.func (.func 94) #[] ⟨[(.pointer (some ⟨g1.w.heap.size, 0, none⟩)), (.pointer (some ⟨g2.w.heap.size, 0, none⟩))]⟩)] g5 M1 fun v g6 =>
  ∃ x_1 : Bool, v = (.bool x_1) ∧ ∀ g7 : G, Ex g6 g7 →
  R (.bool (!x_1)) g7)) → J g5) →
  ∃ left_2 : Option Addr, g4.w.cell? ⟨g1.w.heap.size, 0, none⟩ = some (.pointer left_2) ∧ derefP left_2 fun ad_2 => ∃ x_2 : Int, g4.w.cell? ad_2 = some (.int .i64 x_2) ∧ ifB (ltI x_2 (0 : Int))
  (∀ g8 : G, Ex g4 g8 →
  R (.bool false) g8)
  (∃ depth_1 : Int, g4.w.cell? ⟨g2.w.heap.size, 0, none⟩ = some (.int .i64 depth_1) ∧ ifB (ltI (500 : Int) depth_1)
  (∀ g9 : G, Ex g4 g9 →
  R (.bool false) g9)
  (ifB (ltI (30 : Int) ((t3l : Nat) : Int))
  (∀ g10 : G, Ex g4 g10 →
  R (.bool false) g10)
  (ifB (ltI (500 : Int) ((t2.size : Nat) : Int))
  (∀ g11 : G, Ex g4 g11 →
  R (.bool false) g11)
  ((CallsP Tryz.prog 33 #[(.slice t3a t3l t3c), (.func (.func 93) #[] #[])] g4 fun v g12 =>
  ∃ x_3 : Bool, v = (.bool x_3) ∧ ifB x_3
  (∀ g13 : G, Ex g12 g13 →
  R (.bool false) g13)
  (J g12))))))
theorem F57_eq (t0 : Int) (t1 : Int) (t2 : ByteArray) (t3a : Option Addr) (t3l : Nat) (t3c : Nat) (t4a : Option Addr) (t4l : Nat) (t4c : Nat) (left : Option Addr) (depth : Int) (g : G) (M : Nat → Prop) (R : Value → G → Prop) : fnG cfg57 42 [.tmp 6] c57 an57 [(.agg ⟨[(.int .i64 t0), (.int .i64 t1), (.string t2), (.slice t3a t3l t3c), (.slice t4a t4l t4c)]⟩), (.pointer left), (.int .i64 depth)] g M R = F57 t0 t1 t2 t3a t3l t3c t4a t4l t4c left depth g M R := by kernel_rfl
theorem call57 (t0 : Int) (t1 : Int) (t2 : ByteArray) (t3a : Option Addr) (t3l : Nat) (t3c : Nat) (t4a : Option Addr) (t4l : Nat) (t4c : Nat) (left : Option Addr) (depth : Int) (g : G) (M : Nat → Prop) (R : Value → G → Prop) (hF : F57 t0 t1 t2 t3a t3l t3c t4a t4l t4c left depth g M R) : CallsG Tryz.prog 57 #[(.agg ⟨[(.int .i64 t0), (.int .i64 t1), (.string t2), (.slice t3a t3l t3c), (.slice t4a t4l t4c)]⟩), (.pointer left), (.int .i64 depth)] g M R :=
  fn_soundG (c := cfg57) TTok FNSok mixed Tryz.func57 (show Tryz.f57.body = some c57 by kernel_rfl) (show Tryz.f57.ntmps = 42 by kernel_rfl) (show Tryz.f57.results.toList = [.tmp 6] by kernel_rfl) rfl ((F57_eq t0 t1 t2 t3a t3l t3c t4a t4l t4c left depth g M R).mpr hF)

/- 58 pilaster/syntax.Valid -/
noncomputable def c58 : Code := match Tryz.f58.body with
  | some c => c
  | none => .skip
noncomputable def cfg58 : Cfg := ⟨Tryz.prog, TT, FNS, [3], [(3, 3)], [], TCH, false, false⟩
def an58 : AnnG := (.seq .leaf (.seq .leaf .leaf))
def F58 (cat : Int) (t0 : Int) (t1 : Int) (t2 : ByteArray) (t3a : Option Addr) (t3l : Nat) (t3c : Nat) (t4a : Option Addr) (t4l : Nat) (t4c : Nat) (g : G) (R : Value → G → Prop) : Prop :=
  ∀ g1 : G, Ex g g1 →
  (CallsP Tryz.prog 95 #[(.int .i64 cat), (.agg ⟨[(.int .i64 t0), (.int .i64 t1), (.string t2), (.slice t3a t3l t3c), (.slice t4a t4l t4c)]⟩)] g1 fun v g2 =>
  ∃ x : Bool, v = (.bool x) ∧ ifB x
  ((CallsP Tryz.prog 96 #[(.agg ⟨[(.int .i64 t0), (.int .i64 t1), (.string t2), (.slice t3a t3l t3c), (.slice t4a t4l t4c)]⟩)] g2 fun v g3 =>
  ∃ x_1 : Bool, v = (.bool x_1) ∧ ∀ g4 : G, Ex g3 g4 →
  R (.bool x_1) g4))
  (∀ g5 : G, Ex g2 g5 →
  R (.bool false) g5))
theorem F58_eq (cat : Int) (t0 : Int) (t1 : Int) (t2 : ByteArray) (t3a : Option Addr) (t3l : Nat) (t3c : Nat) (t4a : Option Addr) (t4l : Nat) (t4c : Nat) (g : G) (R : Value → G → Prop) : fnG cfg58 12 [.tmp 4] c58 an58 [(.int .i64 cat), (.agg ⟨[(.int .i64 t0), (.int .i64 t1), (.string t2), (.slice t3a t3l t3c), (.slice t4a t4l t4c)]⟩)] g nobody R = F58 cat t0 t1 t2 t3a t3l t3c t4a t4l t4c g R := by kernel_rfl
theorem call58 (cat : Int) (t0 : Int) (t1 : Int) (t2 : ByteArray) (t3a : Option Addr) (t3l : Nat) (t3c : Nat) (t4a : Option Addr) (t4l : Nat) (t4c : Nat) (g : G) (R : Value → G → Prop) (hF : F58 cat t0 t1 t2 t3a t3l t3c t4a t4l t4c g R) : CallsG Tryz.prog 58 #[(.int .i64 cat), (.agg ⟨[(.int .i64 t0), (.int .i64 t1), (.string t2), (.slice t3a t3l t3c), (.slice t4a t4l t4c)]⟩)] g nobody R :=
  fn_soundG (c := cfg58) TTok FNSok mixed Tryz.func58 (show Tryz.f58.body = some c58 by kernel_rfl) (show Tryz.f58.ntmps = 12 by kernel_rfl) (show Tryz.f58.results.toList = [.tmp 4] by kernel_rfl) rfl ((F58_eq cat t0 t1 t2 t3a t3l t3c t4a t4l t4c g R).mpr hF)

/- 59 pilaster/scope.free -/
noncomputable def c59 : Code := match Tryz.f59.body with
  | some c => c
  | none => .skip
noncomputable def cfg59 : Cfg := ⟨Tryz.prog, TT, FNS, [1], [(1, 1)], [], TCH, false, false⟩
def an59 : AnnG := (.seq .leaf (.seq .leaf (.seq .leaf (.seq .leaf .leaf))))
def F59 (t0 : Int) (t1 : Int) (t2 : ByteArray) (t3a : Option Addr) (t3l : Nat) (t3c : Nat) (t4a : Option Addr) (t4l : Nat) (t4c : Nat) (g : G) (R : Value → G → Prop) : Prop :=
  ∀ g1 : G, Ex g g1 →
  ∀ g2 : G, NewM g1 g2 →
  ∀ g3 : G, NewD g2 g3 100 ([(.map (some g1.w.heap.size))] : List Value) →
  ∃ M1 : Nat → Prop, (∀ b, b < g.w.heap.size → M1 b → nobody b) ∧ (CallsG Tryz.prog 97 #[(.pointer (some ⟨g2.w.heap.size, 0, none⟩)), (.agg ⟨[(.int .i64 t0), (.int .i64 t1), (.string t2), (.slice t3a t3l t3c), (.slice t4a t4l t4c)]⟩), (.slice none 0 0)] g3 M1 fun v g4 =>
  v = (.tuple ⟨[]⟩) ∧ ∃ x : Option Nat, g4.w.cell? ⟨g2.w.heap.size, 0, none⟩ = some (.map x) ∧ (CallsP Tryz.prog 98 #[(.map x)] g4 fun v g5 =>
  ∃ xf : FuncId, ∃ xc : Array Value, v = (.func (.func xf) #[] xc) ∧ (CallsP Tryz.prog 74 #[(.func (.func xf) #[] xc)] g5 fun v g6 =>
  ∃ xa : Option Addr, ∃ xl : Nat, ∃ xc_1 : Nat, v = (.slice xa xl xc_1) ∧ ∀ g7 : G, Ex g6 g7 →
  R (.slice xa xl xc_1) g7)))
theorem F59_eq (t0 : Int) (t1 : Int) (t2 : ByteArray) (t3a : Option Addr) (t3l : Nat) (t3c : Nat) (t4a : Option Addr) (t4l : Nat) (t4c : Nat) (g : G) (R : Value → G → Prop) : fnG cfg59 16 [.tmp 2] c59 an59 [(.agg ⟨[(.int .i64 t0), (.int .i64 t1), (.string t2), (.slice t3a t3l t3c), (.slice t4a t4l t4c)]⟩)] g nobody R = F59 t0 t1 t2 t3a t3l t3c t4a t4l t4c g R := by kernel_rfl
theorem call59 (t0 : Int) (t1 : Int) (t2 : ByteArray) (t3a : Option Addr) (t3l : Nat) (t3c : Nat) (t4a : Option Addr) (t4l : Nat) (t4c : Nat) (g : G) (R : Value → G → Prop) (hF : F59 t0 t1 t2 t3a t3l t3c t4a t4l t4c g R) : CallsG Tryz.prog 59 #[(.agg ⟨[(.int .i64 t0), (.int .i64 t1), (.string t2), (.slice t3a t3l t3c), (.slice t4a t4l t4c)]⟩)] g nobody R :=
  fn_soundG (c := cfg59) TTok FNSok mixed Tryz.func59 (show Tryz.f59.body = some c59 by kernel_rfl) (show Tryz.f59.ntmps = 16 by kernel_rfl) (show Tryz.f59.results.toList = [.tmp 2] by kernel_rfl) rfl ((F59_eq t0 t1 t2 t3a t3l t3c t4a t4l t4c g R).mpr hF)

/- 60 pilaster/syntax.Category -/
noncomputable def c60 : Code := match Tryz.f60.body with
  | some c => c
  | none => .skip
noncomputable def cfg60 : Cfg := ⟨Tryz.prog, TT, FNS, [], [], [], TCH, false, false⟩
def an60 : AnnG := (.seq .leaf (.seq (.seq .leaf (.blk (.join ⟨[(4, .bool)], [], []⟩ (.seq .leaf (.cond .leaf (.seq .leaf (.cond .leaf (.seq .leaf (.cond .leaf (.seq .leaf (.cond .leaf .leaf)))))))) (.cond (.seq .leaf .leaf) (.join ⟨[(10, .bool)], [], []⟩ (.seq .leaf (.cond .leaf (.seq .leaf (.cond .leaf (.seq .leaf (.cond .leaf (.seq .leaf (.cond .leaf .leaf)))))))) (.cond (.seq .leaf .leaf) (.join ⟨[(16, .bool)], [], []⟩ (.seq .leaf (.cond .leaf (.seq .leaf (.cond .leaf (.seq .leaf (.cond .leaf (.seq .leaf (.cond .leaf (.seq .leaf (.cond .leaf (.seq .leaf (.cond .leaf (.seq .leaf (.cond .leaf (.seq .leaf (.cond .leaf (.seq .leaf (.cond .leaf (.seq .leaf (.cond .leaf (.seq .leaf (.cond .leaf (.seq .leaf (.cond .leaf .leaf)))))))))))))))))))))))) (.cond (.seq .leaf .leaf) (.join ⟨[(30, .bool)], [], []⟩ (.seq .leaf (.cond .leaf (.seq .leaf (.cond .leaf (.seq .leaf (.cond .leaf (.seq .leaf (.cond .leaf (.seq .leaf (.cond .leaf (.seq .leaf (.cond .leaf (.seq .leaf (.cond .leaf (.seq .leaf (.cond .leaf .leaf)))))))))))))))) (.cond (.seq .leaf .leaf) (.join ⟨[(40, .bool)], [], []⟩ (.seq .leaf (.cond .leaf (.seq .leaf (.cond .leaf (.seq .leaf (.cond .leaf (.seq .leaf (.cond .leaf (.seq .leaf (.cond .leaf .leaf)))))))))) (.cond (.seq .leaf .leaf) (.join ⟨[(47, .bool)], [], []⟩ (.seq .leaf (.cond .leaf (.seq .leaf (.cond .leaf (.seq .leaf (.cond .leaf .leaf)))))) (.cond (.seq .leaf .leaf) (.join ⟨[(52, .bool)], [], []⟩ (.seq .leaf (.cond .leaf (.seq .leaf (.cond .leaf (.seq .leaf (.cond .leaf (.seq .leaf (.cond .leaf (.seq .leaf (.cond .leaf (.seq .leaf (.cond .leaf (.seq .leaf (.cond .leaf .leaf)))))))))))))) (.cond (.seq .leaf .leaf) .leaf)))))))))))))))) (.seq .leaf .leaf)))
def F60 (op : Int) (g : G) (R : Value → G → Prop) : Prop :=
  ∀ J : Bool → G → Prop,
  (∀ v_1 : Bool, ∀ g1 : G, (ifB v_1
  (∀ g2 : G, Ex g1 g2 →
  R (.int .i64 (1 : Int)) g2)
  (∀ J_1 : Bool → G → Prop,
  (∀ v_2 : Bool, ∀ g3 : G, (ifB v_2
  (∀ g4 : G, Ex g3 g4 →
  R (.int .i64 (2 : Int)) g4)
  (∀ J_2 : Bool → G → Prop,
  (∀ v_3 : Bool, ∀ g5 : G, (ifB v_3
  (∀ g6 : G, Ex g5 g6 →
  R (.int .i64 (3 : Int)) g6)
  (∀ J_3 : Bool → G → Prop,
  (∀ v_4 : Bool, ∀ g7 : G, (ifB v_4
  (∀ g8 : G, Ex g7 g8 →
  R (.int .i64 (4 : Int)) g8)
  (∀ J_4 : Bool → G → Prop,
  (∀ v_5 : Bool, ∀ g9 : G, (ifB v_5
  (∀ g10 : G, Ex g9 g10 →
  R (.int .i64 (5 : Int)) g10)
  (∀ J_5 : Bool → G → Prop,
  (∀ v_6 : Bool, ∀ g11 : G, (ifB v_6
  (∀ g12 : G, Ex g11 g12 →
  R (.int .i64 (6 : Int)) g12)
  (∀ J_6 : Bool → G → Prop,
  (∀ v_7 : Bool, ∀ g13 : G, (ifB v_7
  (∀ g14 : G, Ex g13 g14 →
  R (.int .i64 (7 : Int)) g14)
  (∀ g15 : G, Ex g13 g15 →
  R (.int .i64 (0 : Int)) g15)) → J_6 v_7 g13) →
  ifB (eqI op (81 : Int))
  (J_6 true g11)
  (ifB (eqI op (82 : Int))
  (J_6 true g11)
  (ifB (eqI op (83 : Int))
  (J_6 true g11)
  (ifB (eqI op (84 : Int))
  (J_6 true g11)
  (ifB (eqI op (85 : Int))
  (J_6 true g11)
  (ifB (eqI op (86 : Int))
  (J_6 true g11)
  (ifB (eqI op (87 : Int))
  (J_6 true g11)
  (J_6 (eqI op (88 : Int)) g11))))))))) → J_5 v_6 g11) →
  ifB (eqI op (71 : Int))
  (J_5 true g9)
  (ifB (eqI op (72 : Int))
  (J_5 true g9)
  (ifB (eqI op (73 : Int))
  (J_5 true g9)
  (J_5 (eqI op (74 : Int)) g9))))) → J_4 v_5 g9) →
  ifB (eqI op (61 : Int))
  (J_4 true g7)
  (ifB (eqI op (62 : Int))
  (J_4 true g7)
  (ifB (eqI op (63 : Int))
  (J_4 true g7)
  (ifB (eqI op (64 : Int))
  (J_4 true g7)
  (ifB (eqI op (65 : Int))
  (J_4 true g7)
  (J_4 (eqI op (66 : Int)) g7))))))) → J_3 v_4 g7) →
  ifB (eqI op (41 : Int))
  (J_3 true g5)
  (ifB (eqI op (42 : Int))
  (J_3 true g5)
  (ifB (eqI op (43 : Int))
  (J_3 true g5)
  (ifB (eqI op (44 : Int))
  (J_3 true g5)
  (ifB (eqI op (46 : Int))
  (J_3 true g5)
  (ifB (eqI op (47 : Int))
  (J_3 true g5)
  (ifB (eqI op (48 : Int))
  (J_3 true g5)
  (ifB (eqI op (49 : Int))
  (J_3 true g5)
  (J_3 (eqI op (50 : Int)) g5)))))))))) → J_2 v_3 g5) →
  ifB (eqI op (21 : Int))
  (J_2 true g3)
  (ifB (eqI op (22 : Int))
  (J_2 true g3)
  (ifB (eqI op (23 : Int))
  (J_2 true g3)
  (ifB (eqI op (24 : Int))
  (J_2 true g3)
  (ifB (eqI op (25 : Int))
  (J_2 true g3)
  (ifB (eqI op (26 : Int))
  (J_2 true g3)
  (ifB (eqI op (27 : Int))
  (J_2 true g3)
  (ifB (eqI op (28 : Int))
  (J_2 true g3)
  (ifB (eqI op (29 : Int))
  (J_2 true g3)
  (ifB (eqI op (31 : Int))
  (J_2 true g3)
  (ifB (eqI op (32 : Int))
  (J_2 true g3)
  (ifB (eqI op (33 : Int))
  (J_2 true g3)
  (J_2 (eqI op (34 : Int)) g3)))))))))))))) → J_1 v_2 g3) →
  ifB (eqI op (11 : Int))
  (J_1 true g1)
  (ifB (eqI op (12 : Int))
  (J_1 true g1)
  (ifB (eqI op (13 : Int))
  (J_1 true g1)
  (ifB (eqI op (14 : Int))
  (J_1 true g1)
  (J_1 (eqI op (15 : Int)) g1)))))) → J v_1 g1) →
  ifB (eqI op (1 : Int))
  (J true g)
  (ifB (eqI op (2 : Int))
  (J true g)
  (ifB (eqI op (3 : Int))
  (J true g)
  (ifB (eqI op (4 : Int))
  (J true g)
  (J (eqI op (5 : Int)) g))))
theorem F60_eq (op : Int) (g : G) (R : Value → G → Prop) : fnG cfg60 61 [.tmp 2] c60 an60 [(.int .i64 op)] g nobody R = F60 op g R := by kernel_rfl
theorem call60 (op : Int) (g : G) (R : Value → G → Prop) (hF : F60 op g R) : CallsG Tryz.prog 60 #[(.int .i64 op)] g nobody R :=
  fn_soundG (c := cfg60) TTok FNSok mixed Tryz.func60 (show Tryz.f60.body = some c60 by kernel_rfl) (show Tryz.f60.ntmps = 61 by kernel_rfl) (show Tryz.f60.results.toList = [.tmp 2] by kernel_rfl) rfl ((F60_eq op g R).mpr hF)

/- 61 pilaster/scope.binds -/
noncomputable def c61 : Code := match Tryz.f61.body with
  | some c => c
  | none => .skip
noncomputable def cfg61 : Cfg := ⟨Tryz.prog, TT, FNS, [1, 5, 8], [(1, 1), (5, 5), (8, 8), (9, 1), (16, 1), (23, 1), (29, 1), (33, 1), (41, 5), (52, 1), (59, 1), (66, 1)], [], TCH, false, false⟩
def an61 : AnnG := (.seq .leaf (.seq (.seq .leaf (.blk (.join ⟨[(11, .bool)], [], []⟩ (.seq .leaf (.cond .leaf (.seq .leaf (.cond .leaf (.seq .leaf (.cond .leaf .leaf)))))) (.cond (.seq .leaf .leaf) (.join ⟨[(20, .bool)], [], []⟩ (.seq .leaf (.cond .leaf .leaf)) (.cond (.seq .leaf .leaf) (.seq .leaf (.cond (.seq .leaf (.seq (.seq .leaf (.blk (.loop ⟨[(3, .sl), (36, .int .i64)], [], []⟩ (.seq .leaf (.seq (.cond .leaf .leaf) (.seq (.blk (.seq .leaf .leaf)) .leaf)))))) (.seq .leaf .leaf))) (.join ⟨[(48, .bool)], [], []⟩ (.seq .leaf (.cond .leaf (.seq .leaf (.cond .leaf .leaf)))) (.cond (.seq .leaf .leaf) (.join ⟨[(56, .bool)], [], []⟩ (.seq .leaf (.cond .leaf .leaf)) (.cond (.seq .leaf .leaf) (.join ⟨[(63, .bool)], [], []⟩ (.seq .leaf (.cond .leaf .leaf)) (.cond (.seq .leaf (.seq (.seq .leaf (.blk (.loop ⟨[(6, .sl), (69, .int .i64)], [], []⟩ (.seq .leaf (.seq (.cond .leaf .leaf) (.seq (.blk (.seq .leaf .leaf)) .leaf)))))) (.seq .leaf .leaf))) .leaf)))))))))))))) (.seq .leaf .leaf)))
def F61 (t0 : Int) (t1 : Int) (t2 : ByteArray) (t3a : Option Addr) (t3l : Nat) (t3c : Nat) (t4a : Option Addr) (t4l : Nat) (t4c : Nat) (g : G) (R : Value → G → Prop) : Prop :=
  ∀ J : Bool → G → Prop,
  (∀ v_1 : Bool, ∀ g1 : G, (ifB v_1
  ((CallsP Tryz.prog 88 #[(.int .i64 (1 : Int)), (.string t2)] g1 fun v g2 =>
  ∃ x : ByteArray, v = (.string x) ∧ ∀ g3 : G, NewL g2 g3 9 [(.string x)] →
  ∀ g4 : G, Ex g3 g4 →
  R (.slice (some ⟨g2.w.heap.size, 0, none⟩) 1 1) g4))
  (∀ J_1 : Bool → G → Prop,
  (∀ v_2 : Bool, ∀ g5 : G, (ifB v_2
  ((CallsP Tryz.prog 88 #[(.int .i64 (2 : Int)), (.string t2)] g5 fun v g6 =>
  ∃ x_1 : ByteArray, v = (.string x_1) ∧ ∀ g7 : G, NewL g6 g7 9 [(.string x_1)] →
  ∀ g8 : G, Ex g7 g8 →
  R (.slice (some ⟨g6.w.heap.size, 0, none⟩) 1 1) g8))
  (ifB (eqI t0 (44 : Int))
  ((CallsP Tryz.prog 88 #[(.int .i64 (2 : Int)), (.string t2)] g5 fun v g9 =>
  ∃ x_2 : ByteArray, v = (.string x_2) ∧ ∀ g10 : G, NewL g9 g10 9 [(.string x_2)] →
  ∃ Inv : Nat → Option Addr → Nat → Nat → Int → G → Prop, ((∃ m0 : Nat, Inv m0 (some ⟨g9.w.heap.size, 0, none⟩) 1 1 (0 : Int) g10)) ∧
  ∀ m : Nat, ∀ outa : Option Addr, ∀ outl : Nat, ∀ outc : Nat, ∀ v_3 : Int, ∀ g11 : G, Le g10 g11 → Inv m outa outl outc v_3 g11 →
  ifB (ltI v_3 ((t4l : Nat) : Int))
  ((0 ≤ v_3 ∧ v_3 < ((t4l : Nat) : Int)) ∧ derefP t4a fun ad => ∃ x0 : Int, ∃ x1 : Int, ∃ x2 : ByteArray, ∃ x3a : Option Addr, ∃ x3l : Nat, ∃ x3c : Nat, ∃ x4a : Option Addr, ∃ x4l : Nat, ∃ x4c : Nat, g11.w.cell? (Addr.add ad (Int.toNat v_3 * 5)) = some (.int .i64 x0) ∧ g11.w.cell? (Addr.add (Addr.add ad (Int.toNat v_3 * 5)) 1) = some (.int .i64 x1) ∧ g11.w.cell? (Addr.add (Addr.add ad (Int.toNat v_3 * 5)) 2) = some (.string x2) ∧ g11.w.cell? (Addr.add (Addr.add ad (Int.toNat v_3 * 5)) 3) = some (.slice x3a x3l x3c) ∧ g11.w.cell? (Addr.add (Addr.add ad (Int.toNat v_3 * 5)) 4) = some (.slice x4a x4l x4c) ∧ ∀ g12 : G, Ex g11 g12 →
  (CallsP Tryz.prog 88 #[(.int .i64 (3 : Int)), (.string x2)] g12 fun v g13 =>
  ∃ x_3 : ByteArray, v = (.string x_3) ∧ ∀ g14 : G, NewL g13 g14 9 [(.string x_3)] →
  ∃ outa_1 : Option Addr, ∃ outl_1 : Nat, ∃ outc_1 : Nat, ∃ wo1 : World, Sem.run Tryz.prog (Builtin.append_ #[22, 22] 22 #[(.slice outa outl outc), (.slice (some ⟨g13.w.heap.size, 0, none⟩) 1 1)]) g14.w = .ok (.slice outa_1 outl_1 outc_1) wo1 ∧ ∃ g15 : G, g15.w = wo1 ∧ Stp g.w.heap.size nobody g14 g15 ∧ InI64 (v_3 + (1 : Int)) ∧ (∃ m_1 : Nat, m_1 < m ∧ Inv m_1 outa_1 outl_1 outc_1 (v_3 + (1 : Int)) g15)))
  (∀ g16 : G, Ex g11 g16 →
  R (.slice outa outl outc) g16)))
  (∀ J_2 : Bool → G → Prop,
  (∀ v_4 : Bool, ∀ g17 : G, (ifB v_4
  ((CallsP Tryz.prog 88 #[(.int .i64 (4 : Int)), (.string t2)] g17 fun v g18 =>
  ∃ x_4 : ByteArray, v = (.string x_4) ∧ ∀ g19 : G, NewL g18 g19 9 [(.string x_4)] →
  ∀ g20 : G, Ex g19 g20 →
  R (.slice (some ⟨g18.w.heap.size, 0, none⟩) 1 1) g20))
  (∀ J_3 : Bool → G → Prop,
  (∀ v_5 : Bool, ∀ g21 : G, (ifB v_5
  ((CallsP Tryz.prog 88 #[(.int .i64 (5 : Int)), (.string t2)] g21 fun v g22 =>
  ∃ x_5 : ByteArray, v = (.string x_5) ∧ ∀ g23 : G, NewL g22 g23 9 [(.string x_5)] →
  ∀ g24 : G, Ex g23 g24 →
  R (.slice (some ⟨g22.w.heap.size, 0, none⟩) 1 1) g24))
  (∀ J_4 : Bool → G → Prop,
  (∀ v_6 : Bool, ∀ g25 : G, (ifB v_6
  (∃ Inv_1 : Nat → Option Addr → Nat → Nat → Int → G → Prop, ((∃ m0 : Nat, Inv_1 m0 none 0 0 (0 : Int) g25)) ∧
  ∀ m_2 : Nat, ∀ outa_2 : Option Addr, ∀ outl_2 : Nat, ∀ outc_2 : Nat, ∀ v_7 : Int, ∀ g26 : G, Le g25 g26 → Inv_1 m_2 outa_2 outl_2 outc_2 v_7 g26 →
  ifB (ltI v_7 ((t4l : Nat) : Int))
  ((0 ≤ v_7 ∧ v_7 < ((t4l : Nat) : Int)) ∧ derefP t4a fun ad_1 => ∃ x0_1 : Int, ∃ x1_1 : Int, ∃ x2_1 : ByteArray, ∃ x3a_1 : Option Addr, ∃ x3l_1 : Nat, ∃ x3c_1 : Nat, ∃ x4a_1 : Option Addr, ∃ x4l_1 : Nat, ∃ x4c_1 : Nat, g26.w.cell? (Addr.add ad_1 (Int.toNat v_7 * 5)) = some (.int .i64 x0_1) ∧ g26.w.cell? (Addr.add (Addr.add ad_1 (Int.toNat v_7 * 5)) 1) = some (.int .i64 x1_1) ∧ g26.w.cell? (Addr.add (Addr.add ad_1 (Int.toNat v_7 * 5)) 2) = some (.string x2_1) ∧ g26.w.cell? (Addr.add (Addr.add ad_1 (Int.toNat v_7 * 5)) 3) = some (.slice x3a_1 x3l_1 x3c_1) ∧ g26.w.cell? (Addr.add (Addr.add ad_1 (Int.toNat v_7 * 5)) 4) = some (.slice x4a_1 x4l_1 x4c_1) ∧ ∀ g27 : G, Ex g26 g27 →
  (CallsP Tryz.prog 61 #[(.agg ⟨[(.int .i64 x0_1), (.int .i64 x1_1), (.string x2_1), (.slice x3a_1 x3l_1 x3c_1), (.slice x4a_1 x4l_1 x4c_1)]⟩)] g27 fun v g28 =>
  ∃ xa : Option Addr, ∃ xl : Nat, ∃ xc : Nat, v = (.slice xa xl xc) ∧ ∃ outa_3 : Option Addr, ∃ outl_3 : Nat, ∃ outc_3 : Nat, ∃ wo2 : World, Sem.run Tryz.prog (Builtin.append_ #[22, 22] 22 #[(.slice outa_2 outl_2 outc_2), (.slice xa xl xc)]) g28.w = .ok (.slice outa_3 outl_3 outc_3) wo2 ∧ ∃ g29 : G, g29.w = wo2 ∧ Stp g.w.heap.size nobody g28 g29 ∧ InI64 (v_7 + (1 : Int)) ∧ (∃ m_3 : Nat, m_3 < m_2 ∧ Inv_1 m_3 outa_3 outl_3 outc_3 (v_7 + (1 : Int)) g29)))
  (∀ g30 : G, Ex g26 g30 →
  R (.slice outa_2 outl_2 outc_2) g30))
  (∀ g31 : G, Ex g25 g31 →
  R (.slice none 0 0) g31)) → J_4 v_6 g25) →
  ifB (eqI t0 (14 : Int))
  (J_4 true g21)
  (J_4 (eqI t0 (15 : Int)) g21))) → J_3 v_5 g21) →
  ifB (eqI t0 (47 : Int))
  (J_3 true g17)
  (J_3 (eqI t0 (64 : Int)) g17))) → J_2 v_4 g17) →
  ifB (eqI t0 (46 : Int))
  (J_2 true g5)
  (ifB (eqI t0 (50 : Int))
  (J_2 true g5)
  (J_2 (eqI t0 (63 : Int)) g5))))) → J_1 v_2 g5) →
  ifB (eqI t0 (43 : Int))
  (J_1 true g1)
  (J_1 (eqI t0 (62 : Int)) g1))) → J v_1 g1) →
  ifB (eqI t0 (12 : Int))
  (∀ g32 : G, Ex g g32 →
  J true g32)
  (ifB (eqI t0 (41 : Int))
  (∀ g33 : G, Ex g g33 →
  J true g33)
  (ifB (eqI t0 (42 : Int))
  (∀ g34 : G, Ex g g34 →
  J true g34)
  (∀ g35 : G, Ex g g35 →
  J (eqI t0 (61 : Int)) g35)))
theorem F61_eq (t0 : Int) (t1 : Int) (t2 : ByteArray) (t3a : Option Addr) (t3l : Nat) (t3c : Nat) (t4a : Option Addr) (t4l : Nat) (t4c : Nat) (g : G) (R : Value → G → Prop) : fnG cfg61 79 [.tmp 2] c61 an61 [(.agg ⟨[(.int .i64 t0), (.int .i64 t1), (.string t2), (.slice t3a t3l t3c), (.slice t4a t4l t4c)]⟩)] g nobody R = F61 t0 t1 t2 t3a t3l t3c t4a t4l t4c g R := by kernel_rfl
theorem call61 (t0 : Int) (t1 : Int) (t2 : ByteArray) (t3a : Option Addr) (t3l : Nat) (t3c : Nat) (t4a : Option Addr) (t4l : Nat) (t4c : Nat) (g : G) (R : Value → G → Prop) (hF : F61 t0 t1 t2 t3a t3l t3c t4a t4l t4c g R) : CallsG Tryz.prog 61 #[(.agg ⟨[(.int .i64 t0), (.int .i64 t1), (.string t2), (.slice t3a t3l t3c), (.slice t4a t4l t4c)]⟩)] g nobody R :=
  fn_soundG (c := cfg61) TTok FNSok mixed Tryz.func61 (show Tryz.f61.body = some c61 by kernel_rfl) (show Tryz.f61.ntmps = 79 by kernel_rfl) (show Tryz.f61.results.toList = [.tmp 2] by kernel_rfl) rfl ((F61_eq t0 t1 t2 t3a t3l t3c t4a t4l t4c g R).mpr hF)

/- 63 slices.IndexFunc[[]string,string] -/
noncomputable def c63 : Code := match Tryz.f63.body with
  | some c => c
  | none => .skip
noncomputable def cfg63 : Cfg := ⟨Tryz.prog, TT, FNS, [], [], [], TCH, false, false⟩
def an63 : AnnG := (.seq .leaf (.seq (.seq .leaf (.blk (.loop ⟨[(8, .int .i64)], [], []⟩ (.seq .leaf (.seq (.cond .leaf .leaf) (.seq (.blk (.seq .leaf (.seq .leaf (.cond (.seq .leaf .leaf) .leaf)))) .leaf)))))) (.seq .leaf .leaf)))
def F63 (sa : Option Addr) (sl : Nat) (sc : Nat) (ff : FuncId) (fc : Array Value) (g : G) (R : Value → G → Prop) : Prop :=
  ∃ Inv : Nat → Int → G → Prop, ((∃ m0 : Nat, Inv m0 (0 : Int) g)) ∧
  ∀ m : Nat, ∀ v_1 : Int, ∀ g1 : G, Le g g1 → Inv m v_1 g1 →
  ifB (ltI v_1 ((sl : Nat) : Int))
  ((0 ≤ v_1 ∧ v_1 < ((sl : Nat) : Int)) ∧ derefP sa fun ad => ∃ x : ByteArray, g1.w.cell? (Addr.add ad (Int.toNat v_1 * 1)) = some (.string x) ∧ Enters Tryz.prog ff ∧ (CallsP Tryz.prog ff ((⟨[(.string x)]⟩ : Array Value) ++ fc) g1 fun v g2 =>
  ∃ x_1 : Bool, v = (.bool x_1) ∧ ifB x_1
  (∀ g3 : G, Ex g2 g3 →
  R (.int .i64 v_1) g3)
  (InI64 (v_1 + (1 : Int)) ∧ (∃ m_1 : Nat, m_1 < m ∧ Inv m_1 (v_1 + (1 : Int)) g2))))
  (∀ g4 : G, Ex g1 g4 →
  R (.int .i64 (-1 : Int)) g4)
theorem F63_eq (sa : Option Addr) (sl : Nat) (sc : Nat) (ff : FuncId) (fc : Array Value) (g : G) (R : Value → G → Prop) : fnG cfg63 19 [.tmp 4] c63 an63 [(.slice sa sl sc), (.func (.func ff) #[] fc)] g nobody R = F63 sa sl sc ff fc g R := by kernel_rfl
theorem call63 (sa : Option Addr) (sl : Nat) (sc : Nat) (ff : FuncId) (fc : Array Value) (g : G) (R : Value → G → Prop) (hF : F63 sa sl sc ff fc g R) : CallsG Tryz.prog 63 #[(.slice sa sl sc), (.func (.func ff) #[] fc)] g nobody R :=
  fn_soundG (c := cfg63) TTok FNSok mixed Tryz.func63 (show Tryz.f63.body = some c63 by kernel_rfl) (show Tryz.f63.ntmps = 19 by kernel_rfl) (show Tryz.f63.results.toList = [.tmp 4] by kernel_rfl) rfl ((F63_eq sa sl sc ff fc g R).mpr hF)

/- 67 pilaster/pilasterref07.twice -/
/- 68 pilaster/pilasterref07.All -/
/- 69 pilaster/pilasterref07.check -/
/- 70 slices.IndexFunc[[]pilaster/api.Unit,pilaster/api.Unit] -/
noncomputable def c70 : Code := match Tryz.f70.body with
  | some c => c
  | none => .skip
noncomputable def cfg70 : Cfg := ⟨Tryz.prog, TT, FNS, [], [], [], TCH, false, false⟩
def an70 : AnnG := (.seq .leaf (.seq (.seq .leaf (.blk (.loop ⟨[(8, .int .i64)], [], []⟩ (.seq .leaf (.seq (.cond .leaf .leaf) (.seq (.blk (.seq .leaf (.seq .leaf (.cond (.seq .leaf .leaf) .leaf)))) .leaf)))))) (.seq .leaf .leaf)))
def F70 (sa : Option Addr) (sl : Nat) (sc : Nat) (ff : FuncId) (fc : Array Value) (g : G) (R : Value → G → Prop) : Prop :=
  ∃ Inv : Nat → Int → G → Prop, ((∃ m0 : Nat, Inv m0 (0 : Int) g)) ∧
  ∀ m : Nat, ∀ v_1 : Int, ∀ g1 : G, Le g g1 → Inv m v_1 g1 →
  ifB (ltI v_1 ((sl : Nat) : Int))
  ((0 ≤ v_1 ∧ v_1 < ((sl : Nat) : Int)) ∧ derefP sa fun ad => ∃ x0 : ByteArray, ∃ x1a : Option Addr, ∃ x1l : Nat, ∃ x1c : Nat, ∃ x2a : Option Addr, ∃ x2l : Nat, ∃ x2c : Nat, g1.w.cell? (Addr.add ad (Int.toNat v_1 * 3)) = some (.string x0) ∧ g1.w.cell? (Addr.add (Addr.add ad (Int.toNat v_1 * 3)) 1) = some (.slice x1a x1l x1c) ∧ g1.w.cell? (Addr.add (Addr.add ad (Int.toNat v_1 * 3)) 2) = some (.slice x2a x2l x2c) ∧ Enters Tryz.prog ff ∧ (CallsP Tryz.prog ff ((⟨[(.agg ⟨[(.string x0), (.slice x1a x1l x1c), (.slice x2a x2l x2c)]⟩)]⟩ : Array Value) ++ fc) g1 fun v g2 =>
  ∃ x : Bool, v = (.bool x) ∧ ifB x
  (∀ g3 : G, Ex g2 g3 →
  R (.int .i64 v_1) g3)
  (InI64 (v_1 + (1 : Int)) ∧ (∃ m_1 : Nat, m_1 < m ∧ Inv m_1 (v_1 + (1 : Int)) g2))))
  (∀ g4 : G, Ex g1 g4 →
  R (.int .i64 (-1 : Int)) g4)
theorem F70_eq (sa : Option Addr) (sl : Nat) (sc : Nat) (ff : FuncId) (fc : Array Value) (g : G) (R : Value → G → Prop) : fnG cfg70 19 [.tmp 4] c70 an70 [(.slice sa sl sc), (.func (.func ff) #[] fc)] g nobody R = F70 sa sl sc ff fc g R := by kernel_rfl
theorem call70 (sa : Option Addr) (sl : Nat) (sc : Nat) (ff : FuncId) (fc : Array Value) (g : G) (R : Value → G → Prop) (hF : F70 sa sl sc ff fc g R) : CallsG Tryz.prog 70 #[(.slice sa sl sc), (.func (.func ff) #[] fc)] g nobody R :=
  fn_soundG (c := cfg70) TTok FNSok mixed Tryz.func70 (show Tryz.f70.body = some c70 by kernel_rfl) (show Tryz.f70.ntmps = 19 by kernel_rfl) (show Tryz.f70.results.toList = [.tmp 4] by kernel_rfl) rfl ((F70_eq sa sl sc ff fc g R).mpr hF)

/- 71 pilaster/pilasterlaw07.small$1 -/
noncomputable def c71 : Code := match Tryz.f71.body with
  | some c => c
  | none => .skip
noncomputable def cfg71 : Cfg := ⟨Tryz.prog, TT, FNS, [], [], [], TCH, false, false⟩
def an71 : AnnG := (.seq .leaf (.seq .leaf .leaf))
def F71 (s : ByteArray) (g : G) (R : Value → G → Prop) : Prop :=
  ∀ g1 : G, Ex g g1 →
  R (.bool (ltI (60 : Int) ((s.size : Nat) : Int))) g1
theorem F71_eq (s : ByteArray) (g : G) (R : Value → G → Prop) : fnG cfg71 6 [.tmp 2] c71 an71 [(.string s)] g nobody R = F71 s g R := by kernel_rfl
theorem call71 (s : ByteArray) (g : G) (R : Value → G → Prop) (hF : F71 s g R) : CallsG Tryz.prog 71 #[(.string s)] g nobody R :=
  fn_soundG (c := cfg71) TTok FNSok mixed Tryz.func71 (show Tryz.f71.body = some c71 by kernel_rfl) (show Tryz.f71.ntmps = 6 by kernel_rfl) (show Tryz.f71.results.toList = [.tmp 2] by kernel_rfl) rfl ((F71_eq s g R).mpr hF)

/- 72 pilaster/scope.Order$1 -/
noncomputable def c72 : Code := match Tryz.f72.body with
  | some c => c
  | none => .skip
noncomputable def cfg72 : Cfg := ⟨Tryz.prog, TT, FNS, [1], [(1, 1)], [], TCH, false, false⟩
def an72 : AnnG := (.seq .leaf (.seq .leaf .leaf))
def F72 (u0 : ByteArray) (u1a : Option Addr) (u1l : Nat) (u1c : Nat) (u2a : Option Addr) (u2l : Nat) (u2c : Nat) (g : G) (R : Value → G → Prop) : Prop :=
  ∀ g1 : G, Ex g g1 →
  (CallsP Tryz.prog 73 #[(.agg ⟨[(.string u0), (.slice u1a u1l u1c), (.slice u2a u2l u2c)]⟩)] g1 fun v g2 =>
  ∃ x : Bool, v = (.bool x) ∧ ∀ g3 : G, Ex g2 g3 →
  R (.bool (!x)) g3)
theorem F72_eq (u0 : ByteArray) (u1a : Option Addr) (u1l : Nat) (u1c : Nat) (u2a : Option Addr) (u2l : Nat) (u2c : Nat) (g : G) (R : Value → G → Prop) : fnG cfg72 6 [.tmp 2] c72 an72 [(.agg ⟨[(.string u0), (.slice u1a u1l u1c), (.slice u2a u2l u2c)]⟩)] g nobody R = F72 u0 u1a u1l u1c u2a u2l u2c g R := by kernel_rfl
theorem call72 (u0 : ByteArray) (u1a : Option Addr) (u1l : Nat) (u1c : Nat) (u2a : Option Addr) (u2l : Nat) (u2c : Nat) (g : G) (R : Value → G → Prop) (hF : F72 u0 u1a u1l u1c u2a u2l u2c g R) : CallsG Tryz.prog 72 #[(.agg ⟨[(.string u0), (.slice u1a u1l u1c), (.slice u2a u2l u2c)]⟩)] g nobody R :=
  fn_soundG (c := cfg72) TTok FNSok mixed Tryz.func72 (show Tryz.f72.body = some c72 by kernel_rfl) (show Tryz.f72.ntmps = 6 by kernel_rfl) (show Tryz.f72.results.toList = [.tmp 2] by kernel_rfl) rfl ((F72_eq u0 u1a u1l u1c u2a u2l u2c g R).mpr hF)

/- 73 pilaster/scope.valid -/
noncomputable def c73 : Code := match Tryz.f73.body with
  | some c => c
  | none => .skip
noncomputable def cfg73 : Cfg := ⟨Tryz.prog, TT, FNS, [1], [(1, 1), (5, 1), (10, 1), (15, 1), (28, 1), (33, 1), (41, 1)], [], TCH, false, false⟩
def an73 : AnnG := (.seq .leaf (.join ⟨[], [], []⟩ (.seq .leaf (.cond (.seq .leaf .leaf) .leaf)) (.seq (.seq .leaf (.blk (.loop ⟨[(18, .int .i64)], [], []⟩ (.seq .leaf (.seq (.cond .leaf .leaf) (.seq (.blk (.seq .leaf (.seq .leaf (.cond (.seq .leaf .leaf) .leaf)))) .leaf)))))) (.seq .leaf .leaf))))
def F73 (u0 : ByteArray) (u1a : Option Addr) (u1l : Nat) (u1c : Nat) (u2a : Option Addr) (u2l : Nat) (u2c : Nat) (g : G) (R : Value → G → Prop) : Prop :=
  ∀ J : G → Prop,
  (∀ g1 : G, (∃ Inv : Nat → Int → G → Prop, ((∃ m0 : Nat, Inv m0 (0 : Int) g1)) ∧
  ∀ m : Nat, ∀ v_1 : Int, ∀ g2 : G, Le g1 g2 → Inv m v_1 g2 →
  ifB (ltI v_1 ((u1l : Nat) : Int))
  ((0 ≤ v_1 ∧ v_1 < ((u1l : Nat) : Int)) ∧ derefP u1a fun ad => ∃ s : ByteArray, g2.w.cell? (Addr.add ad (Int.toNat v_1 * 1)) = some (.string s) ∧ (CallsP Tryz.prog 111 #[(.string s)] g2 fun v g3 =>
  ∃ x : Bool, v = (.bool x) ∧ ifB (!x)
  (∀ g4 : G, Ex g3 g4 →
  R (.bool false) g4)
  (ifB (strEq s u0)
  (∀ g5 : G, Ex g3 g5 →
  R (.bool false) g5)
  ((0 ≤ v_1 ∧ v_1 ≤ ((u1c : Nat) : Int)) ∧ (CallsP Tryz.prog 19 #[(.slice (slAddr u1a u1c 0 1) ((Int.toNat v_1) - 0) (u1c - 0)), (.string s)] g3 fun v g6 =>
  ∃ x_1 : Bool, v = (.bool x_1) ∧ ifB x_1
  (∀ g7 : G, Ex g6 g7 →
  R (.bool false) g7)
  (InI64 (v_1 + (1 : Int)) ∧ (∃ m_1 : Nat, m_1 < m ∧ Inv m_1 (v_1 + (1 : Int)) g6)))))))
  ((CallsP Tryz.prog 58 #[(.int .i64 (7 : Int)), (.agg ⟨[(.int .i64 (81 : Int)), (.int .i64 (0 : Int)), (.string (bs [])), (.slice none 0 0), (.slice u2a u2l u2c)]⟩)] g2 fun v g8 =>
  ∃ x_2 : Bool, v = (.bool x_2) ∧ ∀ g9 : G, Ex g8 g9 →
  R (.bool x_2) g9))) → J g1) →
  ∀ g10 : G, Ex g g10 →
  (CallsP Tryz.prog 111 #[(.string u0)] g10 fun v g11 =>
  ∃ x_3 : Bool, v = (.bool x_3) ∧ ifB (!x_3)
  (∀ g12 : G, Ex g11 g12 →
  R (.bool false) g12)
  (ifB (ltI (16 : Int) ((u1l : Nat) : Int))
  (∀ g13 : G, Ex g11 g13 →
  R (.bool false) g13)
  (J g11)))
theorem F73_eq (u0 : ByteArray) (u1a : Option Addr) (u1l : Nat) (u1c : Nat) (u2a : Option Addr) (u2l : Nat) (u2c : Nat) (g : G) (R : Value → G → Prop) : fnG cfg73 45 [.tmp 2] c73 an73 [(.agg ⟨[(.string u0), (.slice u1a u1l u1c), (.slice u2a u2l u2c)]⟩)] g nobody R = F73 u0 u1a u1l u1c u2a u2l u2c g R := by kernel_rfl
theorem call73 (u0 : ByteArray) (u1a : Option Addr) (u1l : Nat) (u1c : Nat) (u2a : Option Addr) (u2l : Nat) (u2c : Nat) (g : G) (R : Value → G → Prop) (hF : F73 u0 u1a u1l u1c u2a u2l u2c g R) : CallsG Tryz.prog 73 #[(.agg ⟨[(.string u0), (.slice u1a u1l u1c), (.slice u2a u2l u2c)]⟩)] g nobody R :=
  fn_soundG (c := cfg73) TTok FNSok mixed Tryz.func73 (show Tryz.f73.body = some c73 by kernel_rfl) (show Tryz.f73.ntmps = 45 by kernel_rfl) (show Tryz.f73.results.toList = [.tmp 2] by kernel_rfl) rfl ((F73_eq u0 u1a u1l u1c u2a u2l u2c g R).mpr hF)

/- 79 pilaster/pilasterref07.Has -/
/- 81 pilaster/pilasterref03.belongs -/
/- 82 pilaster/pilasterref03.Formed -/
/- 83 pilaster/pilasterref07.free -/
/- 84 pilaster/pilasterref07.merge -/
/- 88 pilaster/scope.label -/
noncomputable def c88 : Code := match Tryz.f88.body with
  | some c => c
  | none => .skip
noncomputable def cfg88 : Cfg := ⟨Tryz.prog, TT, FNS, [], [], [], TCH, false, false⟩
def an88 : AnnG := (.seq .leaf (.seq .leaf (.seq .leaf .leaf)))
def F88 (kind : Int) (name : ByteArray) (g : G) (R : Value → G → Prop) : Prop :=
  (CallsP Tryz.prog 121 #[(.int .i64 kind), (.string name)] g fun v g1 =>
  ∃ x0 : ByteArray, ∃ x1 : Int, v = (.tuple ⟨[(.string x0), (.int .i64 x1)]⟩) ∧ ∀ g2 : G, Ex g1 g2 →
  R (.string x0) g2)
theorem F88_eq (kind : Int) (name : ByteArray) (g : G) (R : Value → G → Prop) : fnG cfg88 14 [.tmp 4] c88 an88 [(.int .i64 kind), (.string name)] g nobody R = F88 kind name g R := by kernel_rfl
theorem call88 (kind : Int) (name : ByteArray) (g : G) (R : Value → G → Prop) (hF : F88 kind name g R) : CallsG Tryz.prog 88 #[(.int .i64 kind), (.string name)] g nobody R :=
  fn_soundG (c := cfg88) TTok FNSok mixed Tryz.func88 (show Tryz.f88.body = some c88 by kernel_rfl) (show Tryz.f88.ntmps = 14 by kernel_rfl) (show Tryz.f88.results.toList = [.tmp 4] by kernel_rfl) rfl ((F88_eq kind name g R).mpr hF)

/- 89 pilaster/pilasterref01.IsUpper -/
/- 92 slices.IndexFunc[[]pilaster/api.Syn,pilaster/api.Syn] -/
noncomputable def c92 : Code := match Tryz.f92.body with
  | some c => c
  | none => .skip
noncomputable def cfg92 : Cfg := ⟨Tryz.prog, TT, FNS, [], [], [], TCH, true, false⟩
def an92 : AnnG := (.seq .leaf (.seq (.seq .leaf (.blk (.loop ⟨[(8, .int .i64)], [], []⟩ (.seq .leaf (.seq (.cond .leaf .leaf) (.seq (.blk (.seq .leaf (.seq .leaf (.cond (.seq .leaf .leaf) .leaf)))) .leaf)))))) (.seq .leaf .leaf)))
def F92 (sa : Option Addr) (sl : Nat) (sc : Nat) (ff : FuncId) (fc : Array Value) (g : G) (M : Nat → Prop) (R : Value → G → Prop) : Prop :=
  ∃ Inv : Nat → Int → G → Prop, ((∃ m0 : Nat, Inv m0 (0 : Int) g)) ∧
  ∀ m : Nat, ∀ v_1 : Int, ∀ g1 : G, Le g g1 → Inv m v_1 g1 →
  ifB (ltI v_1 ((sl : Nat) : Int))
  ((0 ≤ v_1 ∧ v_1 < ((sl : Nat) : Int)) ∧ derefP sa fun ad => ∃ x0 : Int, ∃ x1 : Int, ∃ x2 : ByteArray, ∃ x3a : Option Addr, ∃ x3l : Nat, ∃ x3c : Nat, ∃ x4a : Option Addr, ∃ x4l : Nat, ∃ x4c : Nat, g1.w.cell? (Addr.add ad (Int.toNat v_1 * 5)) = some (.int .i64 x0) ∧ g1.w.cell? (Addr.add (Addr.add ad (Int.toNat v_1 * 5)) 1) = some (.int .i64 x1) ∧ g1.w.cell? (Addr.add (Addr.add ad (Int.toNat v_1 * 5)) 2) = some (.string x2) ∧ g1.w.cell? (Addr.add (Addr.add ad (Int.toNat v_1 * 5)) 3) = some (.slice x3a x3l x3c) ∧ g1.w.cell? (Addr.add (Addr.add ad (Int.toNat v_1 * 5)) 4) = some (.slice x4a x4l x4c) ∧ Enters Tryz.prog ff ∧ ∃ M1 : Nat → Prop, (∀ b, b < g.w.heap.size → M1 b → M b) ∧ (CallsG Tryz.prog ff ((⟨[(.agg ⟨[(.int .i64 x0), (.int .i64 x1), (.string x2), (.slice x3a x3l x3c), (.slice x4a x4l x4c)]⟩)]⟩ : Array Value) ++ fc) g1 M1 fun v g2 =>
  ∃ x : Bool, v = (.bool x) ∧ ifB x
  (∀ g3 : G, Ex g2 g3 →
  R (.int .i64 v_1) g3)
  (InI64 (v_1 + (1 : Int)) ∧ (∃ m_1 : Nat, m_1 < m ∧ Inv m_1 (v_1 + (1 : Int)) g2))))
  (∀ g4 : G, Ex g1 g4 →
  R (.int .i64 (-1 : Int)) g4)
theorem F92_eq (sa : Option Addr) (sl : Nat) (sc : Nat) (ff : FuncId) (fc : Array Value) (g : G) (M : Nat → Prop) (R : Value → G → Prop) : fnG cfg92 19 [.tmp 4] c92 an92 [(.slice sa sl sc), (.func (.func ff) #[] fc)] g M R = F92 sa sl sc ff fc g M R := by kernel_rfl
theorem call92 (sa : Option Addr) (sl : Nat) (sc : Nat) (ff : FuncId) (fc : Array Value) (g : G) (M : Nat → Prop) (R : Value → G → Prop) (hF : F92 sa sl sc ff fc g M R) : CallsG Tryz.prog 92 #[(.slice sa sl sc), (.func (.func ff) #[] fc)] g M R :=
  fn_soundG (c := cfg92) TTok FNSok mixed Tryz.func92 (show Tryz.f92.body = some c92 by kernel_rfl) (show Tryz.f92.ntmps = 19 by kernel_rfl) (show Tryz.f92.results.toList = [.tmp 4] by kernel_rfl) rfl ((F92_eq sa sl sc ff fc g M R).mpr hF)

/- 93 pilaster/pilasterlaw07.few$1 -/
noncomputable def c93 : Code := match Tryz.f93.body with
  | some c => c
  | none => .skip
noncomputable def cfg93 : Cfg := ⟨Tryz.prog, TT, FNS, [], [], [], TCH, false, false⟩
def an93 : AnnG := (.seq .leaf (.seq .leaf .leaf))
def F93 (s : ByteArray) (g : G) (M : Nat → Prop) (R : Value → G → Prop) : Prop :=
  ∀ g1 : G, Ex g g1 →
  R (.bool (ltI (60 : Int) ((s.size : Nat) : Int))) g1
theorem F93_eq (s : ByteArray) (g : G) (M : Nat → Prop) (R : Value → G → Prop) : fnG cfg93 6 [.tmp 2] c93 an93 [(.string s)] g M R = F93 s g M R := by kernel_rfl
theorem call93 (s : ByteArray) (g : G) (M : Nat → Prop) (R : Value → G → Prop) (hF : F93 s g M R) : CallsG Tryz.prog 93 #[(.string s)] g M R :=
  fn_soundG (c := cfg93) TTok FNSok mixed Tryz.func93 (show Tryz.f93.body = some c93 by kernel_rfl) (show Tryz.f93.ntmps = 6 by kernel_rfl) (show Tryz.f93.results.toList = [.tmp 2] by kernel_rfl) rfl ((F93_eq s g M R).mpr hF)

/- 94 pilaster/pilasterlaw07.few$2 -/
noncomputable def c94 : Code := match Tryz.f94.body with
  | some c => c
  | none => .skip
noncomputable def cfg94 : Cfg := ⟨Tryz.prog, TT, FNS, [3], [(3, 3)], [], TCH, false, false⟩
def an94 : AnnG := (.seq .leaf (.seq .leaf .leaf))
def F94 (x0 : Int) (x1 : Int) (x2 : ByteArray) (x3a : Option Addr) (x3l : Nat) (x3c : Nat) (x4a : Option Addr) (x4l : Nat) (x4c : Nat) (c0 : Option Addr) (c1 : Option Addr) (g : G) (M : Nat → Prop) (R : Value → G → Prop) : Prop :=
  ∀ g1 : G, Ex g g1 →
  derefP c0 fun ad => ∃ x : Option Addr, g1.w.cell? ad = some (.pointer x) ∧ derefP c1 fun ad_1 => ∃ x_1 : Int, g1.w.cell? ad_1 = some (.int .i64 x_1) ∧ InI64 (x_1 + (1 : Int)) ∧ ∃ M1 : Nat → Prop, (∀ b, b < g.w.heap.size → M1 b → M b) ∧ (CallsG Tryz.prog 57 #[(.agg ⟨[(.int .i64 x0), (.int .i64 x1), (.string x2), (.slice x3a x3l x3c), (.slice x4a x4l x4c)]⟩), (.pointer x), (.int .i64 (x_1 + (1 : Int)))] g1 M1 fun v g2 =>
  ∃ x_2 : Bool, v = (.bool x_2) ∧ ∀ g3 : G, Ex g2 g3 →
  R (.bool (!x_2)) g3)
theorem F94_eq (x0 : Int) (x1 : Int) (x2 : ByteArray) (x3a : Option Addr) (x3l : Nat) (x3c : Nat) (x4a : Option Addr) (x4l : Nat) (x4c : Nat) (c0 : Option Addr) (c1 : Option Addr) (g : G) (M : Nat → Prop) (R : Value → G → Prop) : fnG cfg94 11 [.tmp 4] c94 an94 [(.agg ⟨[(.int .i64 x0), (.int .i64 x1), (.string x2), (.slice x3a x3l x3c), (.slice x4a x4l x4c)]⟩), (.pointer c0), (.pointer c1)] g M R = F94 x0 x1 x2 x3a x3l x3c x4a x4l x4c c0 c1 g M R := by kernel_rfl
theorem call94 (x0 : Int) (x1 : Int) (x2 : ByteArray) (x3a : Option Addr) (x3l : Nat) (x3c : Nat) (x4a : Option Addr) (x4l : Nat) (x4c : Nat) (c0 : Option Addr) (c1 : Option Addr) (g : G) (M : Nat → Prop) (R : Value → G → Prop) (hF : F94 x0 x1 x2 x3a x3l x3c x4a x4l x4c c0 c1 g M R) : CallsG Tryz.prog 94 #[(.agg ⟨[(.int .i64 x0), (.int .i64 x1), (.string x2), (.slice x3a x3l x3c), (.slice x4a x4l x4c)]⟩), (.pointer c0), (.pointer c1)] g M R :=
  fn_soundG (c := cfg94) TTok FNSok mixed Tryz.func94 (show Tryz.f94.body = some c94 by kernel_rfl) (show Tryz.f94.ntmps = 11 by kernel_rfl) (show Tryz.f94.results.toList = [.tmp 4] by kernel_rfl) rfl ((F94_eq x0 x1 x2 x3a x3l x3c x4a x4l x4c c0 c1 g M R).mpr hF)

/- 95 pilaster/syntax.belongs -/
noncomputable def c95 : Code := match Tryz.f95.body with
  | some c => c
  | none => .skip
noncomputable def cfg95 : Cfg := ⟨Tryz.prog, TT, FNS, [3], [(3, 3), (8, 3), (12, 3), (20, 3)], [], TCH, false, false⟩
def an95 : AnnG := (.seq .leaf (.join ⟨[], [], []⟩ (.seq .leaf (.cond (.seq .leaf .leaf) .leaf)) (.seq .leaf .leaf)))
def F95 (cat : Int) (t0 : Int) (t1 : Int) (t2 : ByteArray) (t3a : Option Addr) (t3l : Nat) (t3c : Nat) (t4a : Option Addr) (t4l : Nat) (t4c : Nat) (g : G) (R : Value → G → Prop) : Prop :=
  ∀ J : G → Prop,
  (∀ g1 : G, (ifB (!eqI cat (0 : Int))
  ((CallsP Tryz.prog 60 #[(.int .i64 t0)] g1 fun v g2 =>
  ∃ x : Int, v = (.int .i64 x) ∧ ∀ g3 : G, Ex g2 g3 →
  R (.bool (eqI x cat)) g3))
  (∀ g4 : G, Ex g1 g4 →
  R (.bool false) g4)) → J g1) →
  ifB (eqI cat (5 : Int))
  (ifB (eqI t0 (43 : Int))
  (∀ g5 : G, Ex g g5 →
  R (.bool true) g5)
  (ifB (eqI t0 (44 : Int))
  (∀ g6 : G, Ex g g6 →
  R (.bool true) g6)
  (∀ g7 : G, Ex g g7 →
  J g7)))
  (∀ g8 : G, Ex g g8 →
  J g8)
theorem F95_eq (cat : Int) (t0 : Int) (t1 : Int) (t2 : ByteArray) (t3a : Option Addr) (t3l : Nat) (t3c : Nat) (t4a : Option Addr) (t4l : Nat) (t4c : Nat) (g : G) (R : Value → G → Prop) : fnG cfg95 26 [.tmp 4] c95 an95 [(.int .i64 cat), (.agg ⟨[(.int .i64 t0), (.int .i64 t1), (.string t2), (.slice t3a t3l t3c), (.slice t4a t4l t4c)]⟩)] g nobody R = F95 cat t0 t1 t2 t3a t3l t3c t4a t4l t4c g R := by kernel_rfl
theorem call95 (cat : Int) (t0 : Int) (t1 : Int) (t2 : ByteArray) (t3a : Option Addr) (t3l : Nat) (t3c : Nat) (t4a : Option Addr) (t4l : Nat) (t4c : Nat) (g : G) (R : Value → G → Prop) (hF : F95 cat t0 t1 t2 t3a t3l t3c t4a t4l t4c g R) : CallsG Tryz.prog 95 #[(.int .i64 cat), (.agg ⟨[(.int .i64 t0), (.int .i64 t1), (.string t2), (.slice t3a t3l t3c), (.slice t4a t4l t4c)]⟩)] g nobody R :=
  fn_soundG (c := cfg95) TTok FNSok mixed Tryz.func95 (show Tryz.f95.body = some c95 by kernel_rfl) (show Tryz.f95.ntmps = 26 by kernel_rfl) (show Tryz.f95.results.toList = [.tmp 4] by kernel_rfl) rfl ((F95_eq cat t0 t1 t2 t3a t3l t3c t4a t4l t4c g R).mpr hF)

/- 96 pilaster/syntax.formed -/
noncomputable def c96 : Code := match Tryz.f96.body with
  | some c => c
  | none => .skip
noncomputable def cfg96 : Cfg := ⟨Tryz.prog, TT, FNS, [1], [(1, 1)], [4], TCH, true, false⟩
def an96 : AnnG := (.seq .leaf (.seq .leaf (.seq .leaf (.seq .leaf (.seq .leaf .leaf)))))
def F96 (t0 : Int) (t1 : Int) (t2 : ByteArray) (t3a : Option Addr) (t3l : Nat) (t3c : Nat) (t4a : Option Addr) (t4l : Nat) (t4c : Nat) (g : G) (R : Value → G → Prop) : Prop :=
  ∀ g1 : G, Ex g g1 →
  ∀ g2 : G, NewD g1 g2 3 [(.int .i64 (0 : Int))] →
  stOk g2.w ⟨g1.w.heap.size, 0, none⟩ 1 ∧ ¬ g2.X (Addr.block ⟨g1.w.heap.size, 0, none⟩) ∧ mutAt g2 ⟨g1.w.heap.size, 0, none⟩ 1 ∧ ((Addr.block ⟨g1.w.heap.size, 0, none⟩) < g.w.heap.size → nobody (Addr.block ⟨g1.w.heap.size, 0, none⟩)) ∧ ∀ g3 : G, StG false g2 ⟨g1.w.heap.size, 0, none⟩ [(.int .i64 (0 : Int))] g3 →
  ∀ g4 : G, NewD g3 g4 121 [.nilFunc] →
  stOk g4.w ⟨g3.w.heap.size, 0, none⟩ 1 ∧ ¬ g4.X (Addr.block ⟨g3.w.heap.size, 0, none⟩) ∧ mutAt g4 ⟨g3.w.heap.size, 0, none⟩ 1 ∧ ((Addr.block ⟨g3.w.heap.size, 0, none⟩) < g.w.heap.size → nobody (Addr.block ⟨g3.w.heap.size, 0, none⟩)) ∧ ∀ g5 : G, StG true g4 ⟨g3.w.heap.size, 0, none⟩ [(.func (.func 124) #[] ⟨[(.pointer (some ⟨g1.w.heap.size, 0, none⟩)), (.pointer (some ⟨g3.w.heap.size, 0, none⟩))]⟩)] g5 →
  ∃ walkf : FuncId, ∃ walkc : Array Value, g5.w.cell? ⟨g3.w.heap.size, 0, none⟩ = some (.func (.func walkf) #[] walkc) ∧ Enters Tryz.prog walkf ∧ ∃ M1 : Nat → Prop, (∀ b, b < g.w.heap.size → M1 b → nobody b) ∧ (CallsG Tryz.prog walkf ((⟨[(.agg ⟨[(.int .i64 t0), (.int .i64 t1), (.string t2), (.slice t3a t3l t3c), (.slice t4a t4l t4c)]⟩), (.int .i64 (1 : Int)), (.bool false)]⟩ : Array Value) ++ walkc) g5 M1 fun v g6 =>
  ∃ x : Bool, v = (.bool x) ∧ ∀ g7 : G, Ex g6 g7 →
  R (.bool x) g7)
theorem F96_eq (t0 : Int) (t1 : Int) (t2 : ByteArray) (t3a : Option Addr) (t3l : Nat) (t3c : Nat) (t4a : Option Addr) (t4l : Nat) (t4c : Nat) (g : G) (R : Value → G → Prop) : fnG cfg96 9 [.tmp 2] c96 an96 [(.agg ⟨[(.int .i64 t0), (.int .i64 t1), (.string t2), (.slice t3a t3l t3c), (.slice t4a t4l t4c)]⟩)] g nobody R = F96 t0 t1 t2 t3a t3l t3c t4a t4l t4c g R := by kernel_rfl
theorem call96 (t0 : Int) (t1 : Int) (t2 : ByteArray) (t3a : Option Addr) (t3l : Nat) (t3c : Nat) (t4a : Option Addr) (t4l : Nat) (t4c : Nat) (g : G) (R : Value → G → Prop) (hF : F96 t0 t1 t2 t3a t3l t3c t4a t4l t4c g R) : CallsG Tryz.prog 96 #[(.agg ⟨[(.int .i64 t0), (.int .i64 t1), (.string t2), (.slice t3a t3l t3c), (.slice t4a t4l t4c)]⟩)] g nobody R :=
  fn_soundG (c := cfg96) TTok FNSok mixed Tryz.func96 (show Tryz.f96.body = some c96 by kernel_rfl) (show Tryz.f96.ntmps = 9 by kernel_rfl) (show Tryz.f96.results.toList = [.tmp 2] by kernel_rfl) rfl ((F96_eq t0 t1 t2 t3a t3l t3c t4a t4l t4c g R).mpr hF)

/- 97 (*pilaster/scope.walker).walk -/
noncomputable def c97 : Code := match Tryz.f97.body with
  | some c => c
  | none => .skip
noncomputable def cfg97 : Cfg := ⟨Tryz.prog, TT, FNS, [4, 9, 15, 17], [(4, 4), (9, 9), (15, 15), (17, 17), (35, 4), (37, 4), (54, 4), (78, 4), (85, 4), (95, 4), (104, 4), (113, 4), (119, 4), (133, 4), (138, 4), (152, 4), (166, 4), (171, 4), (187, 4), (194, 4), (204, 4)], [], TCH, false, false⟩
def an97 : AnnG := (.seq .leaf (.join ⟨[], [], []⟩ (.seq .leaf (.seq .leaf (.cond .leaf .leaf))) (.seq .leaf (.blk (.join ⟨[(49, .bool)], [], []⟩ (.seq .leaf (.cond .leaf (.seq .leaf (.cond .leaf (.seq .leaf (.cond .leaf .leaf)))))) (.cond (.seq .leaf (.blk (.loop ⟨[(2, .sl), (57, .int .i64)], [], []⟩ (.seq .leaf (.seq (.cond .leaf .leaf) (.seq (.blk (.seq .leaf (.seq .leaf (.tree 8 (.quiet 0 (.quiet 1 (.quiet 2 (.quiet 3 (.quiet 4 (.quiet 5 (.quiet 6 (.eff 7 .fin .fin)))))))))))) .leaf)))))) (.seq .leaf (.cond (.seq .leaf (.tree 17 (.quiet 0 (.quiet 1 (.quiet 2 (.quiet 3 (.quiet 4 (.quiet 5 (.quiet 6 (.quiet 7 (.quiet 8 (.quiet 9 (.quiet 10 (.quiet 11 (.quiet 12 (.quiet 13 (.quiet 14 (.eff 15 (.eff 16 .fin .fin) .fin)))))))))))))))))) (.seq .leaf (.cond (.join ⟨[(2, .sl)], [], []⟩ (.seq .leaf (.cond (.tree 10 (.quiet 0 (.quiet 1 (.quiet 2 (.quiet 3 (.quiet 4 (.quiet 5 (.quiet 6 (.quiet 7 (.eff 8 (.eff 9 .fin .fin) .fin)))))))))) .leaf)) .leaf) (.seq .leaf (.cond (.seq (.tree 10 (.quiet 0 (.quiet 1 (.quiet 2 (.quiet 3 (.quiet 4 (.quiet 5 (.quiet 6 (.quiet 7 (.eff 8 (.eff 9 .fin .fin) .fin)))))))))) (.seq (.seq .leaf (.blk (.loop ⟨[(10, .sl), (141, .int .i64)], [], []⟩ (.seq .leaf (.seq (.cond .leaf .leaf) (.seq (.blk (.seq .leaf .leaf)) .leaf)))))) .leaf)) (.seq .leaf (.cond (.seq (.tree 10 (.quiet 0 (.quiet 1 (.quiet 2 (.quiet 3 (.quiet 4 (.quiet 5 (.quiet 6 (.quiet 7 (.eff 8 (.eff 9 .fin .fin) .fin)))))))))) (.seq .leaf (.blk (.loop ⟨[(174, .int .i64)], [], []⟩ (.seq .leaf (.seq (.cond .leaf .leaf) (.seq (.blk (.seq .leaf .leaf)) .leaf))))))) (.join ⟨[(183, .bool)], [], []⟩ (.seq .leaf (.cond .leaf .leaf)) (.cond (.seq .leaf (.tree 16 (.quiet 0 (.quiet 1 (.quiet 2 (.quiet 3 (.quiet 4 (.quiet 5 (.quiet 6 (.quiet 7 (.quiet 8 (.quiet 9 (.quiet 10 (.quiet 11 (.quiet 12 (.eff 13 (.eff 14 (.eff 15 .fin .fin) .fin) .fin)))))))))))))))) (.seq .leaf (.blk (.loop ⟨[(40, .int .i64)], [], []⟩ (.seq .leaf (.seq (.cond .leaf .leaf) (.seq (.blk (.seq .leaf .leaf)) .leaf))))))))))))))))))))))
def F97 (w0 : Option Addr) (t0 : Int) (t1 : Int) (t2 : ByteArray) (t3a : Option Addr) (t3l : Nat) (t3c : Nat) (t4a : Option Addr) (t4l : Nat) (t4c : Nat) (bounda : Option Addr) (boundl : Nat) (boundc : Nat) (g : G) (M : Nat → Prop) (R : Value → G → Prop) : Prop :=
  ∀ J : G → Prop,
  (∀ g1 : G, (∀ J_1 : Bool → G → Prop,
  (∀ v_1 : Bool, ∀ g2 : G, (ifB v_1
  (∃ Inv : Nat → Option Addr → Nat → Nat → Int → G → Prop, ((∃ m0 : Nat, Inv m0 bounda boundl boundc (0 : Int) g2)) ∧
  ∀ m : Nat, ∀ bounda_1 : Option Addr, ∀ boundl_1 : Nat, ∀ boundc_1 : Nat, ∀ v_2 : Int, ∀ g3 : G, Le g2 g3 → Inv m bounda_1 boundl_1 boundc_1 v_2 g3 →
  ifB (ltI v_2 ((t4l : Nat) : Int))
  ((0 ≤ v_2 ∧ v_2 < ((t4l : Nat) : Int)) ∧ derefP t4a fun ad => ∃ x0 : Int, ∃ x1 : Int, ∃ x2 : ByteArray, ∃ x3a : Option Addr, ∃ x3l : Nat, ∃ x3c : Nat, ∃ x4a : Option Addr, ∃ x4l : Nat, ∃ x4c : Nat, g3.w.cell? (Addr.add ad (Int.toNat v_2 * 5)) = some (.int .i64 x0) ∧ g3.w.cell? (Addr.add (Addr.add ad (Int.toNat v_2 * 5)) 1) = some (.int .i64 x1) ∧ g3.w.cell? (Addr.add (Addr.add ad (Int.toNat v_2 * 5)) 2) = some (.string x2) ∧ g3.w.cell? (Addr.add (Addr.add ad (Int.toNat v_2 * 5)) 3) = some (.slice x3a x3l x3c) ∧ g3.w.cell? (Addr.add (Addr.add ad (Int.toNat v_2 * 5)) 4) = some (.slice x4a x4l x4c) ∧ ∀ g4 : G, Ex g3 g4 →
  ∃ M1 : Nat → Prop, (∀ b, b < g.w.heap.size → M1 b → M b) ∧ (CallsG Tryz.prog 97 #[(.pointer w0), (.agg ⟨[(.int .i64 x0), (.int .i64 x1), (.string x2), (.slice x3a x3l x3c), (.slice x4a x4l x4c)]⟩), (.slice bounda_1 boundl_1 boundc_1)] g4 M1 fun v g5 =>
  v = (.tuple ⟨[]⟩) ∧ ∀ g6 : G, Ex g5 g6 →
  (0 ≤ ((boundl_1 : Nat) : Int) ∧ ((boundl_1 : Nat) : Int) ≤ ((boundc_1 : Nat) : Int)) ∧ (0 ≤ ((boundl_1 : Nat) : Int) ∧ ((boundl_1 : Nat) : Int) ≤ (((Int.toNat ((boundl_1 : Nat) : Int)) : Nat) : Int)) ∧ (CallsP Tryz.prog 61 #[(.agg ⟨[(.int .i64 x0), (.int .i64 x1), (.string x2), (.slice x3a x3l x3c), (.slice x4a x4l x4c)]⟩)] g6 fun v g7 =>
  ∃ xa : Option Addr, ∃ xl : Nat, ∃ xc : Nat, v = (.slice xa xl xc) ∧ ∃ bounda_2 : Option Addr, ∃ boundl_2 : Nat, ∃ boundc_2 : Nat, ∃ wo1 : World, Sem.run Tryz.prog (Builtin.append_ #[22, 22] 22 #[(.slice (slAddr bounda_1 (Int.toNat ((boundl_1 : Nat) : Int)) 0 1) ((Int.toNat ((boundl_1 : Nat) : Int)) - 0) ((Int.toNat ((boundl_1 : Nat) : Int)) - 0)), (.slice xa xl xc)]) g7.w = .ok (.slice bounda_2 boundl_2 boundc_2) wo1 ∧ ∃ g8 : G, g8.w = wo1 ∧ Stp g.w.heap.size M g7 g8 ∧ InI64 (v_2 + (1 : Int)) ∧ (∃ m_1 : Nat, m_1 < m ∧ Inv m_1 bounda_2 boundl_2 boundc_2 (v_2 + (1 : Int)) g8))))
  (∀ g9 : G, Ex g3 g9 →
  R (.tuple ⟨[]⟩) g9))
  (ifB (eqI t0 (30 : Int))
  ((0 ≤ (0 : Int) ∧ (0 : Int) < ((t4l : Nat) : Int)) ∧ derefP t4a fun ad_1 => ∃ x0_1 : Int, ∃ x1_1 : Int, ∃ x2_1 : ByteArray, ∃ x3a_1 : Option Addr, ∃ x3l_1 : Nat, ∃ x3c_1 : Nat, ∃ x4a_1 : Option Addr, ∃ x4l_1 : Nat, ∃ x4c_1 : Nat, g2.w.cell? (Addr.add ad_1 (Int.toNat (0 : Int) * 5)) = some (.int .i64 x0_1) ∧ g2.w.cell? (Addr.add (Addr.add ad_1 (Int.toNat (0 : Int) * 5)) 1) = some (.int .i64 x1_1) ∧ g2.w.cell? (Addr.add (Addr.add ad_1 (Int.toNat (0 : Int) * 5)) 2) = some (.string x2_1) ∧ g2.w.cell? (Addr.add (Addr.add ad_1 (Int.toNat (0 : Int) * 5)) 3) = some (.slice x3a_1 x3l_1 x3c_1) ∧ g2.w.cell? (Addr.add (Addr.add ad_1 (Int.toNat (0 : Int) * 5)) 4) = some (.slice x4a_1 x4l_1 x4c_1) ∧ ∃ M3 : Nat → Prop, (∀ b, b < g.w.heap.size → M3 b → M b) ∧ (CallsG Tryz.prog 97 #[(.pointer w0), (.agg ⟨[(.int .i64 x0_1), (.int .i64 x1_1), (.string x2_1), (.slice x3a_1 x3l_1 x3c_1), (.slice x4a_1 x4l_1 x4c_1)]⟩), (.slice bounda boundl boundc)] g2 M3 fun v g10 =>
  v = (.tuple ⟨[]⟩) ∧ ∀ g11 : G, Ex g10 g11 →
  (0 ≤ (1 : Int) ∧ (1 : Int) < ((t4l : Nat) : Int)) ∧ derefP t4a fun ad_2 => ∃ x0_2 : Int, ∃ x1_2 : Int, ∃ x2_2 : ByteArray, ∃ x3a_2 : Option Addr, ∃ x3l_2 : Nat, ∃ x3c_2 : Nat, ∃ x4a_2 : Option Addr, ∃ x4l_2 : Nat, ∃ x4c_2 : Nat, g11.w.cell? (Addr.add ad_2 (Int.toNat (1 : Int) * 5)) = some (.int .i64 x0_2) ∧ g11.w.cell? (Addr.add (Addr.add ad_2 (Int.toNat (1 : Int) * 5)) 1) = some (.int .i64 x1_2) ∧ g11.w.cell? (Addr.add (Addr.add ad_2 (Int.toNat (1 : Int) * 5)) 2) = some (.string x2_2) ∧ g11.w.cell? (Addr.add (Addr.add ad_2 (Int.toNat (1 : Int) * 5)) 3) = some (.slice x3a_2 x3l_2 x3c_2) ∧ g11.w.cell? (Addr.add (Addr.add ad_2 (Int.toNat (1 : Int) * 5)) 4) = some (.slice x4a_2 x4l_2 x4c_2) ∧ (0 ≤ ((boundl : Nat) : Int) ∧ ((boundl : Nat) : Int) ≤ ((boundc : Nat) : Int)) ∧ (0 ≤ ((boundl : Nat) : Int) ∧ ((boundl : Nat) : Int) ≤ (((Int.toNat ((boundl : Nat) : Int)) : Nat) : Int)) ∧ (0 ≤ (0 : Int) ∧ (0 : Int) < ((t4l : Nat) : Int)) ∧ derefP t4a fun ad_3 => ∃ x0_3 : Int, ∃ x1_3 : Int, ∃ x2_3 : ByteArray, ∃ x3a_3 : Option Addr, ∃ x3l_3 : Nat, ∃ x3c_3 : Nat, ∃ x4a_3 : Option Addr, ∃ x4l_3 : Nat, ∃ x4c_3 : Nat, g11.w.cell? (Addr.add ad_3 (Int.toNat (0 : Int) * 5)) = some (.int .i64 x0_3) ∧ g11.w.cell? (Addr.add (Addr.add ad_3 (Int.toNat (0 : Int) * 5)) 1) = some (.int .i64 x1_3) ∧ g11.w.cell? (Addr.add (Addr.add ad_3 (Int.toNat (0 : Int) * 5)) 2) = some (.string x2_3) ∧ g11.w.cell? (Addr.add (Addr.add ad_3 (Int.toNat (0 : Int) * 5)) 3) = some (.slice x3a_3 x3l_3 x3c_3) ∧ g11.w.cell? (Addr.add (Addr.add ad_3 (Int.toNat (0 : Int) * 5)) 4) = some (.slice x4a_3 x4l_3 x4c_3) ∧ (CallsP Tryz.prog 61 #[(.agg ⟨[(.int .i64 x0_3), (.int .i64 x1_3), (.string x2_3), (.slice x3a_3 x3l_3 x3c_3), (.slice x4a_3 x4l_3 x4c_3)]⟩)] g11 fun v g12 =>
  ∃ xa_1 : Option Addr, ∃ xl_1 : Nat, ∃ xc_1 : Nat, v = (.slice xa_1 xl_1 xc_1) ∧ ∃ xa_2 : Option Addr, ∃ xl_2 : Nat, ∃ xc_2 : Nat, ∃ wo2 : World, Sem.run Tryz.prog (Builtin.append_ #[22, 22] 22 #[(.slice (slAddr bounda (Int.toNat ((boundl : Nat) : Int)) 0 1) ((Int.toNat ((boundl : Nat) : Int)) - 0) ((Int.toNat ((boundl : Nat) : Int)) - 0)), (.slice xa_1 xl_1 xc_1)]) g12.w = .ok (.slice xa_2 xl_2 xc_2) wo2 ∧ ∃ g13 : G, g13.w = wo2 ∧ Stp g.w.heap.size M g12 g13 ∧ SameB g11 g13 ∧ ∃ M2 : Nat → Prop, (∀ b, b < g.w.heap.size → M2 b → M b) ∧ (CallsG Tryz.prog 97 #[(.pointer w0), (.agg ⟨[(.int .i64 x0_2), (.int .i64 x1_2), (.string x2_2), (.slice x3a_2 x3l_2 x3c_2), (.slice x4a_2 x4l_2 x4c_2)]⟩), (.slice xa_2 xl_2 xc_2)] g13 M2 fun v g14 =>
  v = (.tuple ⟨[]⟩) ∧ ∀ g15 : G, Ex g14 g15 →
  R (.tuple ⟨[]⟩) g15))))
  (ifB (eqI t0 (25 : Int))
  (∀ J_2 : Option Addr → Nat → Nat → G → Prop,
  (∀ bounda_3 : Option Addr, ∀ boundl_3 : Nat, ∀ boundc_3 : Nat, ∀ g16 : G, ((0 ≤ (0 : Int) ∧ (0 : Int) < ((t4l : Nat) : Int)) ∧ derefP t4a fun ad_4 => ∃ x0_4 : Int, ∃ x1_4 : Int, ∃ x2_4 : ByteArray, ∃ x3a_4 : Option Addr, ∃ x3l_4 : Nat, ∃ x3c_4 : Nat, ∃ x4a_4 : Option Addr, ∃ x4l_4 : Nat, ∃ x4c_4 : Nat, g16.w.cell? (Addr.add ad_4 (Int.toNat (0 : Int) * 5)) = some (.int .i64 x0_4) ∧ g16.w.cell? (Addr.add (Addr.add ad_4 (Int.toNat (0 : Int) * 5)) 1) = some (.int .i64 x1_4) ∧ g16.w.cell? (Addr.add (Addr.add ad_4 (Int.toNat (0 : Int) * 5)) 2) = some (.string x2_4) ∧ g16.w.cell? (Addr.add (Addr.add ad_4 (Int.toNat (0 : Int) * 5)) 3) = some (.slice x3a_4 x3l_4 x3c_4) ∧ g16.w.cell? (Addr.add (Addr.add ad_4 (Int.toNat (0 : Int) * 5)) 4) = some (.slice x4a_4 x4l_4 x4c_4) ∧ ∃ M4 : Nat → Prop, (∀ b, b < g.w.heap.size → M4 b → M b) ∧ (CallsG Tryz.prog 97 #[(.pointer w0), (.agg ⟨[(.int .i64 x0_4), (.int .i64 x1_4), (.string x2_4), (.slice x3a_4 x3l_4 x3c_4), (.slice x4a_4 x4l_4 x4c_4)]⟩), (.slice bounda_3 boundl_3 boundc_3)] g16 M4 fun v g17 =>
  v = (.tuple ⟨[]⟩) ∧ ∀ g18 : G, Ex g17 g18 →
  R (.tuple ⟨[]⟩) g18)) → J_2 bounda_3 boundl_3 boundc_3 g16) →
  ifB (!strEq t2 (bs []))
  (∀ g19 : G, Ex g2 g19 →
  (0 ≤ ((boundl : Nat) : Int) ∧ ((boundl : Nat) : Int) ≤ ((boundc : Nat) : Int)) ∧ (0 ≤ ((boundl : Nat) : Int) ∧ ((boundl : Nat) : Int) ≤ (((Int.toNat ((boundl : Nat) : Int)) : Nat) : Int)) ∧ (CallsP Tryz.prog 88 #[(.int .i64 (1 : Int)), (.string t2)] g19 fun v g20 =>
  ∃ x : ByteArray, v = (.string x) ∧ ∀ g21 : G, NewL g20 g21 9 [(.string x)] →
  ∃ bounda_4 : Option Addr, ∃ boundl_4 : Nat, ∃ boundc_4 : Nat, ∃ wo3 : World, Sem.run Tryz.prog (Builtin.append_ #[22, 22] 22 #[(.slice (slAddr bounda (Int.toNat ((boundl : Nat) : Int)) 0 1) ((Int.toNat ((boundl : Nat) : Int)) - 0) ((Int.toNat ((boundl : Nat) : Int)) - 0)), (.slice (some ⟨g20.w.heap.size, 0, none⟩) 1 1)]) g21.w = .ok (.slice bounda_4 boundl_4 boundc_4) wo3 ∧ ∃ g22 : G, g22.w = wo3 ∧ Stp g.w.heap.size M g21 g22 ∧ J_2 bounda_4 boundl_4 boundc_4 g22))
  (J_2 bounda boundl boundc g2))
  (ifB (eqI t0 (42 : Int))
  (∀ g23 : G, Ex g2 g23 →
  (0 ≤ ((boundl : Nat) : Int) ∧ ((boundl : Nat) : Int) ≤ ((boundc : Nat) : Int)) ∧ (0 ≤ ((boundl : Nat) : Int) ∧ ((boundl : Nat) : Int) ≤ (((Int.toNat ((boundl : Nat) : Int)) : Nat) : Int)) ∧ (CallsP Tryz.prog 88 #[(.int .i64 (1 : Int)), (.string t2)] g23 fun v g24 =>
  ∃ x_1 : ByteArray, v = (.string x_1) ∧ ∀ g25 : G, NewL g24 g25 9 [(.string x_1)] →
  ∃ innera : Option Addr, ∃ innerl : Nat, ∃ innerc : Nat, ∃ wo4 : World, Sem.run Tryz.prog (Builtin.append_ #[22, 22] 22 #[(.slice (slAddr bounda (Int.toNat ((boundl : Nat) : Int)) 0 1) ((Int.toNat ((boundl : Nat) : Int)) - 0) ((Int.toNat ((boundl : Nat) : Int)) - 0)), (.slice (some ⟨g24.w.heap.size, 0, none⟩) 1 1)]) g25.w = .ok (.slice innera innerl innerc) wo4 ∧ ∃ g26 : G, g26.w = wo4 ∧ Stp g.w.heap.size M g25 g26 ∧ ∃ Inv_1 : Nat → Option Addr → Nat → Nat → Int → G → Prop, ((∃ m0 : Nat, Inv_1 m0 innera innerl innerc (0 : Int) g26)) ∧
  ∀ m_2 : Nat, ∀ innera_1 : Option Addr, ∀ innerl_1 : Nat, ∀ innerc_1 : Nat, ∀ v_3 : Int, ∀ g27 : G, Le g26 g27 → Inv_1 m_2 innera_1 innerl_1 innerc_1 v_3 g27 →
  ifB (ltI v_3 ((t3l : Nat) : Int))
  ((0 ≤ v_3 ∧ v_3 < ((t3l : Nat) : Int)) ∧ derefP t3a fun ad_5 => ∃ s : ByteArray, g27.w.cell? (Addr.add ad_5 (Int.toNat v_3 * 1)) = some (.string s) ∧ (CallsP Tryz.prog 88 #[(.int .i64 (1 : Int)), (.string s)] g27 fun v g28 =>
  ∃ x_2 : ByteArray, v = (.string x_2) ∧ ∀ g29 : G, NewL g28 g29 9 [(.string x_2)] →
  ∃ innera_2 : Option Addr, ∃ innerl_2 : Nat, ∃ innerc_2 : Nat, ∃ wo5 : World, Sem.run Tryz.prog (Builtin.append_ #[22, 22] 22 #[(.slice innera_1 innerl_1 innerc_1), (.slice (some ⟨g28.w.heap.size, 0, none⟩) 1 1)]) g29.w = .ok (.slice innera_2 innerl_2 innerc_2) wo5 ∧ ∃ g30 : G, g30.w = wo5 ∧ Stp g.w.heap.size M g29 g30 ∧ InI64 (v_3 + (1 : Int)) ∧ (∃ m_3 : Nat, m_3 < m_2 ∧ Inv_1 m_3 innera_2 innerl_2 innerc_2 (v_3 + (1 : Int)) g30)))
  ((0 ≤ (0 : Int) ∧ (0 : Int) < ((t4l : Nat) : Int)) ∧ derefP t4a fun ad_6 => ∃ x0_5 : Int, ∃ x1_5 : Int, ∃ x2_5 : ByteArray, ∃ x3a_5 : Option Addr, ∃ x3l_5 : Nat, ∃ x3c_5 : Nat, ∃ x4a_5 : Option Addr, ∃ x4l_5 : Nat, ∃ x4c_5 : Nat, g27.w.cell? (Addr.add ad_6 (Int.toNat (0 : Int) * 5)) = some (.int .i64 x0_5) ∧ g27.w.cell? (Addr.add (Addr.add ad_6 (Int.toNat (0 : Int) * 5)) 1) = some (.int .i64 x1_5) ∧ g27.w.cell? (Addr.add (Addr.add ad_6 (Int.toNat (0 : Int) * 5)) 2) = some (.string x2_5) ∧ g27.w.cell? (Addr.add (Addr.add ad_6 (Int.toNat (0 : Int) * 5)) 3) = some (.slice x3a_5 x3l_5 x3c_5) ∧ g27.w.cell? (Addr.add (Addr.add ad_6 (Int.toNat (0 : Int) * 5)) 4) = some (.slice x4a_5 x4l_5 x4c_5) ∧ ∃ M5 : Nat → Prop, (∀ b, b < g.w.heap.size → M5 b → M b) ∧ (CallsG Tryz.prog 97 #[(.pointer w0), (.agg ⟨[(.int .i64 x0_5), (.int .i64 x1_5), (.string x2_5), (.slice x3a_5 x3l_5 x3c_5), (.slice x4a_5 x4l_5 x4c_5)]⟩), (.slice innera_1 innerl_1 innerc_1)] g27 M5 fun v g31 =>
  v = (.tuple ⟨[]⟩) ∧ ∀ g32 : G, Ex g31 g32 →
  R (.tuple ⟨[]⟩) g32))))
  (ifB (eqI t0 (44 : Int))
  (∀ g33 : G, Ex g2 g33 →
  (0 ≤ ((boundl : Nat) : Int) ∧ ((boundl : Nat) : Int) ≤ ((boundc : Nat) : Int)) ∧ (0 ≤ ((boundl : Nat) : Int) ∧ ((boundl : Nat) : Int) ≤ (((Int.toNat ((boundl : Nat) : Int)) : Nat) : Int)) ∧ (CallsP Tryz.prog 88 #[(.int .i64 (2 : Int)), (.string t2)] g33 fun v g34 =>
  ∃ x_3 : ByteArray, v = (.string x_3) ∧ ∀ g35 : G, NewL g34 g35 9 [(.string x_3)] →
  ∃ innera_3 : Option Addr, ∃ innerl_3 : Nat, ∃ innerc_3 : Nat, ∃ wo6 : World, Sem.run Tryz.prog (Builtin.append_ #[22, 22] 22 #[(.slice (slAddr bounda (Int.toNat ((boundl : Nat) : Int)) 0 1) ((Int.toNat ((boundl : Nat) : Int)) - 0) ((Int.toNat ((boundl : Nat) : Int)) - 0)), (.slice (some ⟨g34.w.heap.size, 0, none⟩) 1 1)]) g35.w = .ok (.slice innera_3 innerl_3 innerc_3) wo6 ∧ ∃ g36 : G, g36.w = wo6 ∧ Stp g.w.heap.size M g35 g36 ∧ ∃ Inv_2 : Nat → Int → G → Prop, ((∃ m0 : Nat, Inv_2 m0 (0 : Int) g36)) ∧
  ∀ m_4 : Nat, ∀ v_4 : Int, ∀ g37 : G, Le g36 g37 → Inv_2 m_4 v_4 g37 →
  ifB (ltI v_4 ((t4l : Nat) : Int))
  ((0 ≤ v_4 ∧ v_4 < ((t4l : Nat) : Int)) ∧ derefP t4a fun ad_7 => ∃ x0_6 : Int, ∃ x1_6 : Int, ∃ x2_6 : ByteArray, ∃ x3a_6 : Option Addr, ∃ x3l_6 : Nat, ∃ x3c_6 : Nat, ∃ x4a_6 : Option Addr, ∃ x4l_6 : Nat, ∃ x4c_6 : Nat, g37.w.cell? (Addr.add ad_7 (Int.toNat v_4 * 5)) = some (.int .i64 x0_6) ∧ g37.w.cell? (Addr.add (Addr.add ad_7 (Int.toNat v_4 * 5)) 1) = some (.int .i64 x1_6) ∧ g37.w.cell? (Addr.add (Addr.add ad_7 (Int.toNat v_4 * 5)) 2) = some (.string x2_6) ∧ g37.w.cell? (Addr.add (Addr.add ad_7 (Int.toNat v_4 * 5)) 3) = some (.slice x3a_6 x3l_6 x3c_6) ∧ g37.w.cell? (Addr.add (Addr.add ad_7 (Int.toNat v_4 * 5)) 4) = some (.slice x4a_6 x4l_6 x4c_6) ∧ ∀ g38 : G, Ex g37 g38 →
  ∃ M6 : Nat → Prop, (∀ b, b < g.w.heap.size → M6 b → M b) ∧ (CallsG Tryz.prog 97 #[(.pointer w0), (.agg ⟨[(.int .i64 x0_6), (.int .i64 x1_6), (.string x2_6), (.slice x3a_6 x3l_6 x3c_6), (.slice x4a_6 x4l_6 x4c_6)]⟩), (.slice innera_3 innerl_3 innerc_3)] g38 M6 fun v g39 =>
  v = (.tuple ⟨[]⟩) ∧ InI64 (v_4 + (1 : Int)) ∧ (∃ m_5 : Nat, m_5 < m_4 ∧ Inv_2 m_5 (v_4 + (1 : Int)) g39)))
  (∀ g40 : G, Ex g37 g40 →
  R (.tuple ⟨[]⟩) g40)))
  (∀ J_3 : Bool → G → Prop,
  (∀ v_5 : Bool, ∀ g41 : G, (ifB v_5
  ((0 ≤ (0 : Int) ∧ (0 : Int) < ((t4l : Nat) : Int)) ∧ derefP t4a fun ad_8 => ∃ x0_7 : Int, ∃ x1_7 : Int, ∃ x2_7 : ByteArray, ∃ x3a_7 : Option Addr, ∃ x3l_7 : Nat, ∃ x3c_7 : Nat, ∃ x4a_7 : Option Addr, ∃ x4l_7 : Nat, ∃ x4c_7 : Nat, g41.w.cell? (Addr.add ad_8 (Int.toNat (0 : Int) * 5)) = some (.int .i64 x0_7) ∧ g41.w.cell? (Addr.add (Addr.add ad_8 (Int.toNat (0 : Int) * 5)) 1) = some (.int .i64 x1_7) ∧ g41.w.cell? (Addr.add (Addr.add ad_8 (Int.toNat (0 : Int) * 5)) 2) = some (.string x2_7) ∧ g41.w.cell? (Addr.add (Addr.add ad_8 (Int.toNat (0 : Int) * 5)) 3) = some (.slice x3a_7 x3l_7 x3c_7) ∧ g41.w.cell? (Addr.add (Addr.add ad_8 (Int.toNat (0 : Int) * 5)) 4) = some (.slice x4a_7 x4l_7 x4c_7) ∧ ∃ M8 : Nat → Prop, (∀ b, b < g.w.heap.size → M8 b → M b) ∧ (CallsG Tryz.prog 97 #[(.pointer w0), (.agg ⟨[(.int .i64 x0_7), (.int .i64 x1_7), (.string x2_7), (.slice x3a_7 x3l_7 x3c_7), (.slice x4a_7 x4l_7 x4c_7)]⟩), (.slice bounda boundl boundc)] g41 M8 fun v g42 =>
  v = (.tuple ⟨[]⟩) ∧ ∀ g43 : G, Ex g42 g43 →
  (0 ≤ (1 : Int) ∧ (1 : Int) < ((t4l : Nat) : Int)) ∧ derefP t4a fun ad_9 => ∃ x0_8 : Int, ∃ x1_8 : Int, ∃ x2_8 : ByteArray, ∃ x3a_8 : Option Addr, ∃ x3l_8 : Nat, ∃ x3c_8 : Nat, ∃ x4a_8 : Option Addr, ∃ x4l_8 : Nat, ∃ x4c_8 : Nat, g43.w.cell? (Addr.add ad_9 (Int.toNat (1 : Int) * 5)) = some (.int .i64 x0_8) ∧ g43.w.cell? (Addr.add (Addr.add ad_9 (Int.toNat (1 : Int) * 5)) 1) = some (.int .i64 x1_8) ∧ g43.w.cell? (Addr.add (Addr.add ad_9 (Int.toNat (1 : Int) * 5)) 2) = some (.string x2_8) ∧ g43.w.cell? (Addr.add (Addr.add ad_9 (Int.toNat (1 : Int) * 5)) 3) = some (.slice x3a_8 x3l_8 x3c_8) ∧ g43.w.cell? (Addr.add (Addr.add ad_9 (Int.toNat (1 : Int) * 5)) 4) = some (.slice x4a_8 x4l_8 x4c_8) ∧ (0 ≤ ((boundl : Nat) : Int) ∧ ((boundl : Nat) : Int) ≤ ((boundc : Nat) : Int)) ∧ (0 ≤ ((boundl : Nat) : Int) ∧ ((boundl : Nat) : Int) ≤ (((Int.toNat ((boundl : Nat) : Int)) : Nat) : Int)) ∧ (CallsP Tryz.prog 88 #[(.int .i64 (4 : Int)), (.string t2)] g43 fun v g44 =>
  ∃ x_4 : ByteArray, v = (.string x_4) ∧ ∀ g45 : G, NewL g44 g45 9 [(.string x_4)] →
  ∃ xa_3 : Option Addr, ∃ xl_3 : Nat, ∃ xc_3 : Nat, ∃ wo7 : World, Sem.run Tryz.prog (Builtin.append_ #[22, 22] 22 #[(.slice (slAddr bounda (Int.toNat ((boundl : Nat) : Int)) 0 1) ((Int.toNat ((boundl : Nat) : Int)) - 0) ((Int.toNat ((boundl : Nat) : Int)) - 0)), (.slice (some ⟨g44.w.heap.size, 0, none⟩) 1 1)]) g45.w = .ok (.slice xa_3 xl_3 xc_3) wo7 ∧ ∃ g46 : G, g46.w = wo7 ∧ Stp g.w.heap.size M g45 g46 ∧ SameB g43 g46 ∧ ∃ M7 : Nat → Prop, (∀ b, b < g.w.heap.size → M7 b → M b) ∧ (CallsG Tryz.prog 97 #[(.pointer w0), (.agg ⟨[(.int .i64 x0_8), (.int .i64 x1_8), (.string x2_8), (.slice x3a_8 x3l_8 x3c_8), (.slice x4a_8 x4l_8 x4c_8)]⟩), (.slice xa_3 xl_3 xc_3)] g46 M7 fun v g47 =>
  v = (.tuple ⟨[]⟩) ∧ ∀ g48 : G, Ex g47 g48 →
  R (.tuple ⟨[]⟩) g48))))
  (∃ Inv_3 : Nat → Int → G → Prop, ((∃ m0 : Nat, Inv_3 m0 (0 : Int) g41)) ∧
  ∀ m_6 : Nat, ∀ v_6 : Int, ∀ g49 : G, Le g41 g49 → Inv_3 m_6 v_6 g49 →
  ifB (ltI v_6 ((t4l : Nat) : Int))
  ((0 ≤ v_6 ∧ v_6 < ((t4l : Nat) : Int)) ∧ derefP t4a fun ad_10 => ∃ x0_9 : Int, ∃ x1_9 : Int, ∃ x2_9 : ByteArray, ∃ x3a_9 : Option Addr, ∃ x3l_9 : Nat, ∃ x3c_9 : Nat, ∃ x4a_9 : Option Addr, ∃ x4l_9 : Nat, ∃ x4c_9 : Nat, g49.w.cell? (Addr.add ad_10 (Int.toNat v_6 * 5)) = some (.int .i64 x0_9) ∧ g49.w.cell? (Addr.add (Addr.add ad_10 (Int.toNat v_6 * 5)) 1) = some (.int .i64 x1_9) ∧ g49.w.cell? (Addr.add (Addr.add ad_10 (Int.toNat v_6 * 5)) 2) = some (.string x2_9) ∧ g49.w.cell? (Addr.add (Addr.add ad_10 (Int.toNat v_6 * 5)) 3) = some (.slice x3a_9 x3l_9 x3c_9) ∧ g49.w.cell? (Addr.add (Addr.add ad_10 (Int.toNat v_6 * 5)) 4) = some (.slice x4a_9 x4l_9 x4c_9) ∧ ∀ g50 : G, Ex g49 g50 →
  ∃ M9 : Nat → Prop, (∀ b, b < g.w.heap.size → M9 b → M b) ∧ (CallsG Tryz.prog 97 #[(.pointer w0), (.agg ⟨[(.int .i64 x0_9), (.int .i64 x1_9), (.string x2_9), (.slice x3a_9 x3l_9 x3c_9), (.slice x4a_9 x4l_9 x4c_9)]⟩), (.slice bounda boundl boundc)] g50 M9 fun v g51 =>
  v = (.tuple ⟨[]⟩) ∧ InI64 (v_6 + (1 : Int)) ∧ (∃ m_7 : Nat, m_7 < m_6 ∧ Inv_3 m_7 (v_6 + (1 : Int)) g51)))
  (∀ g52 : G, Ex g49 g52 →
  R (.tuple ⟨[]⟩) g52))) → J_3 v_5 g41) →
  ifB (eqI t0 (83 : Int))
  (J_3 true g2)
  (J_3 (eqI t0 (73 : Int)) g2))))))) → J_1 v_1 g2) →
  ifB (eqI t0 (31 : Int))
  (J_1 true g1)
  (ifB (eqI t0 (81 : Int))
  (J_1 true g1)
  (ifB (eqI t0 (87 : Int))
  (J_1 true g1)
  (J_1 (eqI t0 (71 : Int)) g1)))) → J g1) →
  ∀ g53 : G, Ex g g53 →
  (CallsP Tryz.prog 128 #[(.agg ⟨[(.int .i64 t0), (.int .i64 t1), (.string t2), (.slice t3a t3l t3c), (.slice t4a t4l t4c)]⟩)] g53 fun v g54 =>
  ∃ x0_10 : ByteArray, ∃ x1_10 : Bool, v = (.tuple ⟨[(.string x0_10), (.bool x1_10)]⟩) ∧ ifB x1_10
  ((CallsP Tryz.prog 19 #[(.slice bounda boundl boundc), (.string x0_10)] g54 fun v g55 =>
  ∃ x_5 : Bool, v = (.bool x_5) ∧ ifB (!x_5)
  (derefP w0 fun ad_11 => ∃ x_6 : Option Nat, g55.w.cell? ad_11 = some (.map x_6) ∧ ∃ wo8 : World, Sem.run Tryz.prog (Instr.mapUpdate 98 (.map x_6) (.string x0_10) (.bool true)) g55.w = .ok () wo8 ∧ ∃ g56 : G, g56.w = wo8 ∧ Stp g.w.heap.size M g55 g56 ∧ J g56)
  (J g55)))
  (J g54))
theorem F97_eq (w0 : Option Addr) (t0 : Int) (t1 : Int) (t2 : ByteArray) (t3a : Option Addr) (t3l : Nat) (t3c : Nat) (t4a : Option Addr) (t4l : Nat) (t4c : Nat) (bounda : Option Addr) (boundl : Nat) (boundc : Nat) (g : G) (M : Nat → Prop) (R : Value → G → Prop) : fnG cfg97 210 [] c97 an97 [(.pointer w0), (.agg ⟨[(.int .i64 t0), (.int .i64 t1), (.string t2), (.slice t3a t3l t3c), (.slice t4a t4l t4c)]⟩), (.slice bounda boundl boundc)] g M R = F97 w0 t0 t1 t2 t3a t3l t3c t4a t4l t4c bounda boundl boundc g M R := by kernel_rfl
theorem call97 (w0 : Option Addr) (t0 : Int) (t1 : Int) (t2 : ByteArray) (t3a : Option Addr) (t3l : Nat) (t3c : Nat) (t4a : Option Addr) (t4l : Nat) (t4c : Nat) (bounda : Option Addr) (boundl : Nat) (boundc : Nat) (g : G) (M : Nat → Prop) (R : Value → G → Prop) (hF : F97 w0 t0 t1 t2 t3a t3l t3c t4a t4l t4c bounda boundl boundc g M R) : CallsG Tryz.prog 97 #[(.pointer w0), (.agg ⟨[(.int .i64 t0), (.int .i64 t1), (.string t2), (.slice t3a t3l t3c), (.slice t4a t4l t4c)]⟩), (.slice bounda boundl boundc)] g M R :=
  fn_soundG (c := cfg97) TTok FNSok mixed Tryz.func97 (show Tryz.f97.body = some c97 by kernel_rfl) (show Tryz.f97.ntmps = 210 by kernel_rfl) (show Tryz.f97.results.toList = [] by kernel_rfl) rfl ((F97_eq w0 t0 t1 t2 t3a t3l t3c t4a t4l t4c bounda boundl boundc g M R).mpr hF)

/- 111 pilaster/ident.IsUpper -/
noncomputable def c111 : Code := match Tryz.f111.body with
  | some c => c
  | none => .skip
noncomputable def cfg111 : Cfg := ⟨Tryz.prog, TT, FNS, [], [], [], TCH, false, false⟩
def an111 : AnnG := (.seq .leaf (.seq .leaf .leaf))
def F111 (s : ByteArray) (g : G) (R : Value → G → Prop) : Prop :=
  (CallsP Tryz.prog 136 #[(.string s), (.int .i64 (2 : Int))] g fun v g1 =>
  ∃ x : Bool, v = (.bool x) ∧ ∀ g2 : G, Ex g1 g2 →
  R (.bool x) g2)
theorem F111_eq (s : ByteArray) (g : G) (R : Value → G → Prop) : fnG cfg111 5 [.tmp 2] c111 an111 [(.string s)] g nobody R = F111 s g R := by kernel_rfl
theorem call111 (s : ByteArray) (g : G) (R : Value → G → Prop) (hF : F111 s g R) : CallsG Tryz.prog 111 #[(.string s)] g nobody R :=
  fn_soundG (c := cfg111) TTok FNSok mixed Tryz.func111 (show Tryz.f111.body = some c111 by kernel_rfl) (show Tryz.f111.ntmps = 5 by kernel_rfl) (show Tryz.f111.results.toList = [.tmp 2] by kernel_rfl) rfl ((F111_eq s g R).mpr hF)

/- 114 pilaster/pilasterref01.Find -/
/- 116 pilaster/pilasterref03.Category -/
/- 117 pilaster/pilasterref03.Size -/
/- 118 pilaster/pilasterref03.nodes -/
/- 119 pilaster/pilasterref07.refers -/
/- 120 pilaster/pilasterref07.insert -/
/- 121 pilaster/ident.Label -/
noncomputable def c121 : Code := match Tryz.f121.body with
  | some c => c
  | none => .skip
noncomputable def cfg121 : Cfg := ⟨Tryz.prog, TT, FNS, [], [], [], TCH, false, false⟩
def an121 : AnnG := (.seq .leaf (.seq .leaf (.seq (.blk (.seq .leaf (.cond (.seq .leaf .leaf) (.seq .leaf (.cond (.seq .leaf .leaf) .leaf))))) (.seq .leaf .leaf))))
def F121 (kind : Int) (name : ByteArray) (g : G) (R : Value → G → Prop) : Prop :=
  (CallsP Tryz.prog 139 #[(.int .i64 kind)] g fun v g1 =>
  ∃ p : ByteArray, v = (.string p) ∧ ifB (strEq p (bs []))
  (∀ g2 : G, Ex g1 g2 →
  R (.tuple ⟨[(.string (bs [])), (.int .i64 (2 : Int))]⟩) g2)
  ((CallsP Tryz.prog 140 #[(.int .i64 kind), (.string name)] g1 fun v g3 =>
  ∃ x : Bool, v = (.bool x) ∧ ifB (!x)
  (∀ g4 : G, Ex g3 g4 →
  R (.tuple ⟨[(.string (bs [])), (.int .i64 (3 : Int))]⟩) g4)
  (p.size + name.size ≤ 9223372036854775807 ∧ ∀ g5 : G, Ex g3 g5 →
  R (.tuple ⟨[(.string (p ++ name)), (.int .i64 (0 : Int))]⟩) g5))))
theorem F121_eq (kind : Int) (name : ByteArray) (g : G) (R : Value → G → Prop) : fnG cfg121 20 [.tmp 4, .tmp 5] c121 an121 [(.int .i64 kind), (.string name)] g nobody R = F121 kind name g R := by kernel_rfl
theorem call121 (kind : Int) (name : ByteArray) (g : G) (R : Value → G → Prop) (hF : F121 kind name g R) : CallsG Tryz.prog 121 #[(.int .i64 kind), (.string name)] g nobody R :=
  fn_soundG (c := cfg121) TTok FNSok mixed Tryz.func121 (show Tryz.f121.body = some c121 by kernel_rfl) (show Tryz.f121.ntmps = 20 by kernel_rfl) (show Tryz.f121.results.toList = [.tmp 4, .tmp 5] by kernel_rfl) rfl ((F121_eq kind name g R).mpr hF)

/- 122 pilaster/pilasterref01.Word -/
/- 123 pilaster/pilasterref01.Capital -/
/- 124 pilaster/syntax.formed$1 -/
noncomputable def c124 : Code := match Tryz.f124.body with
  | some c => c
  | none => .skip
noncomputable def cfg124 : Cfg := ⟨Tryz.prog, TT, FNS, [], [], [5, 6], TCH, false, false⟩
def an124 : AnnG := (.seq .leaf (.seq .leaf (.join ⟨[], [], []⟩ (.seq .leaf (.cond (.seq .leaf .leaf) .leaf)) (.seq .leaf .leaf))))
def F124 (t0 : Int) (t1 : Int) (t2 : ByteArray) (t3a : Option Addr) (t3l : Nat) (t3c : Nat) (t4a : Option Addr) (t4l : Nat) (t4c : Nat) (depth : Int) (inWith : Bool) (c0 : Option Addr) (c1 : Value) (g : G) (M : Nat → Prop) (R : Value → G → Prop) : Prop :=
  ∀ g1 : G, NewL g g1 25 ([(.int .i64 t0), (.int .i64 t1), (.string t2), (.slice t3a t3l t3c), (.slice t4a t4l t4c)] : List Value) →
  ∀ g2 : G, NewL g1 g2 3 ([(.int .i64 depth)] : List Value) →
  derefP c0 fun ad => ∃ x : Int, g2.w.cell? ad = some (.int .i64 x) ∧ InI64 (x + (1 : Int)) ∧ derefP c0 fun ad_1 => stOk g2.w ad_1 1 ∧ ¬ g2.X (Addr.block ad_1) ∧ mutAt g2 ad_1 1 ∧ ((Addr.block ad_1) < g.w.heap.size → M (Addr.block ad_1)) ∧ ∀ g3 : G, StG false g2 ad_1 [(.int .i64 (x + (1 : Int)))] g3 →
  ∀ J : G → Prop,
  (∀ g4 : G, (∃ xa : Option Addr, ∃ xl : Nat, ∃ xc : Nat, g4.w.cell? (Addr.add ⟨g.w.heap.size, 0, none⟩ 4) = some (.slice xa xl xc) ∧ ∃ M1 : Nat → Prop, (∀ b, b < g.w.heap.size → M1 b → M b) ∧ (CallsG Tryz.prog 55 #[(.slice xa xl xc), (.func (.func 127) #[] ⟨[c1, (.pointer (some ⟨g1.w.heap.size, 0, none⟩)), (.pointer (some ⟨g.w.heap.size, 0, none⟩))]⟩)] g4 M1 fun v g5 =>
  ∃ x_1 : Bool, v = (.bool x_1) ∧ ∀ g6 : G, Ex g5 g6 →
  R (.bool (!x_1)) g6)) → J g4) →
  derefP c0 fun ad_2 => ∃ x_2 : Int, g3.w.cell? ad_2 = some (.int .i64 x_2) ∧ ifB (ltI (20000 : Int) x_2)
  (∀ g7 : G, Ex g3 g7 →
  R (.bool false) g7)
  (∃ depth_1 : Int, g3.w.cell? ⟨g1.w.heap.size, 0, none⟩ = some (.int .i64 depth_1) ∧ ifB (ltI (400 : Int) depth_1)
  (∀ g8 : G, Ex g3 g8 →
  R (.bool false) g8)
  (∃ t0_1 : Int, ∃ t1_1 : Int, ∃ t2_1 : ByteArray, ∃ t3a_1 : Option Addr, ∃ t3l_1 : Nat, ∃ t3c_1 : Nat, ∃ t4a_1 : Option Addr, ∃ t4l_1 : Nat, ∃ t4c_1 : Nat, g3.w.cell? ⟨g.w.heap.size, 0, none⟩ = some (.int .i64 t0_1) ∧ g3.w.cell? (Addr.add ⟨g.w.heap.size, 0, none⟩ 1) = some (.int .i64 t1_1) ∧ g3.w.cell? (Addr.add ⟨g.w.heap.size, 0, none⟩ 2) = some (.string t2_1) ∧ g3.w.cell? (Addr.add ⟨g.w.heap.size, 0, none⟩ 3) = some (.slice t3a_1 t3l_1 t3c_1) ∧ g3.w.cell? (Addr.add ⟨g.w.heap.size, 0, none⟩ 4) = some (.slice t4a_1 t4l_1 t4c_1) ∧ (CallsP Tryz.prog 125 #[(.agg ⟨[(.int .i64 t0_1), (.int .i64 t1_1), (.string t2_1), (.slice t3a_1 t3l_1 t3c_1), (.slice t4a_1 t4l_1 t4c_1)]⟩), (.bool inWith)] g3 fun v g9 =>
  ∃ x_3 : Bool, v = (.bool x_3) ∧ ifB (!x_3)
  (∀ g10 : G, Ex g9 g10 →
  R (.bool false) g10)
  (∃ t0_2 : Int, ∃ t1_2 : Int, ∃ t2_2 : ByteArray, ∃ t3a_2 : Option Addr, ∃ t3l_2 : Nat, ∃ t3c_2 : Nat, ∃ t4a_2 : Option Addr, ∃ t4l_2 : Nat, ∃ t4c_2 : Nat, g9.w.cell? ⟨g.w.heap.size, 0, none⟩ = some (.int .i64 t0_2) ∧ g9.w.cell? (Addr.add ⟨g.w.heap.size, 0, none⟩ 1) = some (.int .i64 t1_2) ∧ g9.w.cell? (Addr.add ⟨g.w.heap.size, 0, none⟩ 2) = some (.string t2_2) ∧ g9.w.cell? (Addr.add ⟨g.w.heap.size, 0, none⟩ 3) = some (.slice t3a_2 t3l_2 t3c_2) ∧ g9.w.cell? (Addr.add ⟨g.w.heap.size, 0, none⟩ 4) = some (.slice t4a_2 t4l_2 t4c_2) ∧ (CallsP Tryz.prog 126 #[(.agg ⟨[(.int .i64 t0_2), (.int .i64 t1_2), (.string t2_2), (.slice t3a_2 t3l_2 t3c_2), (.slice t4a_2 t4l_2 t4c_2)]⟩)] g9 fun v g11 =>
  ∃ x_4 : Bool, v = (.bool x_4) ∧ ifB (!x_4)
  (∀ g12 : G, Ex g11 g12 →
  R (.bool false) g12)
  (J g11))))))
theorem F124_eq (t0 : Int) (t1 : Int) (t2 : ByteArray) (t3a : Option Addr) (t3l : Nat) (t3c : Nat) (t4a : Option Addr) (t4l : Nat) (t4c : Nat) (depth : Int) (inWith : Bool) (c0 : Option Addr) (c1 : Value) (g : G) (M : Nat → Prop) (R : Value → G → Prop) : fnG cfg124 33 [.tmp 8] c124 an124 [(.agg ⟨[(.int .i64 t0), (.int .i64 t1), (.string t2), (.slice t3a t3l t3c), (.slice t4a t4l t4c)]⟩), (.int .i64 depth), (.bool inWith), (.pointer c0), c1] g M R = F124 t0 t1 t2 t3a t3l t3c t4a t4l t4c depth inWith c0 c1 g M R := by kernel_rfl
theorem call124 (t0 : Int) (t1 : Int) (t2 : ByteArray) (t3a : Option Addr) (t3l : Nat) (t3c : Nat) (t4a : Option Addr) (t4l : Nat) (t4c : Nat) (depth : Int) (inWith : Bool) (c0 : Option Addr) (c1 : Value) (g : G) (M : Nat → Prop) (R : Value → G → Prop) (hF : F124 t0 t1 t2 t3a t3l t3c t4a t4l t4c depth inWith c0 c1 g M R) : CallsG Tryz.prog 124 #[(.agg ⟨[(.int .i64 t0), (.int .i64 t1), (.string t2), (.slice t3a t3l t3c), (.slice t4a t4l t4c)]⟩), (.int .i64 depth), (.bool inWith), (.pointer c0), c1] g M R :=
  fn_soundG (c := cfg124) TTok FNSok mixed Tryz.func124 (show Tryz.f124.body = some c124 by kernel_rfl) (show Tryz.f124.ntmps = 33 by kernel_rfl) (show Tryz.f124.results.toList = [.tmp 8] by kernel_rfl) rfl ((F124_eq t0 t1 t2 t3a t3l t3c t4a t4l t4c depth inWith c0 c1 g M R).mpr hF)

/- 125 pilaster/syntax.own -/
noncomputable def c125 : Code := match Tryz.f125.body with
  | some c => c
  | none => .skip
noncomputable def cfg125 : Cfg := ⟨Tryz.prog, TT, FNS, [2, 5], [(2, 2), (5, 5), (6, 2), (9, 5), (13, 2), (18, 5), (22, 2), (28, 5), (32, 2), (38, 2), (42, 2), (50, 2), (62, 2), (69, 2), (74, 2), (78, 2), (84, 2), (88, 2), (94, 2), (99, 2), (103, 2), (109, 2), (113, 2), (119, 2), (123, 2), (129, 2), (135, 2), (144, 2), (152, 2), (158, 2), (165, 2), (169, 2), (180, 2), (186, 2), (190, 2), (194, 2)], [], TCH, false, false⟩
def an125 : AnnG := (.seq .leaf (.seq .leaf (.join ⟨[], [], []⟩ (.seq .leaf (.cond (.seq .leaf .leaf) .leaf)) (.seq (.seq .leaf (.blk (.seq .leaf (.cond (.seq .leaf .leaf) (.join ⟨[(45, .bool)], [], []⟩ (.seq .leaf (.cond .leaf (.seq .leaf (.cond .leaf (.seq .leaf (.cond .leaf .leaf)))))) (.cond (.seq .leaf .leaf) (.join ⟨[(53, .bool)], [], []⟩ (.seq .leaf (.cond .leaf (.seq .leaf (.cond .leaf (.seq .leaf (.cond .leaf (.seq .leaf (.cond .leaf (.seq .leaf (.cond .leaf (.seq .leaf (.cond .leaf (.seq .leaf (.cond .leaf .leaf)))))))))))))) (.cond (.seq .leaf .leaf) (.join ⟨[(65, .bool)], [], []⟩ (.seq .leaf (.cond .leaf (.seq .leaf (.cond .leaf .leaf)))) (.cond (.seq .leaf .leaf) (.seq .leaf (.cond (.seq .leaf .leaf) (.seq .leaf (.cond (.seq .leaf .leaf) (.seq .leaf (.cond (.seq .leaf .leaf) (.seq .leaf (.cond (.seq .leaf .leaf) (.seq .leaf (.cond (.seq .leaf .leaf) (.seq .leaf (.cond (.seq .leaf .leaf) (.seq .leaf (.cond (.seq .leaf .leaf) (.join ⟨[(162, .bool)], [], []⟩ (.seq .leaf (.cond .leaf .leaf)) (.cond (.seq .leaf .leaf) (.join ⟨[(173, .bool)], [], []⟩ (.seq .leaf (.cond .leaf (.seq .leaf (.cond .leaf (.seq .leaf (.cond .leaf (.seq .leaf (.cond .leaf (.seq .leaf (.cond .leaf .leaf)))))))))) (.cond (.seq .leaf .leaf) (.join ⟨[(183, .bool)], [], []⟩ (.seq .leaf (.cond .leaf .leaf)) (.cond (.seq .leaf .leaf) .leaf)))))))))))))))))))))))))))))) (.seq .leaf .leaf)))))
def F125 (t0 : Int) (t1 : Int) (t2 : ByteArray) (t3a : Option Addr) (t3l : Nat) (t3c : Nat) (t4a : Option Addr) (t4l : Nat) (t4c : Nat) (inWith : Bool) (g : G) (R : Value → G → Prop) : Prop :=
  ∀ g1 : G, Ex g g1 →
  (CallsP Tryz.prog 142 #[(.int .i64 t0)] g1 fun v g2 =>
  ∃ x0 : Bool, ∃ x1 : Bool, ∃ x2 : Bool, v = (.agg ⟨[(.bool x0), (.bool x1), (.bool x2)]⟩) ∧ ∀ J : G → Prop,
  (∀ g3 : G, (ifB (eqI t0 (1 : Int))
  ((CallsP Tryz.prog 143 #[(.string t2)] g3 fun v g4 =>
  ∃ x : Bool, v = (.bool x) ∧ ∀ g5 : G, Ex g4 g5 →
  R (.bool x) g5))
  (∀ J_1 : Bool → G → Prop,
  (∀ v_1 : Bool, ∀ g6 : G, (ifB v_1
  ((CallsP Tryz.prog 144 #[(.slice t3a t3l t3c), (.bool true)] g6 fun v g7 =>
  ∃ x_1 : Bool, v = (.bool x_1) ∧ ∀ g8 : G, Ex g7 g8 →
  R (.bool x_1) g8))
  (∀ J_2 : Bool → G → Prop,
  (∀ v_2 : Bool, ∀ g9 : G, (ifB v_2
  ((CallsP Tryz.prog 144 #[(.slice t3a t3l t3c), (.bool false)] g9 fun v g10 =>
  ∃ x_2 : Bool, v = (.bool x_2) ∧ ∀ g11 : G, Ex g10 g11 →
  R (.bool x_2) g11))
  (∀ J_3 : Bool → G → Prop,
  (∀ v_3 : Bool, ∀ g12 : G, (ifB v_3
  ((CallsP Tryz.prog 145 #[(.string t2)] g12 fun v g13 =>
  ∃ x_3 : Bool, v = (.bool x_3) ∧ ∀ g14 : G, Ex g13 g14 →
  R (.bool x_3) g14))
  (ifB (eqI t0 (13 : Int))
  (ifB (leI (-4503599627370496 : Int) t1)
  (∀ g15 : G, Ex g12 g15 →
  R (.bool (leI t1 (4503599627370496 : Int))) g15)
  (∀ g16 : G, Ex g12 g16 →
  R (.bool false) g16))
  (ifB (eqI t0 (21 : Int))
  (ifB (leI (0 : Int) t1)
  (∀ g17 : G, Ex g12 g17 →
  R (.bool (leI t1 (4503599627370496 : Int))) g17)
  (∀ g18 : G, Ex g12 g18 →
  R (.bool false) g18))
  (ifB (eqI t0 (22 : Int))
  ((CallsP Tryz.prog 146 #[(.string t2)] g12 fun v g19 =>
  ∃ x_4 : Bool, v = (.bool x_4) ∧ ∀ g20 : G, Ex g19 g20 →
  R (.bool x_4) g20))
  (ifB (eqI t0 (25 : Int))
  (ifB (strEq t2 (bs []))
  (∀ g21 : G, Ex g12 g21 →
  R (.bool true) g21)
  ((CallsP Tryz.prog 145 #[(.string t2)] g12 fun v g22 =>
  ∃ x_5 : Bool, v = (.bool x_5) ∧ ∀ g23 : G, Ex g22 g23 →
  R (.bool x_5) g23)))
  (ifB (eqI t0 (32 : Int))
  (ifB (leI (1 : Int) t1)
  (∀ g24 : G, Ex g12 g24 →
  R (.bool (leI t1 (12 : Int))) g24)
  (∀ g25 : G, Ex g12 g25 →
  R (.bool false) g25))
  (ifB (eqI t0 (42 : Int))
  ((CallsP Tryz.prog 145 #[(.string t2)] g12 fun v g26 =>
  ∃ x_6 : Bool, v = (.bool x_6) ∧ ifB x_6
  (ifB (leI (1 : Int) ((t3l : Nat) : Int))
  (ifB (leI ((t3l : Nat) : Int) (9 : Int))
  ((CallsP Tryz.prog 33 #[(.slice t3a t3l t3c), (.func (.func 147) #[] #[])] g26 fun v g27 =>
  ∃ x_7 : Bool, v = (.bool x_7) ∧ ∀ g28 : G, Ex g27 g28 →
  R (.bool (!x_7)) g28))
  (∀ g29 : G, Ex g26 g29 →
  R (.bool false) g29))
  (∀ g30 : G, Ex g26 g30 →
  R (.bool false) g30))
  (∀ g31 : G, Ex g26 g31 →
  R (.bool false) g31)))
  (ifB (eqI t0 (43 : Int))
  (ifB inWith
  (ifB (strEq t2 (bs []))
  ((CallsP Tryz.prog 148 #[(.slice t3a t3l t3c)] g12 fun v g32 =>
  ∃ x_8 : Bool, v = (.bool x_8) ∧ ∀ g33 : G, Ex g32 g33 →
  R (.bool x_8) g33))
  (ifB (!inWith)
  ((CallsP Tryz.prog 145 #[(.string t2)] g12 fun v g34 =>
  ∃ x_9 : Bool, v = (.bool x_9) ∧ ifB x_9
  ((CallsP Tryz.prog 148 #[(.slice t3a t3l t3c)] g34 fun v g35 =>
  ∃ x_10 : Bool, v = (.bool x_10) ∧ ∀ g36 : G, Ex g35 g36 →
  R (.bool x_10) g36))
  (∀ g37 : G, Ex g34 g37 →
  R (.bool false) g37)))
  (∀ g38 : G, Ex g12 g38 →
  R (.bool false) g38)))
  (ifB (!inWith)
  ((CallsP Tryz.prog 145 #[(.string t2)] g12 fun v g39 =>
  ∃ x_11 : Bool, v = (.bool x_11) ∧ ifB x_11
  ((CallsP Tryz.prog 148 #[(.slice t3a t3l t3c)] g39 fun v g40 =>
  ∃ x_12 : Bool, v = (.bool x_12) ∧ ∀ g41 : G, Ex g40 g41 →
  R (.bool x_12) g41))
  (∀ g42 : G, Ex g39 g42 →
  R (.bool false) g42)))
  (∀ g43 : G, Ex g12 g43 →
  R (.bool false) g43)))
  (∀ J_4 : Bool → G → Prop,
  (∀ v_4 : Bool, ∀ g44 : G, (ifB v_4
  ((CallsP Tryz.prog 145 #[(.string t2)] g44 fun v g45 =>
  ∃ x_13 : Bool, v = (.bool x_13) ∧ ifB x_13
  ((CallsP Tryz.prog 148 #[(.slice t3a t3l t3c)] g45 fun v g46 =>
  ∃ x_14 : Bool, v = (.bool x_14) ∧ ∀ g47 : G, Ex g46 g47 →
  R (.bool x_14) g47))
  (∀ g48 : G, Ex g45 g48 →
  R (.bool false) g48)))
  (∀ J_5 : Bool → G → Prop,
  (∀ v_5 : Bool, ∀ g49 : G, (ifB v_5
  ((CallsP Tryz.prog 111 #[(.string t2)] g49 fun v g50 =>
  ∃ x_15 : Bool, v = (.bool x_15) ∧ ∀ g51 : G, Ex g50 g51 →
  R (.bool x_15) g51))
  (∀ J_6 : Bool → G → Prop,
  (∀ v_6 : Bool, ∀ g52 : G, (ifB v_6
  ((CallsP Tryz.prog 111 #[(.string t2)] g52 fun v g53 =>
  ∃ x_16 : Bool, v = (.bool x_16) ∧ ifB x_16
  (ifB (eqI t1 (0 : Int))
  (∀ g54 : G, Ex g53 g54 →
  R (.bool true) g54)
  (∀ g55 : G, Ex g53 g55 →
  R (.bool (eqI t1 (1 : Int))) g55))
  (∀ g56 : G, Ex g53 g56 →
  R (.bool false) g56)))
  (∀ g57 : G, Ex g52 g57 →
  R (.bool true) g57)) → J_6 v_6 g52) →
  ifB (eqI t0 (73 : Int))
  (J_6 true g49)
  (J_6 (eqI t0 (83 : Int)) g49))) → J_5 v_5 g49) →
  ifB (eqI t0 (45 : Int))
  (J_5 true g44)
  (ifB (eqI t0 (46 : Int))
  (J_5 true g44)
  (ifB (eqI t0 (47 : Int))
  (J_5 true g44)
  (ifB (eqI t0 (50 : Int))
  (J_5 true g44)
  (ifB (eqI t0 (63 : Int))
  (J_5 true g44)
  (J_5 (eqI t0 (64 : Int)) g44))))))) → J_4 v_4 g44) →
  ifB (eqI t0 (44 : Int))
  (J_4 true g12)
  (J_4 (eqI t0 (62 : Int)) g12)))))))))) → J_3 v_3 g12) →
  ifB (eqI t0 (12 : Int))
  (J_3 true g9)
  (ifB (eqI t0 (41 : Int))
  (J_3 true g9)
  (J_3 (eqI t0 (61 : Int)) g9)))) → J_2 v_2 g9) →
  ifB (eqI t0 (5 : Int))
  (J_2 true g6)
  (ifB (eqI t0 (14 : Int))
  (J_2 true g6)
  (ifB (eqI t0 (24 : Int))
  (J_2 true g6)
  (ifB (eqI t0 (34 : Int))
  (J_2 true g6)
  (ifB (eqI t0 (48 : Int))
  (J_2 true g6)
  (ifB (eqI t0 (49 : Int))
  (J_2 true g6)
  (ifB (eqI t0 (72 : Int))
  (J_2 true g6)
  (J_2 (eqI t0 (82 : Int)) g6))))))))) → J_1 v_1 g6) →
  ifB (eqI t0 (2 : Int))
  (J_1 true g3)
  (ifB (eqI t0 (23 : Int))
  (J_1 true g3)
  (ifB (eqI t0 (66 : Int))
  (J_1 true g3)
  (J_1 (eqI t0 (74 : Int)) g3))))) → J g3) →
  ifB (!x0)
  (ifB (!eqI t1 (0 : Int))
  (∀ g58 : G, Ex g2 g58 →
  R (.bool false) g58)
  (ifB (!x1)
  (ifB (!strEq t2 (bs []))
  (∀ g59 : G, Ex g2 g59 →
  R (.bool false) g59)
  (ifB (!x2)
  (ifB (ltI (0 : Int) ((t3l : Nat) : Int))
  (∀ g60 : G, Ex g2 g60 →
  R (.bool false) g60)
  (∀ g61 : G, Ex g2 g61 →
  J g61))
  (∀ g62 : G, Ex g2 g62 →
  J g62)))
  (ifB (!x2)
  (ifB (ltI (0 : Int) ((t3l : Nat) : Int))
  (∀ g63 : G, Ex g2 g63 →
  R (.bool false) g63)
  (∀ g64 : G, Ex g2 g64 →
  J g64))
  (∀ g65 : G, Ex g2 g65 →
  J g65))))
  (ifB (!x1)
  (ifB (!strEq t2 (bs []))
  (∀ g66 : G, Ex g2 g66 →
  R (.bool false) g66)
  (ifB (!x2)
  (ifB (ltI (0 : Int) ((t3l : Nat) : Int))
  (∀ g67 : G, Ex g2 g67 →
  R (.bool false) g67)
  (∀ g68 : G, Ex g2 g68 →
  J g68))
  (∀ g69 : G, Ex g2 g69 →
  J g69)))
  (ifB (!x2)
  (ifB (ltI (0 : Int) ((t3l : Nat) : Int))
  (∀ g70 : G, Ex g2 g70 →
  R (.bool false) g70)
  (∀ g71 : G, Ex g2 g71 →
  J g71))
  (∀ g72 : G, Ex g2 g72 →
  J g72))))
theorem F125_eq (t0 : Int) (t1 : Int) (t2 : ByteArray) (t3a : Option Addr) (t3l : Nat) (t3c : Nat) (t4a : Option Addr) (t4l : Nat) (t4c : Nat) (inWith : Bool) (g : G) (R : Value → G → Prop) : fnG cfg125 199 [.tmp 4] c125 an125 [(.agg ⟨[(.int .i64 t0), (.int .i64 t1), (.string t2), (.slice t3a t3l t3c), (.slice t4a t4l t4c)]⟩), (.bool inWith)] g nobody R = F125 t0 t1 t2 t3a t3l t3c t4a t4l t4c inWith g R := by kernel_rfl
theorem call125 (t0 : Int) (t1 : Int) (t2 : ByteArray) (t3a : Option Addr) (t3l : Nat) (t3c : Nat) (t4a : Option Addr) (t4l : Nat) (t4c : Nat) (inWith : Bool) (g : G) (R : Value → G → Prop) (hF : F125 t0 t1 t2 t3a t3l t3c t4a t4l t4c inWith g R) : CallsG Tryz.prog 125 #[(.agg ⟨[(.int .i64 t0), (.int .i64 t1), (.string t2), (.slice t3a t3l t3c), (.slice t4a t4l t4c)]⟩), (.bool inWith)] g nobody R :=
  fn_soundG (c := cfg125) TTok FNSok mixed Tryz.func125 (show Tryz.f125.body = some c125 by kernel_rfl) (show Tryz.f125.ntmps = 199 by kernel_rfl) (show Tryz.f125.results.toList = [.tmp 4] by kernel_rfl) rfl ((F125_eq t0 t1 t2 t3a t3l t3c t4a t4l t4c inWith g R).mpr hF)

/- 126 pilaster/syntax.shape -/
noncomputable def c126 : Code := match Tryz.f126.body with
  | some c => c
  | none => .skip
noncomputable def cfg126 : Cfg := ⟨Tryz.prog, TT, FNS, [1], [(1, 1), (4, 1), (7, 1), (28, 1), (38, 1), (43, 1), (51, 1), (72, 1), (86, 1), (93, 1), (109, 1), (118, 1), (128, 1), (147, 1), (163, 1), (169, 1), (175, 1), (197, 1), (204, 1), (215, 1), (221, 1), (231, 1), (245, 1), (252, 1), (260, 1), (285, 1), (294, 1)], [], TCH, false, false⟩
def an126 : AnnG := (.seq .leaf (.seq .leaf (.seq (.seq .leaf (.blk (.join ⟨[(9, .bool)], [], []⟩ (.seq .leaf (.cond .leaf (.seq .leaf (.cond .leaf (.seq .leaf (.cond .leaf (.seq .leaf (.cond .leaf (.seq .leaf (.cond .leaf (.seq .leaf (.cond .leaf (.seq .leaf (.cond .leaf (.seq .leaf (.cond .leaf (.seq .leaf (.cond .leaf (.seq .leaf (.cond .leaf (.seq .leaf (.cond .leaf (.seq .leaf (.cond .leaf (.seq .leaf (.cond .leaf .leaf)))))))))))))))))))))))))) (.cond (.seq .leaf .leaf) (.seq .leaf (.cond (.seq .leaf .leaf) (.seq .leaf (.cond (.seq .leaf .leaf) (.seq .leaf (.cond (.seq .leaf .leaf) (.seq .leaf (.cond (.seq .leaf .leaf) (.seq .leaf (.cond (.seq .leaf .leaf) (.join ⟨[(55, .bool)], [], []⟩ (.seq .leaf (.cond .leaf (.seq .leaf (.cond .leaf .leaf)))) (.cond (.seq .leaf .leaf) (.seq .leaf (.cond (.seq .leaf .leaf) (.seq .leaf (.cond (.seq .leaf .leaf) (.seq .leaf (.cond (.seq .leaf .leaf) (.seq .leaf (.cond (.seq .leaf .leaf) (.seq .leaf (.cond (.seq .leaf .leaf) (.seq .leaf (.cond (.seq .leaf .leaf) (.seq .leaf (.cond (.seq (.seq .leaf (.cond (.seq .leaf .leaf) .leaf)) (.seq .leaf .leaf)) (.seq .leaf (.cond (.seq .leaf .leaf) (.seq .leaf (.cond (.seq .leaf .leaf) (.join ⟨[(152, .bool)], [], []⟩ (.seq .leaf (.cond .leaf .leaf)) (.cond (.seq .leaf .leaf) (.seq .leaf (.cond (.seq .leaf .leaf) (.seq .leaf (.cond (.seq .leaf .leaf) (.seq .leaf (.cond (.seq .leaf .leaf) (.join ⟨[(183, .bool)], [], []⟩ (.seq .leaf (.cond .leaf (.seq .leaf (.cond .leaf (.seq .leaf (.cond .leaf .leaf)))))) (.cond (.seq .leaf .leaf) (.join ⟨[(191, .bool)], [], []⟩ (.seq .leaf (.cond .leaf .leaf)) (.cond (.seq .leaf .leaf) (.seq .leaf (.cond (.seq .leaf .leaf) (.seq .leaf (.cond (.seq .leaf .leaf) (.seq .leaf (.cond (.seq .leaf .leaf) (.seq .leaf (.cond (.seq .leaf .leaf) (.seq .leaf (.cond (.seq .leaf .leaf) (.seq .leaf (.cond (.seq .leaf .leaf) (.seq .leaf (.cond (.seq .leaf .leaf) (.join ⟨[(274, .bool)], [], []⟩ (.seq .leaf (.cond .leaf .leaf)) (.cond (.seq .leaf .leaf) (.seq .leaf (.cond (.seq .leaf .leaf) .leaf)))))))))))))))))))))))))))))))))))))))))))))))))))))))))))))))) (.seq .leaf .leaf))))
def F126 (t0 : Int) (t1 : Int) (t2 : ByteArray) (t3a : Option Addr) (t3l : Nat) (t3c : Nat) (t4a : Option Addr) (t4l : Nat) (t4c : Nat) (g : G) (R : Value → G → Prop) : Prop :=
  ∀ J : Bool → G → Prop,
  (∀ v_1 : Bool, ∀ g1 : G, (ifB v_1
  (∀ g2 : G, Ex g1 g2 →
  R (.bool (eqI ((t4l : Nat) : Int) (0 : Int))) g2)
  (ifB (eqI t0 (2 : Int))
  ((CallsP Tryz.prog 149 #[(.slice t4a t4l t4c), (.int .i64 (1 : Int)), (.int .i64 (0 : Int)), (.int .i64 (4 : Int))] g1 fun v g3 =>
  ∃ x : Bool, v = (.bool x) ∧ ∀ g4 : G, Ex g3 g4 →
  R (.bool x) g4))
  (ifB (eqI t0 (3 : Int))
  (∀ g5 : G, NewL g1 g5 3 [(.int .i64 (1 : Int)), (.int .i64 (1 : Int))] →
  (CallsP Tryz.prog 150 #[(.agg ⟨[(.int .i64 t0), (.int .i64 t1), (.string t2), (.slice t3a t3l t3c), (.slice t4a t4l t4c)]⟩), (.slice (some ⟨g1.w.heap.size, 0, none⟩) 2 2)] g5 fun v g6 =>
  ∃ x_1 : Bool, v = (.bool x_1) ∧ ∀ g7 : G, Ex g6 g7 →
  R (.bool x_1) g7))
  (ifB (eqI t0 (4 : Int))
  ((CallsP Tryz.prog 149 #[(.slice t4a t4l t4c), (.int .i64 (1 : Int)), (.int .i64 (2 : Int)), (.int .i64 (9 : Int))] g1 fun v g8 =>
  ∃ x_2 : Bool, v = (.bool x_2) ∧ ∀ g9 : G, Ex g8 g9 →
  R (.bool x_2) g9))
  (ifB (eqI t0 (14 : Int))
  ((CallsP Tryz.prog 149 #[(.slice t4a t4l t4c), (.int .i64 (2 : Int)), (.int .i64 (0 : Int)), (.int .i64 (1 : Int))] g1 fun v g10 =>
  ∃ x_3 : Bool, v = (.bool x_3) ∧ ∀ g11 : G, Ex g10 g11 →
  R (.bool x_3) g11))
  (ifB (eqI t0 (15 : Int))
  (ifB (!eqI ((t4l : Nat) : Int) (1 : Int))
  ((CallsP Tryz.prog 149 #[(.slice t4a t4l t4c), (.int .i64 (2 : Int)), (.int .i64 (0 : Int)), (.int .i64 (9 : Int))] g1 fun v g12 =>
  ∃ x_4 : Bool, v = (.bool x_4) ∧ ∀ g13 : G, Ex g12 g13 →
  R (.bool x_4) g13))
  (∀ g14 : G, Ex g1 g14 →
  R (.bool false) g14))
  (∀ J_1 : Bool → G → Prop,
  (∀ v_2 : Bool, ∀ g15 : G, (ifB v_2
  (∀ g16 : G, NewL g15 g16 3 [(.int .i64 (3 : Int))] →
  (CallsP Tryz.prog 150 #[(.agg ⟨[(.int .i64 t0), (.int .i64 t1), (.string t2), (.slice t3a t3l t3c), (.slice t4a t4l t4c)]⟩), (.slice (some ⟨g15.w.heap.size, 0, none⟩) 1 1)] g16 fun v g17 =>
  ∃ x_5 : Bool, v = (.bool x_5) ∧ ∀ g18 : G, Ex g17 g18 →
  R (.bool x_5) g18))
  (ifB (eqI t0 (26 : Int))
  (∀ g19 : G, NewL g15 g19 3 [(.int .i64 (3 : Int)), (.int .i64 (3 : Int))] →
  (CallsP Tryz.prog 150 #[(.agg ⟨[(.int .i64 t0), (.int .i64 t1), (.string t2), (.slice t3a t3l t3c), (.slice t4a t4l t4c)]⟩), (.slice (some ⟨g15.w.heap.size, 0, none⟩) 2 2)] g19 fun v g20 =>
  ∃ x_6 : Bool, v = (.bool x_6) ∧ ∀ g21 : G, Ex g20 g21 →
  R (.bool x_6) g21))
  (ifB (eqI t0 (27 : Int))
  (ifB (!eqI ((t4l : Nat) : Int) (1 : Int))
  ((CallsP Tryz.prog 149 #[(.slice t4a t4l t4c), (.int .i64 (3 : Int)), (.int .i64 (0 : Int)), (.int .i64 (9 : Int))] g15 fun v g22 =>
  ∃ x_7 : Bool, v = (.bool x_7) ∧ ∀ g23 : G, Ex g22 g23 →
  R (.bool x_7) g23))
  (∀ g24 : G, Ex g15 g24 →
  R (.bool false) g24))
  (ifB (eqI t0 (28 : Int))
  (∀ g25 : G, NewL g15 g25 3 [(.int .i64 (3 : Int)), (.int .i64 (3 : Int)), (.int .i64 (3 : Int))] →
  (CallsP Tryz.prog 150 #[(.agg ⟨[(.int .i64 t0), (.int .i64 t1), (.string t2), (.slice t3a t3l t3c), (.slice t4a t4l t4c)]⟩), (.slice (some ⟨g15.w.heap.size, 0, none⟩) 3 3)] g25 fun v g26 =>
  ∃ x_8 : Bool, v = (.bool x_8) ∧ ∀ g27 : G, Ex g26 g27 →
  R (.bool x_8) g27))
  (ifB (eqI t0 (29 : Int))
  (ifB (leI (2 : Int) ((t4l : Nat) : Int))
  ((0 ≤ (0 : Int) ∧ (0 : Int) < ((t4l : Nat) : Int)) ∧ derefP t4a fun ad => ∃ x0 : Int, ∃ x1 : Int, ∃ x2 : ByteArray, ∃ x3a : Option Addr, ∃ x3l : Nat, ∃ x3c : Nat, ∃ x4a : Option Addr, ∃ x4l : Nat, ∃ x4c : Nat, g15.w.cell? (Addr.add ad (Int.toNat (0 : Int) * 5)) = some (.int .i64 x0) ∧ g15.w.cell? (Addr.add (Addr.add ad (Int.toNat (0 : Int) * 5)) 1) = some (.int .i64 x1) ∧ g15.w.cell? (Addr.add (Addr.add ad (Int.toNat (0 : Int) * 5)) 2) = some (.string x2) ∧ g15.w.cell? (Addr.add (Addr.add ad (Int.toNat (0 : Int) * 5)) 3) = some (.slice x3a x3l x3c) ∧ g15.w.cell? (Addr.add (Addr.add ad (Int.toNat (0 : Int) * 5)) 4) = some (.slice x4a x4l x4c) ∧ (CallsP Tryz.prog 95 #[(.int .i64 (3 : Int)), (.agg ⟨[(.int .i64 x0), (.int .i64 x1), (.string x2), (.slice x3a x3l x3c), (.slice x4a x4l x4c)]⟩)] g15 fun v g28 =>
  ∃ x_9 : Bool, v = (.bool x_9) ∧ ifB x_9
  ((0 ≤ (1 : Int) ∧ (1 : Int) ≤ ((t4l : Nat) : Int)) ∧ ∀ g29 : G, NewL g28 g29 3 [(.int .i64 (30 : Int))] →
  (CallsP Tryz.prog 151 #[(.slice (slAddr t4a t4c (Int.toNat (1 : Int)) 5) (t4l - (Int.toNat (1 : Int))) (t4c - (Int.toNat (1 : Int)))), (.slice (some ⟨g28.w.heap.size, 0, none⟩) 1 1)] g29 fun v g30 =>
  ∃ x_10 : Bool, v = (.bool x_10) ∧ ∀ g31 : G, Ex g30 g31 →
  R (.bool x_10) g31))
  (∀ g32 : G, Ex g28 g32 →
  R (.bool false) g32)))
  (∀ g33 : G, Ex g15 g33 →
  R (.bool false) g33))
  (ifB (eqI t0 (30 : Int))
  (∀ g34 : G, NewL g15 g34 3 [(.int .i64 (2 : Int)), (.int .i64 (3 : Int))] →
  (CallsP Tryz.prog 150 #[(.agg ⟨[(.int .i64 t0), (.int .i64 t1), (.string t2), (.slice t3a t3l t3c), (.slice t4a t4l t4c)]⟩), (.slice (some ⟨g15.w.heap.size, 0, none⟩) 2 2)] g34 fun v g35 =>
  ∃ x_11 : Bool, v = (.bool x_11) ∧ ∀ g36 : G, Ex g35 g36 →
  R (.bool x_11) g36))
  (ifB (eqI t0 (31 : Int))
  (ifB (leI (1 : Int) ((t4l : Nat) : Int))
  (InI64 (((t4l : Nat) : Int) - (1 : Int)) ∧ (0 ≤ (((t4l : Nat) : Int) - (1 : Int)) ∧ (((t4l : Nat) : Int) - (1 : Int)) < ((t4l : Nat) : Int)) ∧ derefP t4a fun ad_1 => ∃ x0_1 : Int, ∃ x1_1 : Int, ∃ x2_1 : ByteArray, ∃ x3a_1 : Option Addr, ∃ x3l_1 : Nat, ∃ x3c_1 : Nat, ∃ x4a_1 : Option Addr, ∃ x4l_1 : Nat, ∃ x4c_1 : Nat, g15.w.cell? (Addr.add ad_1 (Int.toNat (((t4l : Nat) : Int) - (1 : Int)) * 5)) = some (.int .i64 x0_1) ∧ g15.w.cell? (Addr.add (Addr.add ad_1 (Int.toNat (((t4l : Nat) : Int) - (1 : Int)) * 5)) 1) = some (.int .i64 x1_1) ∧ g15.w.cell? (Addr.add (Addr.add ad_1 (Int.toNat (((t4l : Nat) : Int) - (1 : Int)) * 5)) 2) = some (.string x2_1) ∧ g15.w.cell? (Addr.add (Addr.add ad_1 (Int.toNat (((t4l : Nat) : Int) - (1 : Int)) * 5)) 3) = some (.slice x3a_1 x3l_1 x3c_1) ∧ g15.w.cell? (Addr.add (Addr.add ad_1 (Int.toNat (((t4l : Nat) : Int) - (1 : Int)) * 5)) 4) = some (.slice x4a_1 x4l_1 x4c_1) ∧ (CallsP Tryz.prog 95 #[(.int .i64 (3 : Int)), (.agg ⟨[(.int .i64 x0_1), (.int .i64 x1_1), (.string x2_1), (.slice x3a_1 x3l_1 x3c_1), (.slice x4a_1 x4l_1 x4c_1)]⟩)] g15 fun v g37 =>
  ∃ x_12 : Bool, v = (.bool x_12) ∧ ifB x_12
  (InI64 (((t4l : Nat) : Int) - (1 : Int)) ∧ (0 ≤ (((t4l : Nat) : Int) - (1 : Int)) ∧ (((t4l : Nat) : Int) - (1 : Int)) ≤ ((t4c : Nat) : Int)) ∧ ∀ g38 : G, NewL g37 g38 3 [(.int .i64 (41 : Int)), (.int .i64 (42 : Int)), (.int .i64 (50 : Int))] →
  (CallsP Tryz.prog 151 #[(.slice (slAddr t4a t4c 0 5) ((Int.toNat (((t4l : Nat) : Int) - (1 : Int))) - 0) (t4c - 0)), (.slice (some ⟨g37.w.heap.size, 0, none⟩) 3 3)] g38 fun v g39 =>
  ∃ x_13 : Bool, v = (.bool x_13) ∧ ∀ g40 : G, Ex g39 g40 →
  R (.bool x_13) g40))
  (∀ g41 : G, Ex g37 g41 →
  R (.bool false) g41)))
  (∀ g42 : G, Ex g15 g42 →
  R (.bool false) g42))
  (ifB (eqI t0 (32 : Int))
  (ifB (eqI t1 (12 : Int))
  (∀ g43 : G, NewL g15 g43 3 [(.int .i64 (3 : Int))] →
  (CallsP Tryz.prog 150 #[(.agg ⟨[(.int .i64 t0), (.int .i64 t1), (.string t2), (.slice t3a t3l t3c), (.slice t4a t4l t4c)]⟩), (.slice (some ⟨g15.w.heap.size, 0, none⟩) 1 1)] g43 fun v g44 =>
  ∃ x_14 : Bool, v = (.bool x_14) ∧ ∀ g45 : G, Ex g44 g45 →
  R (.bool x_14) g45))
  (∀ g46 : G, NewL g15 g46 3 [(.int .i64 (3 : Int)), (.int .i64 (3 : Int))] →
  (CallsP Tryz.prog 150 #[(.agg ⟨[(.int .i64 t0), (.int .i64 t1), (.string t2), (.slice t3a t3l t3c), (.slice t4a t4l t4c)]⟩), (.slice (some ⟨g15.w.heap.size, 0, none⟩) 2 2)] g46 fun v g47 =>
  ∃ x_15 : Bool, v = (.bool x_15) ∧ ∀ g48 : G, Ex g47 g48 →
  R (.bool x_15) g48)))
  (ifB (eqI t0 (33 : Int))
  (∀ g49 : G, NewL g15 g49 3 [(.int .i64 (3 : Int)), (.int .i64 (1 : Int))] →
  (CallsP Tryz.prog 150 #[(.agg ⟨[(.int .i64 t0), (.int .i64 t1), (.string t2), (.slice t3a t3l t3c), (.slice t4a t4l t4c)]⟩), (.slice (some ⟨g15.w.heap.size, 0, none⟩) 2 2)] g49 fun v g50 =>
  ∃ x_16 : Bool, v = (.bool x_16) ∧ ∀ g51 : G, Ex g50 g51 →
  R (.bool x_16) g51))
  (ifB (eqI t0 (34 : Int))
  (ifB (eqI ((t4l : Nat) : Int) (1 : Int))
  (∀ g52 : G, NewL g15 g52 3 [(.int .i64 (72 : Int))] →
  (CallsP Tryz.prog 151 #[(.slice t4a t4l t4c), (.slice (some ⟨g15.w.heap.size, 0, none⟩) 1 1)] g52 fun v g53 =>
  ∃ x_17 : Bool, v = (.bool x_17) ∧ ∀ g54 : G, Ex g53 g54 →
  R (.bool x_17) g54))
  (∀ g55 : G, Ex g15 g55 →
  R (.bool false) g55))
  (∀ J_2 : Bool → G → Prop,
  (∀ v_3 : Bool, ∀ g56 : G, (ifB v_3
  (∀ g57 : G, NewL g56 g57 3 [(.int .i64 (1 : Int))] →
  (CallsP Tryz.prog 150 #[(.agg ⟨[(.int .i64 t0), (.int .i64 t1), (.string t2), (.slice t3a t3l t3c), (.slice t4a t4l t4c)]⟩), (.slice (some ⟨g56.w.heap.size, 0, none⟩) 1 1)] g57 fun v g58 =>
  ∃ x_18 : Bool, v = (.bool x_18) ∧ ∀ g59 : G, Ex g58 g59 →
  R (.bool x_18) g59))
  (ifB (eqI t0 (44 : Int))
  (ifB (leI (1 : Int) ((t4l : Nat) : Int))
  (∀ g60 : G, NewL g56 g60 3 [(.int .i64 (45 : Int))] →
  (CallsP Tryz.prog 151 #[(.slice t4a t4l t4c), (.slice (some ⟨g56.w.heap.size, 0, none⟩) 1 1)] g60 fun v g61 =>
  ∃ x_19 : Bool, v = (.bool x_19) ∧ ifB x_19
  ((CallsP Tryz.prog 152 #[(.slice t4a t4l t4c)] g61 fun v g62 =>
  ∃ x_20 : Bool, v = (.bool x_20) ∧ ∀ g63 : G, Ex g62 g63 →
  R (.bool x_20) g63))
  (∀ g64 : G, Ex g61 g64 →
  R (.bool false) g64)))
  (∀ g65 : G, Ex g56 g65 →
  R (.bool false) g65))
  (ifB (eqI t0 (45 : Int))
  ((CallsP Tryz.prog 149 #[(.slice t4a t4l t4c), (.int .i64 (1 : Int)), (.int .i64 (0 : Int)), (.int .i64 (1 : Int))] g56 fun v g66 =>
  ∃ x_21 : Bool, v = (.bool x_21) ∧ ∀ g67 : G, Ex g66 g67 →
  R (.bool x_21) g67))
  (ifB (eqI t0 (46 : Int))
  (∀ g68 : G, NewL g56 g68 3 [(.int .i64 (7 : Int))] →
  (CallsP Tryz.prog 150 #[(.agg ⟨[(.int .i64 t0), (.int .i64 t1), (.string t2), (.slice t3a t3l t3c), (.slice t4a t4l t4c)]⟩), (.slice (some ⟨g56.w.heap.size, 0, none⟩) 1 1)] g68 fun v g69 =>
  ∃ x_22 : Bool, v = (.bool x_22) ∧ ∀ g70 : G, Ex g69 g70 →
  R (.bool x_22) g70))
  (∀ J_3 : Bool → G → Prop,
  (∀ v_4 : Bool, ∀ g71 : G, (ifB v_4
  (∀ g72 : G, NewL g71 g72 3 [(.int .i64 (6 : Int))] →
  (CallsP Tryz.prog 150 #[(.agg ⟨[(.int .i64 t0), (.int .i64 t1), (.string t2), (.slice t3a t3l t3c), (.slice t4a t4l t4c)]⟩), (.slice (some ⟨g71.w.heap.size, 0, none⟩) 1 1)] g72 fun v g73 =>
  ∃ x_23 : Bool, v = (.bool x_23) ∧ ∀ g74 : G, Ex g73 g74 →
  R (.bool x_23) g74))
  (∀ J_4 : Bool → G → Prop,
  (∀ v_5 : Bool, ∀ g75 : G, (ifB v_5
  (ifB (eqI ((t4l : Nat) : Int) (2 : Int))
  ((0 ≤ (0 : Int) ∧ (0 : Int) < ((t4l : Nat) : Int)) ∧ derefP t4a fun ad_2 => ∃ x0_2 : Int, ∃ x1_2 : Int, ∃ x2_2 : ByteArray, ∃ x3a_2 : Option Addr, ∃ x3l_2 : Nat, ∃ x3c_2 : Nat, ∃ x4a_2 : Option Addr, ∃ x4l_2 : Nat, ∃ x4c_2 : Nat, g75.w.cell? (Addr.add ad_2 (Int.toNat (0 : Int) * 5)) = some (.int .i64 x0_2) ∧ g75.w.cell? (Addr.add (Addr.add ad_2 (Int.toNat (0 : Int) * 5)) 1) = some (.int .i64 x1_2) ∧ g75.w.cell? (Addr.add (Addr.add ad_2 (Int.toNat (0 : Int) * 5)) 2) = some (.string x2_2) ∧ g75.w.cell? (Addr.add (Addr.add ad_2 (Int.toNat (0 : Int) * 5)) 3) = some (.slice x3a_2 x3l_2 x3c_2) ∧ g75.w.cell? (Addr.add (Addr.add ad_2 (Int.toNat (0 : Int) * 5)) 4) = some (.slice x4a_2 x4l_2 x4c_2) ∧ (CallsP Tryz.prog 95 #[(.int .i64 (3 : Int)), (.agg ⟨[(.int .i64 x0_2), (.int .i64 x1_2), (.string x2_2), (.slice x3a_2 x3l_2 x3c_2), (.slice x4a_2 x4l_2 x4c_2)]⟩)] g75 fun v g76 =>
  ∃ x_24 : Bool, v = (.bool x_24) ∧ ifB x_24
  ((0 ≤ (1 : Int) ∧ (1 : Int) ≤ ((t4l : Nat) : Int)) ∧ ∀ g77 : G, NewL g76 g77 3 [(.int .i64 (72 : Int))] →
  (CallsP Tryz.prog 151 #[(.slice (slAddr t4a t4c (Int.toNat (1 : Int)) 5) (t4l - (Int.toNat (1 : Int))) (t4c - (Int.toNat (1 : Int)))), (.slice (some ⟨g76.w.heap.size, 0, none⟩) 1 1)] g77 fun v g78 =>
  ∃ x_25 : Bool, v = (.bool x_25) ∧ ∀ g79 : G, Ex g78 g79 →
  R (.bool x_25) g79))
  (∀ g80 : G, Ex g76 g80 →
  R (.bool false) g80)))
  (∀ g81 : G, Ex g75 g81 →
  R (.bool false) g81))
  (ifB (eqI t0 (66 : Int))
  (ifB (eqI ((t4l : Nat) : Int) (1 : Int))
  (∀ g82 : G, NewL g75 g82 3 [(.int .i64 (2 : Int))] →
  (CallsP Tryz.prog 151 #[(.slice t4a t4l t4c), (.slice (some ⟨g75.w.heap.size, 0, none⟩) 1 1)] g82 fun v g83 =>
  ∃ x_26 : Bool, v = (.bool x_26) ∧ ifB x_26
  ((0 ≤ (0 : Int) ∧ (0 : Int) < ((t4l : Nat) : Int)) ∧ derefP t4a fun ad_3 => ∃ xa : Option Addr, ∃ xl : Nat, ∃ xc : Nat, g83.w.cell? (Addr.add (Addr.add ad_3 (Int.toNat (0 : Int) * 5)) 4) = some (.slice xa xl xc) ∧ ∀ g84 : G, Ex g83 g84 →
  R (.bool (eqI ((xl : Nat) : Int) (0 : Int))) g84)
  (∀ g85 : G, Ex g83 g85 →
  R (.bool false) g85)))
  (∀ g86 : G, Ex g75 g86 →
  R (.bool false) g86))
  (ifB (eqI t0 (71 : Int))
  ((CallsP Tryz.prog 149 #[(.slice t4a t4l t4c), (.int .i64 (5 : Int)), (.int .i64 (0 : Int)), (.int .i64 ((t4l : Nat) : Int))] g75 fun v g87 =>
  ∃ x_27 : Bool, v = (.bool x_27) ∧ ∀ g88 : G, Ex g87 g88 →
  R (.bool x_27) g88))
  (ifB (eqI t0 (73 : Int))
  (∀ g89 : G, NewL g75 g89 3 [(.int .i64 (6 : Int)), (.int .i64 (6 : Int))] →
  (CallsP Tryz.prog 150 #[(.agg ⟨[(.int .i64 t0), (.int .i64 t1), (.string t2), (.slice t3a t3l t3c), (.slice t4a t4l t4c)]⟩), (.slice (some ⟨g75.w.heap.size, 0, none⟩) 2 2)] g89 fun v g90 =>
  ∃ x_28 : Bool, v = (.bool x_28) ∧ ∀ g91 : G, Ex g90 g91 →
  R (.bool x_28) g91))
  (ifB (eqI t0 (74 : Int))
  (ifB (eqI ((t4l : Nat) : Int) (2 : Int))
  ((0 ≤ (0 : Int) ∧ (0 : Int) < ((t4l : Nat) : Int)) ∧ derefP t4a fun ad_4 => ∃ x0_3 : Int, ∃ x1_3 : Int, ∃ x2_3 : ByteArray, ∃ x3a_3 : Option Addr, ∃ x3l_3 : Nat, ∃ x3c_3 : Nat, ∃ x4a_3 : Option Addr, ∃ x4l_3 : Nat, ∃ x4c_3 : Nat, g75.w.cell? (Addr.add ad_4 (Int.toNat (0 : Int) * 5)) = some (.int .i64 x0_3) ∧ g75.w.cell? (Addr.add (Addr.add ad_4 (Int.toNat (0 : Int) * 5)) 1) = some (.int .i64 x1_3) ∧ g75.w.cell? (Addr.add (Addr.add ad_4 (Int.toNat (0 : Int) * 5)) 2) = some (.string x2_3) ∧ g75.w.cell? (Addr.add (Addr.add ad_4 (Int.toNat (0 : Int) * 5)) 3) = some (.slice x3a_3 x3l_3 x3c_3) ∧ g75.w.cell? (Addr.add (Addr.add ad_4 (Int.toNat (0 : Int) * 5)) 4) = some (.slice x4a_3 x4l_3 x4c_3) ∧ (CallsP Tryz.prog 95 #[(.int .i64 (6 : Int)), (.agg ⟨[(.int .i64 x0_3), (.int .i64 x1_3), (.string x2_3), (.slice x3a_3 x3l_3 x3c_3), (.slice x4a_3 x4l_3 x4c_3)]⟩)] g75 fun v g92 =>
  ∃ x_29 : Bool, v = (.bool x_29) ∧ ifB x_29
  ((0 ≤ (1 : Int) ∧ (1 : Int) ≤ ((t4l : Nat) : Int)) ∧ ∀ g93 : G, NewL g92 g93 3 [(.int .i64 (43 : Int))] →
  (CallsP Tryz.prog 151 #[(.slice (slAddr t4a t4c (Int.toNat (1 : Int)) 5) (t4l - (Int.toNat (1 : Int))) (t4c - (Int.toNat (1 : Int)))), (.slice (some ⟨g92.w.heap.size, 0, none⟩) 1 1)] g93 fun v g94 =>
  ∃ x_30 : Bool, v = (.bool x_30) ∧ ∀ g95 : G, Ex g94 g95 →
  R (.bool x_30) g95))
  (∀ g96 : G, Ex g92 g96 →
  R (.bool false) g96)))
  (∀ g97 : G, Ex g75 g97 →
  R (.bool false) g97))
  (ifB (eqI t0 (81 : Int))
  ((CallsP Tryz.prog 149 #[(.slice t4a t4l t4c), (.int .i64 (4 : Int)), (.int .i64 (0 : Int)), (.int .i64 ((t4l : Nat) : Int))] g75 fun v g98 =>
  ∃ x_31 : Bool, v = (.bool x_31) ∧ ∀ g99 : G, Ex g98 g99 →
  R (.bool x_31) g99))
  (ifB (eqI t0 (83 : Int))
  (∀ g100 : G, NewL g75 g100 3 [(.int .i64 (6 : Int)), (.int .i64 (7 : Int))] →
  (CallsP Tryz.prog 150 #[(.agg ⟨[(.int .i64 t0), (.int .i64 t1), (.string t2), (.slice t3a t3l t3c), (.slice t4a t4l t4c)]⟩), (.slice (some ⟨g75.w.heap.size, 0, none⟩) 2 2)] g100 fun v g101 =>
  ∃ x_32 : Bool, v = (.bool x_32) ∧ ∀ g102 : G, Ex g101 g102 →
  R (.bool x_32) g102))
  (ifB (eqI t0 (84 : Int))
  (∀ g103 : G, NewL g75 g103 3 [(.int .i64 (7 : Int)), (.int .i64 (7 : Int))] →
  (CallsP Tryz.prog 150 #[(.agg ⟨[(.int .i64 t0), (.int .i64 t1), (.string t2), (.slice t3a t3l t3c), (.slice t4a t4l t4c)]⟩), (.slice (some ⟨g75.w.heap.size, 0, none⟩) 2 2)] g103 fun v g104 =>
  ∃ x_33 : Bool, v = (.bool x_33) ∧ ∀ g105 : G, Ex g104 g105 →
  R (.bool x_33) g105))
  (∀ J_5 : Bool → G → Prop,
  (∀ v_6 : Bool, ∀ g106 : G, (ifB v_6
  (∀ g107 : G, NewL g106 g107 3 [(.int .i64 (7 : Int)), (.int .i64 (6 : Int))] →
  (CallsP Tryz.prog 150 #[(.agg ⟨[(.int .i64 t0), (.int .i64 t1), (.string t2), (.slice t3a t3l t3c), (.slice t4a t4l t4c)]⟩), (.slice (some ⟨g106.w.heap.size, 0, none⟩) 2 2)] g107 fun v g108 =>
  ∃ x_34 : Bool, v = (.bool x_34) ∧ ∀ g109 : G, Ex g108 g109 →
  R (.bool x_34) g109))
  (ifB (eqI t0 (87 : Int))
  (ifB (leI (1 : Int) ((t4l : Nat) : Int))
  (InI64 (((t4l : Nat) : Int) - (1 : Int)) ∧ (0 ≤ (((t4l : Nat) : Int) - (1 : Int)) ∧ (((t4l : Nat) : Int) - (1 : Int)) < ((t4l : Nat) : Int)) ∧ derefP t4a fun ad_5 => ∃ x0_4 : Int, ∃ x1_4 : Int, ∃ x2_4 : ByteArray, ∃ x3a_4 : Option Addr, ∃ x3l_4 : Nat, ∃ x3c_4 : Nat, ∃ x4a_4 : Option Addr, ∃ x4l_4 : Nat, ∃ x4c_4 : Nat, g106.w.cell? (Addr.add ad_5 (Int.toNat (((t4l : Nat) : Int) - (1 : Int)) * 5)) = some (.int .i64 x0_4) ∧ g106.w.cell? (Addr.add (Addr.add ad_5 (Int.toNat (((t4l : Nat) : Int) - (1 : Int)) * 5)) 1) = some (.int .i64 x1_4) ∧ g106.w.cell? (Addr.add (Addr.add ad_5 (Int.toNat (((t4l : Nat) : Int) - (1 : Int)) * 5)) 2) = some (.string x2_4) ∧ g106.w.cell? (Addr.add (Addr.add ad_5 (Int.toNat (((t4l : Nat) : Int) - (1 : Int)) * 5)) 3) = some (.slice x3a_4 x3l_4 x3c_4) ∧ g106.w.cell? (Addr.add (Addr.add ad_5 (Int.toNat (((t4l : Nat) : Int) - (1 : Int)) * 5)) 4) = some (.slice x4a_4 x4l_4 x4c_4) ∧ (CallsP Tryz.prog 95 #[(.int .i64 (7 : Int)), (.agg ⟨[(.int .i64 x0_4), (.int .i64 x1_4), (.string x2_4), (.slice x3a_4 x3l_4 x3c_4), (.slice x4a_4 x4l_4 x4c_4)]⟩)] g106 fun v g110 =>
  ∃ x_35 : Bool, v = (.bool x_35) ∧ ifB x_35
  (InI64 (((t4l : Nat) : Int) - (1 : Int)) ∧ (0 ≤ (((t4l : Nat) : Int) - (1 : Int)) ∧ (((t4l : Nat) : Int) - (1 : Int)) ≤ ((t4c : Nat) : Int)) ∧ (CallsP Tryz.prog 149 #[(.slice (slAddr t4a t4c 0 5) ((Int.toNat (((t4l : Nat) : Int) - (1 : Int))) - 0) (t4c - 0)), (.int .i64 (4 : Int)), (.int .i64 (0 : Int)), (.int .i64 ((t4l : Nat) : Int))] g110 fun v g111 =>
  ∃ x_36 : Bool, v = (.bool x_36) ∧ ∀ g112 : G, Ex g111 g112 →
  R (.bool x_36) g112))
  (∀ g113 : G, Ex g110 g113 →
  R (.bool false) g113)))
  (∀ g114 : G, Ex g106 g114 →
  R (.bool false) g114))
  (∀ g115 : G, Ex g106 g115 →
  R (.bool false) g115))) → J_5 v_6 g106) →
  ifB (eqI t0 (85 : Int))
  (J_5 true g75)
  (J_5 (eqI t0 (86 : Int)) g75)))))))))) → J_4 v_5 g75) →
  ifB (eqI t0 (50 : Int))
  (J_4 true g71)
  (J_4 (eqI t0 (88 : Int)) g71))) → J_3 v_4 g71) →
  ifB (eqI t0 (47 : Int))
  (J_3 true g56)
  (ifB (eqI t0 (63 : Int))
  (J_3 true g56)
  (ifB (eqI t0 (64 : Int))
  (J_3 true g56)
  (J_3 (eqI t0 (65 : Int)) g56)))))))) → J_2 v_3 g56) →
  ifB (eqI t0 (43 : Int))
  (J_2 true g15)
  (J_2 (eqI t0 (61 : Int)) g15)))))))))))) → J_1 v_2 g15) →
  ifB (eqI t0 (25 : Int))
  (J_1 true g1)
  (ifB (eqI t0 (41 : Int))
  (J_1 true g1)
  (J_1 (eqI t0 (42 : Int)) g1))))))))) → J v_1 g1) →
  ifB (eqI t0 (1 : Int))
  (∀ g116 : G, Ex g g116 →
  J true g116)
  (ifB (eqI t0 (5 : Int))
  (∀ g117 : G, Ex g g117 →
  J true g117)
  (ifB (eqI t0 (11 : Int))
  (∀ g118 : G, Ex g g118 →
  J true g118)
  (ifB (eqI t0 (12 : Int))
  (∀ g119 : G, Ex g g119 →
  J true g119)
  (ifB (eqI t0 (13 : Int))
  (∀ g120 : G, Ex g g120 →
  J true g120)
  (ifB (eqI t0 (21 : Int))
  (∀ g121 : G, Ex g g121 →
  J true g121)
  (ifB (eqI t0 (22 : Int))
  (∀ g122 : G, Ex g g122 →
  J true g122)
  (ifB (eqI t0 (23 : Int))
  (∀ g123 : G, Ex g g123 →
  J true g123)
  (ifB (eqI t0 (24 : Int))
  (∀ g124 : G, Ex g g124 →
  J true g124)
  (ifB (eqI t0 (48 : Int))
  (∀ g125 : G, Ex g g125 →
  J true g125)
  (ifB (eqI t0 (49 : Int))
  (∀ g126 : G, Ex g g126 →
  J true g126)
  (ifB (eqI t0 (62 : Int))
  (∀ g127 : G, Ex g g127 →
  J true g127)
  (ifB (eqI t0 (72 : Int))
  (∀ g128 : G, Ex g g128 →
  J true g128)
  (∀ g129 : G, Ex g g129 →
  J (eqI t0 (82 : Int)) g129)))))))))))))
theorem F126_eq (t0 : Int) (t1 : Int) (t2 : ByteArray) (t3a : Option Addr) (t3l : Nat) (t3c : Nat) (t4a : Option Addr) (t4l : Nat) (t4c : Nat) (g : G) (R : Value → G → Prop) : fnG cfg126 302 [.tmp 2] c126 an126 [(.agg ⟨[(.int .i64 t0), (.int .i64 t1), (.string t2), (.slice t3a t3l t3c), (.slice t4a t4l t4c)]⟩)] g nobody R = F126 t0 t1 t2 t3a t3l t3c t4a t4l t4c g R := by kernel_rfl
theorem call126 (t0 : Int) (t1 : Int) (t2 : ByteArray) (t3a : Option Addr) (t3l : Nat) (t3c : Nat) (t4a : Option Addr) (t4l : Nat) (t4c : Nat) (g : G) (R : Value → G → Prop) (hF : F126 t0 t1 t2 t3a t3l t3c t4a t4l t4c g R) : CallsG Tryz.prog 126 #[(.agg ⟨[(.int .i64 t0), (.int .i64 t1), (.string t2), (.slice t3a t3l t3c), (.slice t4a t4l t4c)]⟩)] g nobody R :=
  fn_soundG (c := cfg126) TTok FNSok mixed Tryz.func126 (show Tryz.f126.body = some c126 by kernel_rfl) (show Tryz.f126.ntmps = 302 by kernel_rfl) (show Tryz.f126.results.toList = [.tmp 2] by kernel_rfl) rfl ((F126_eq t0 t1 t2 t3a t3l t3c t4a t4l t4c g R).mpr hF)

/- 127 pilaster/syntax.formed$1$1 -/
noncomputable def c127 : Code := match Tryz.f127.body with
  | some c => c
  | none => .skip
noncomputable def cfg127 : Cfg := ⟨Tryz.prog, TT, FNS, [4], [(4, 4)], [], TCH, true, false⟩
def an127 : AnnG := (.seq .leaf (.seq .leaf .leaf))
def F127 (x0 : Int) (x1 : Int) (x2 : ByteArray) (x3a : Option Addr) (x3l : Nat) (x3c : Nat) (x4a : Option Addr) (x4l : Nat) (x4c : Nat) (c0 : Option Addr) (c1 : Option Addr) (c2 : Option Addr) (g : G) (M : Nat → Prop) (R : Value → G → Prop) : Prop :=
  ∀ g1 : G, Ex g g1 →
  derefP c0 fun ad => ∃ xf : FuncId, ∃ xc : Array Value, g1.w.cell? ad = some (.func (.func xf) #[] xc) ∧ derefP c1 fun ad_1 => ∃ x : Int, g1.w.cell? ad_1 = some (.int .i64 x) ∧ InI64 (x + (1 : Int)) ∧ derefP c2 fun ad_2 => ∃ x_1 : Int, g1.w.cell? ad_2 = some (.int .i64 x_1) ∧ Enters Tryz.prog xf ∧ ∃ M1 : Nat → Prop, (∀ b, b < g.w.heap.size → M1 b → M b) ∧ (CallsG Tryz.prog xf ((⟨[(.agg ⟨[(.int .i64 x0), (.int .i64 x1), (.string x2), (.slice x3a x3l x3c), (.slice x4a x4l x4c)]⟩), (.int .i64 (x + (1 : Int))), (.bool (eqI x_1 (74 : Int)))]⟩ : Array Value) ++ xc) g1 M1 fun v g2 =>
  ∃ x_2 : Bool, v = (.bool x_2) ∧ ∀ g3 : G, Ex g2 g3 →
  R (.bool (!x_2)) g3)
theorem F127_eq (x0 : Int) (x1 : Int) (x2 : ByteArray) (x3a : Option Addr) (x3l : Nat) (x3c : Nat) (x4a : Option Addr) (x4l : Nat) (x4c : Nat) (c0 : Option Addr) (c1 : Option Addr) (c2 : Option Addr) (g : G) (M : Nat → Prop) (R : Value → G → Prop) : fnG cfg127 15 [.tmp 5] c127 an127 [(.agg ⟨[(.int .i64 x0), (.int .i64 x1), (.string x2), (.slice x3a x3l x3c), (.slice x4a x4l x4c)]⟩), (.pointer c0), (.pointer c1), (.pointer c2)] g M R = F127 x0 x1 x2 x3a x3l x3c x4a x4l x4c c0 c1 c2 g M R := by kernel_rfl
theorem call127 (x0 : Int) (x1 : Int) (x2 : ByteArray) (x3a : Option Addr) (x3l : Nat) (x3c : Nat) (x4a : Option Addr) (x4l : Nat) (x4c : Nat) (c0 : Option Addr) (c1 : Option Addr) (c2 : Option Addr) (g : G) (M : Nat → Prop) (R : Value → G → Prop) (hF : F127 x0 x1 x2 x3a x3l x3c x4a x4l x4c c0 c1 c2 g M R) : CallsG Tryz.prog 127 #[(.agg ⟨[(.int .i64 x0), (.int .i64 x1), (.string x2), (.slice x3a x3l x3c), (.slice x4a x4l x4c)]⟩), (.pointer c0), (.pointer c1), (.pointer c2)] g M R :=
  fn_soundG (c := cfg127) TTok FNSok mixed Tryz.func127 (show Tryz.f127.body = some c127 by kernel_rfl) (show Tryz.f127.ntmps = 15 by kernel_rfl) (show Tryz.f127.results.toList = [.tmp 5] by kernel_rfl) rfl ((F127_eq x0 x1 x2 x3a x3l x3c x4a x4l x4c c0 c1 c2 g M R).mpr hF)

/- 128 pilaster/scope.refers -/
noncomputable def c128 : Code := match Tryz.f128.body with
  | some c => c
  | none => .skip
noncomputable def cfg128 : Cfg := ⟨Tryz.prog, TT, FNS, [1], [(1, 1), (11, 1), (18, 1), (23, 1)], [], TCH, false, false⟩
def an128 : AnnG := (.seq .leaf (.seq .leaf (.seq .leaf (.seq (.seq .leaf (.cond (.seq .leaf .leaf) .leaf)) (.join ⟨[(5, .int .i64)], [], []⟩ (.seq .leaf (.cond .leaf .leaf)) (.seq .leaf .leaf))))))
def F128 (t0 : Int) (t1 : Int) (t2 : ByteArray) (t3a : Option Addr) (t3l : Nat) (t3c : Nat) (t4a : Option Addr) (t4l : Nat) (t4c : Nat) (g : G) (R : Value → G → Prop) : Prop :=
  ∀ g1 : G, Ex g g1 →
  ∀ g2 : G, NewM g1 g2 →
  ∃ wo1 : World, Sem.run Tryz.prog (Instr.mapUpdate 143 (.map (some g1.w.heap.size)) (.int .i64 (23 : Int)) (.int .i64 (1 : Int))) g2.w = .ok () wo1 ∧ ∃ g3 : G, g3.w = wo1 ∧ Stp g.w.heap.size nobody g2 g3 ∧ ∃ wo2 : World, Sem.run Tryz.prog (Instr.mapUpdate 143 (.map (some g1.w.heap.size)) (.int .i64 (2 : Int)) (.int .i64 (2 : Int))) g3.w = .ok () wo2 ∧ ∃ g4 : G, g4.w = wo2 ∧ Stp g.w.heap.size nobody g3 g4 ∧ ∃ wo3 : World, Sem.run Tryz.prog (Instr.mapUpdate 143 (.map (some g1.w.heap.size)) (.int .i64 (66 : Int)) (.int .i64 (2 : Int))) g4.w = .ok () wo3 ∧ ∃ g5 : G, g5.w = wo3 ∧ Stp g.w.heap.size nobody g4 g5 ∧ ∃ wo4 : World, Sem.run Tryz.prog (Instr.mapUpdate 143 (.map (some g1.w.heap.size)) (.int .i64 (14 : Int)) (.int .i64 (3 : Int))) g5.w = .ok () wo4 ∧ ∃ g6 : G, g6.w = wo4 ∧ Stp g.w.heap.size nobody g5 g6 ∧ ∃ wo5 : World, Sem.run Tryz.prog (Instr.mapUpdate 143 (.map (some g1.w.heap.size)) (.int .i64 (24 : Int)) (.int .i64 (3 : Int))) g6.w = .ok () wo5 ∧ ∃ g7 : G, g7.w = wo5 ∧ Stp g.w.heap.size nobody g6 g7 ∧ ∃ wo6 : World, Sem.run Tryz.prog (Instr.mapUpdate 143 (.map (some g1.w.heap.size)) (.int .i64 (34 : Int)) (.int .i64 (4 : Int))) g7.w = .ok () wo6 ∧ ∃ g8 : G, g8.w = wo6 ∧ Stp g.w.heap.size nobody g7 g8 ∧ ∃ wo7 : World, Sem.run Tryz.prog (Instr.mapUpdate 143 (.map (some g1.w.heap.size)) (.int .i64 (48 : Int)) (.int .i64 (4 : Int))) g8.w = .ok () wo7 ∧ ∃ g9 : G, g9.w = wo7 ∧ Stp g.w.heap.size nobody g8 g9 ∧ ∃ wo8 : World, Sem.run Tryz.prog (Instr.mapUpdate 143 (.map (some g1.w.heap.size)) (.int .i64 (49 : Int)) (.int .i64 (4 : Int))) g9.w = .ok () wo8 ∧ ∃ g10 : G, g10.w = wo8 ∧ Stp g.w.heap.size nobody g9 g10 ∧ ∃ wo9 : World, Sem.run Tryz.prog (Instr.mapUpdate 143 (.map (some g1.w.heap.size)) (.int .i64 (82 : Int)) (.int .i64 (4 : Int))) g10.w = .ok () wo9 ∧ ∃ g11 : G, g11.w = wo9 ∧ Stp g.w.heap.size nobody g10 g11 ∧ ∃ wo10 : World, Sem.run Tryz.prog (Instr.mapUpdate 143 (.map (some g1.w.heap.size)) (.int .i64 (5 : Int)) (.int .i64 (5 : Int))) g11.w = .ok () wo10 ∧ ∃ g12 : G, g12.w = wo10 ∧ Stp g.w.heap.size nobody g11 g12 ∧ ∃ wo11 : World, Sem.run Tryz.prog (Instr.mapUpdate 143 (.map (some g1.w.heap.size)) (.int .i64 (72 : Int)) (.int .i64 (5 : Int))) g12.w = .ok () wo11 ∧ ∃ g13 : G, g13.w = wo11 ∧ Stp g.w.heap.size nobody g12 g13 ∧ ∃ x0 : Int, ∃ x1 : Bool, ∃ wo12 : World, Sem.run Tryz.prog (Instr.lookup 143 (.map (some g1.w.heap.size)) (.int .i64 t0) true) g13.w = .ok (.tuple ⟨[(.int .i64 x0), (.bool x1)]⟩) wo12 ∧ ∃ g14 : G, g14.w = wo12 ∧ Stp g.w.heap.size nobody g13 g14 ∧ ifB (!x1)
  (∀ g15 : G, Ex g14 g15 →
  R (.tuple ⟨[(.string (bs [])), (.bool false)]⟩) g15)
  (∀ J : Int → G → Prop,
  (∀ kind : Int, ∀ g16 : G, ((0 ≤ (0 : Int) ∧ (0 : Int) < ((t3l : Nat) : Int)) ∧ derefP t3a fun ad => ∃ x : ByteArray, g16.w.cell? (Addr.add ad (Int.toNat (0 : Int) * 1)) = some (.string x) ∧ (CallsP Tryz.prog 88 #[(.int .i64 kind), (.string x)] g16 fun v g17 =>
  ∃ x_1 : ByteArray, v = (.string x_1) ∧ ∀ g18 : G, Ex g17 g18 →
  R (.tuple ⟨[(.string x_1), (.bool true)]⟩) g18)) → J kind g16) →
  ifB (ltI (1 : Int) ((t3l : Nat) : Int))
  (J (4 : Int) g14)
  (J x0 g14))
theorem F128_eq (t0 : Int) (t1 : Int) (t2 : ByteArray) (t3a : Option Addr) (t3l : Nat) (t3c : Nat) (t4a : Option Addr) (t4l : Nat) (t4c : Nat) (g : G) (R : Value → G → Prop) : fnG cfg128 28 [.tmp 2, .tmp 3] c128 an128 [(.agg ⟨[(.int .i64 t0), (.int .i64 t1), (.string t2), (.slice t3a t3l t3c), (.slice t4a t4l t4c)]⟩)] g nobody R = F128 t0 t1 t2 t3a t3l t3c t4a t4l t4c g R := by kernel_rfl
theorem call128 (t0 : Int) (t1 : Int) (t2 : ByteArray) (t3a : Option Addr) (t3l : Nat) (t3c : Nat) (t4a : Option Addr) (t4l : Nat) (t4c : Nat) (g : G) (R : Value → G → Prop) (hF : F128 t0 t1 t2 t3a t3l t3c t4a t4l t4c g R) : CallsG Tryz.prog 128 #[(.agg ⟨[(.int .i64 t0), (.int .i64 t1), (.string t2), (.slice t3a t3l t3c), (.slice t4a t4l t4c)]⟩)] g nobody R :=
  fn_soundG (c := cfg128) TTok FNSok mixed Tryz.func128 (show Tryz.f128.body = some c128 by kernel_rfl) (show Tryz.f128.ntmps = 28 by kernel_rfl) (show Tryz.f128.results.toList = [.tmp 2, .tmp 3] by kernel_rfl) rfl ((F128_eq t0 t1 t2 t3a t3l t3c t4a t4l t4c g R).mpr hF)

/- 136 pilaster/ident.name -/
noncomputable def c136 : Code := match Tryz.f136.body with
  | some c => c
  | none => .skip
noncomputable def cfg136 : Cfg := ⟨Tryz.prog, TT, FNS, [], [], [], TCH, false, false⟩
def an136 : AnnG := (.seq .leaf (.join ⟨[], [], []⟩ (.seq .leaf (.cond (.seq .leaf .leaf) .leaf)) (.seq (.seq .leaf (.blk (.loop ⟨[(25, .int .i64)], [], []⟩ (.seq .leaf (.seq (.cond .leaf .leaf) (.seq (.blk (.seq .leaf (.seq .leaf (.seq .leaf (.cond (.seq .leaf .leaf) .leaf))))) .leaf)))))) (.seq .leaf .leaf))))
def F136 (s : ByteArray) (first : Int) (g : G) (R : Value → G → Prop) : Prop :=
  ∀ J : G → Prop,
  (∀ g1 : G, (∃ xa : Option Addr, ∃ xl : Nat, ∃ xc : Nat, ∃ wo1 : World, Sem.run Tryz.prog (convert 9 148 (.string s)) g1.w = .ok (.slice xa xl xc) wo1 ∧ ∃ g2 : G, g2.w = wo1 ∧ Stp g.w.heap.size nobody g1 g2 ∧ ∃ Inv : Nat → Int → G → Prop, ((∃ m0 : Nat, Inv m0 (0 : Int) g2)) ∧
  ∀ m : Nat, ∀ v_1 : Int, ∀ g3 : G, Le g2 g3 → Inv m v_1 g3 →
  ifB (ltI v_1 ((xl : Nat) : Int))
  ((0 ≤ v_1 ∧ v_1 < ((xl : Nat) : Int)) ∧ derefP xa fun ad => ∃ c : Int, g3.w.cell? (Addr.add ad (Int.toNat v_1 * 1)) = some (.int .u8 c) ∧ (CallsP Tryz.prog 155 #[(.int .u8 c)] g3 fun v g4 =>
  ∃ k : Int, v = (.int .i64 k) ∧ ifB (eqI k (0 : Int))
  (∀ g5 : G, Ex g4 g5 →
  R (.bool false) g5)
  (ifB (eqI k (5 : Int))
  (∀ g6 : G, Ex g4 g6 →
  R (.bool false) g6)
  (InI64 (v_1 + (1 : Int)) ∧ (∃ m_1 : Nat, m_1 < m ∧ Inv m_1 (v_1 + (1 : Int)) g4)))))
  (∀ g7 : G, Ex g3 g7 →
  R (.bool true) g7)) → J g1) →
  ifB (strEq s (bs []))
  (∀ g8 : G, Ex g g8 →
  R (.bool false) g8)
  (ifB (ltI (24 : Int) ((s.size : Nat) : Int))
  (∀ g9 : G, Ex g g9 →
  R (.bool false) g9)
  (∃ b : UInt8, (0 ≤ (0 : Int) ∧ s[Int.toNat (0 : Int)]? = some b) ∧ (CallsP Tryz.prog 155 #[(.int .u8 ((b.toNat : Nat) : Int))] g fun v g10 =>
  ∃ x : Int, v = (.int .i64 x) ∧ ifB (!eqI x first)
  (∀ g11 : G, Ex g10 g11 →
  R (.bool false) g11)
  (J g10))))
theorem F136_eq (s : ByteArray) (first : Int) (g : G) (R : Value → G → Prop) : fnG cfg136 38 [.tmp 4] c136 an136 [(.string s), (.int .i64 first)] g nobody R = F136 s first g R := by kernel_rfl
theorem call136 (s : ByteArray) (first : Int) (g : G) (R : Value → G → Prop) (hF : F136 s first g R) : CallsG Tryz.prog 136 #[(.string s), (.int .i64 first)] g nobody R :=
  fn_soundG (c := cfg136) TTok FNSok mixed Tryz.func136 (show Tryz.f136.body = some c136 by kernel_rfl) (show Tryz.f136.ntmps = 38 by kernel_rfl) (show Tryz.f136.results.toList = [.tmp 4] by kernel_rfl) rfl ((F136_eq s first g R).mpr hF)

/- 138 pilaster/pilasterref03.form -/
/- 139 pilaster/ident.prefix -/
noncomputable def c139 : Code := match Tryz.f139.body with
  | some c => c
  | none => .skip
noncomputable def cfg139 : Cfg := ⟨Tryz.prog, TT, FNS, [], [], [], TCH, false, false⟩
def an139 : AnnG := (.seq .leaf (.seq (.seq .leaf (.blk (.seq .leaf (.cond (.seq .leaf .leaf) (.seq .leaf (.cond (.seq .leaf .leaf) (.seq .leaf (.cond (.seq .leaf .leaf) (.seq .leaf (.cond (.seq .leaf .leaf) (.seq .leaf (.cond (.seq .leaf .leaf) .leaf)))))))))))) (.seq .leaf .leaf)))
def F139 (kind : Int) (g : G) (R : Value → G → Prop) : Prop :=
  ifB (eqI kind (1 : Int))
  (∀ g1 : G, Ex g g1 →
  R (.string (bs [118, 97, 108, 46])) g1)
  (ifB (eqI kind (2 : Int))
  (∀ g2 : G, Ex g g2 →
  R (.string (bs [116, 121, 112, 101, 46])) g2)
  (ifB (eqI kind (3 : Int))
  (∀ g3 : G, Ex g g3 →
  R (.string (bs [99, 111, 110, 46])) g3)
  (ifB (eqI kind (4 : Int))
  (∀ g4 : G, Ex g g4 →
  R (.string (bs [109, 111, 100, 46])) g4)
  (ifB (eqI kind (5 : Int))
  (∀ g5 : G, Ex g g5 →
  R (.string (bs [115, 105, 103, 46])) g5)
  (∀ g6 : G, Ex g g6 →
  R (.string (bs [])) g6)))))
theorem F139_eq (kind : Int) (g : G) (R : Value → G → Prop) : fnG cfg139 14 [.tmp 2] c139 an139 [(.int .i64 kind)] g nobody R = F139 kind g R := by kernel_rfl
theorem call139 (kind : Int) (g : G) (R : Value → G → Prop) (hF : F139 kind g R) : CallsG Tryz.prog 139 #[(.int .i64 kind)] g nobody R :=
  fn_soundG (c := cfg139) TTok FNSok mixed Tryz.func139 (show Tryz.f139.body = some c139 by kernel_rfl) (show Tryz.f139.ntmps = 14 by kernel_rfl) (show Tryz.f139.results.toList = [.tmp 2] by kernel_rfl) rfl ((F139_eq kind g R).mpr hF)

/- 140 pilaster/ident.fits -/
noncomputable def c140 : Code := match Tryz.f140.body with
  | some c => c
  | none => .skip
noncomputable def cfg140 : Cfg := ⟨Tryz.prog, TT, FNS, [], [], [], TCH, false, false⟩
def an140 : AnnG := (.seq .leaf (.seq (.seq .leaf (.cond (.seq .leaf .leaf) .leaf)) (.seq .leaf .leaf)))
def F140 (kind : Int) (name : ByteArray) (g : G) (R : Value → G → Prop) : Prop :=
  ifB (eqI kind (1 : Int))
  ((CallsP Tryz.prog 145 #[(.string name)] g fun v g1 =>
  ∃ x : Bool, v = (.bool x) ∧ ∀ g2 : G, Ex g1 g2 →
  R (.bool x) g2))
  (ifB (eqI kind (2 : Int))
  ((CallsP Tryz.prog 145 #[(.string name)] g fun v g3 =>
  ∃ x_1 : Bool, v = (.bool x_1) ∧ ∀ g4 : G, Ex g3 g4 →
  R (.bool x_1) g4))
  ((CallsP Tryz.prog 111 #[(.string name)] g fun v g5 =>
  ∃ x_2 : Bool, v = (.bool x_2) ∧ ∀ g6 : G, Ex g5 g6 →
  R (.bool x_2) g6)))
theorem F140_eq (kind : Int) (name : ByteArray) (g : G) (R : Value → G → Prop) : fnG cfg140 15 [.tmp 4] c140 an140 [(.int .i64 kind), (.string name)] g nobody R = F140 kind name g R := by kernel_rfl
theorem call140 (kind : Int) (name : ByteArray) (g : G) (R : Value → G → Prop) (hF : F140 kind name g R) : CallsG Tryz.prog 140 #[(.int .i64 kind), (.string name)] g nobody R :=
  fn_soundG (c := cfg140) TTok FNSok mixed Tryz.func140 (show Tryz.f140.body = some c140 by kernel_rfl) (show Tryz.f140.ntmps = 15 by kernel_rfl) (show Tryz.f140.results.toList = [.tmp 4] by kernel_rfl) rfl ((F140_eq kind name g R).mpr hF)

/- 141 pilaster/pilasterref01.inner -/
/- 142 pilaster/syntax.fields -/
noncomputable def c142 : Code := match Tryz.f142.body with
  | some c => c
  | none => .skip
noncomputable def cfg142 : Cfg := ⟨Tryz.prog, TT, FNS, [2], [(2, 2)], [], TCH, false, false⟩
def an142 : AnnG := (.seq .leaf (.seq (.seq .leaf (.blk (.join ⟨[(4, .bool)], [], []⟩ (.seq .leaf (.cond .leaf (.seq .leaf (.cond .leaf .leaf)))) (.cond (.seq .leaf .leaf) (.join ⟨[(9, .bool)], [], []⟩ (.seq .leaf (.cond .leaf (.seq .leaf (.cond .leaf (.seq .leaf (.cond .leaf (.seq .leaf (.cond .leaf (.seq .leaf (.cond .leaf (.seq .leaf (.cond .leaf (.seq .leaf (.cond .leaf (.seq .leaf (.cond .leaf (.seq .leaf (.cond .leaf (.seq .leaf (.cond .leaf (.seq .leaf (.cond .leaf .leaf)))))))))))))))))))))) (.cond (.seq .leaf .leaf) (.join ⟨[(23, .bool)], [], []⟩ (.seq .leaf (.cond .leaf (.seq .leaf (.cond .leaf (.seq .leaf (.cond .leaf (.seq .leaf (.cond .leaf (.seq .leaf (.cond .leaf (.seq .leaf (.cond .leaf (.seq .leaf (.cond .leaf (.seq .leaf (.cond .leaf (.seq .leaf (.cond .leaf (.seq .leaf (.cond .leaf (.seq .leaf (.cond .leaf .leaf)))))))))))))))))))))) (.cond (.seq .leaf .leaf) (.join ⟨[(37, .bool)], [], []⟩ (.seq .leaf (.cond .leaf (.seq .leaf (.cond .leaf (.seq .leaf (.cond .leaf .leaf)))))) (.cond (.seq .leaf .leaf) (.seq (.seq .leaf (.cond .leaf .leaf)) (.cond (.seq .leaf .leaf) .leaf)))))))))))) (.seq .leaf .leaf)))
def F142 (op : Int) (g : G) (R : Value → G → Prop) : Prop :=
  ∀ J : Bool → G → Prop,
  (∀ v_1 : Bool, ∀ g1 : G, (ifB v_1
  (∀ g2 : G, Ex g1 g2 →
  R (.agg ⟨[(.bool true), (.bool false), (.bool false)]⟩) g2)
  (∀ J_1 : Bool → G → Prop,
  (∀ v_2 : Bool, ∀ g3 : G, (ifB v_2
  (∀ g4 : G, Ex g3 g4 →
  R (.agg ⟨[(.bool false), (.bool true), (.bool false)]⟩) g4)
  (∀ J_2 : Bool → G → Prop,
  (∀ v_3 : Bool, ∀ g5 : G, (ifB v_3
  (∀ g6 : G, Ex g5 g6 →
  R (.agg ⟨[(.bool false), (.bool false), (.bool true)]⟩) g6)
  (∀ J_3 : Bool → G → Prop,
  (∀ v_4 : Bool, ∀ g7 : G, (ifB v_4
  (∀ g8 : G, Ex g7 g8 →
  R (.agg ⟨[(.bool false), (.bool true), (.bool true)]⟩) g8)
  (ifB (eqI op (73 : Int))
  (∀ g9 : G, Ex g7 g9 →
  R (.agg ⟨[(.bool true), (.bool true), (.bool false)]⟩) g9)
  (ifB (eqI op (83 : Int))
  (∀ g10 : G, Ex g7 g10 →
  R (.agg ⟨[(.bool true), (.bool true), (.bool false)]⟩) g10)
  (∀ g11 : G, Ex g7 g11 →
  R (.agg ⟨[(.bool false), (.bool false), (.bool false)]⟩) g11)))) → J_3 v_4 g7) →
  ifB (eqI op (42 : Int))
  (J_3 true g5)
  (ifB (eqI op (43 : Int))
  (J_3 true g5)
  (ifB (eqI op (44 : Int))
  (J_3 true g5)
  (J_3 (eqI op (62 : Int)) g5))))) → J_2 v_3 g5) →
  ifB (eqI op (2 : Int))
  (J_2 true g3)
  (ifB (eqI op (5 : Int))
  (J_2 true g3)
  (ifB (eqI op (14 : Int))
  (J_2 true g3)
  (ifB (eqI op (23 : Int))
  (J_2 true g3)
  (ifB (eqI op (24 : Int))
  (J_2 true g3)
  (ifB (eqI op (34 : Int))
  (J_2 true g3)
  (ifB (eqI op (48 : Int))
  (J_2 true g3)
  (ifB (eqI op (49 : Int))
  (J_2 true g3)
  (ifB (eqI op (66 : Int))
  (J_2 true g3)
  (ifB (eqI op (72 : Int))
  (J_2 true g3)
  (ifB (eqI op (74 : Int))
  (J_2 true g3)
  (J_2 (eqI op (82 : Int)) g3))))))))))))) → J_1 v_2 g3) →
  ifB (eqI op (1 : Int))
  (J_1 true g1)
  (ifB (eqI op (12 : Int))
  (J_1 true g1)
  (ifB (eqI op (22 : Int))
  (J_1 true g1)
  (ifB (eqI op (25 : Int))
  (J_1 true g1)
  (ifB (eqI op (41 : Int))
  (J_1 true g1)
  (ifB (eqI op (45 : Int))
  (J_1 true g1)
  (ifB (eqI op (46 : Int))
  (J_1 true g1)
  (ifB (eqI op (47 : Int))
  (J_1 true g1)
  (ifB (eqI op (50 : Int))
  (J_1 true g1)
  (ifB (eqI op (61 : Int))
  (J_1 true g1)
  (ifB (eqI op (63 : Int))
  (J_1 true g1)
  (J_1 (eqI op (64 : Int)) g1))))))))))))) → J v_1 g1) →
  ifB (eqI op (13 : Int))
  (∀ g12 : G, Ex g g12 →
  J true g12)
  (ifB (eqI op (21 : Int))
  (∀ g13 : G, Ex g g13 →
  J true g13)
  (∀ g14 : G, Ex g g14 →
  J (eqI op (32 : Int)) g14))
theorem F142_eq (op : Int) (g : G) (R : Value → G → Prop) : fnG cfg142 48 [.cell 2 136] c142 an142 [(.int .i64 op)] g nobody R = F142 op g R := by kernel_rfl
theorem call142 (op : Int) (g : G) (R : Value → G → Prop) (hF : F142 op g R) : CallsG Tryz.prog 142 #[(.int .i64 op)] g nobody R :=
  fn_soundG (c := cfg142) TTok FNSok mixed Tryz.func142 (show Tryz.f142.body = some c142 by kernel_rfl) (show Tryz.f142.ntmps = 48 by kernel_rfl) (show Tryz.f142.results.toList = [.cell 2 136] by kernel_rfl) rfl ((F142_eq op g R).mpr hF)

/- 143 pilaster/ident.IsVar -/
noncomputable def c143 : Code := match Tryz.f143.body with
  | some c => c
  | none => .skip
noncomputable def cfg143 : Cfg := ⟨Tryz.prog, TT, FNS, [], [], [], TCH, false, false⟩
def an143 : AnnG := (.seq .leaf (.seq .leaf (.seq .leaf .leaf)))
def F143 (s : ByteArray) (g : G) (R : Value → G → Prop) : Prop :=
  (CallsP Tryz.prog 163 #[(.string s), (.string (bs [39]))] g fun v g1 =>
  ∃ x0 : ByteArray, ∃ x1 : Bool, v = (.tuple ⟨[(.string x0), (.bool x1)]⟩) ∧ ifB x1
  (ifB (leI ((s.size : Nat) : Int) (24 : Int))
  ((CallsP Tryz.prog 136 #[(.string x0), (.int .i64 (1 : Int))] g1 fun v g2 =>
  ∃ x : Bool, v = (.bool x) ∧ ∀ g3 : G, Ex g2 g3 →
  R (.bool x) g3))
  (∀ g4 : G, Ex g1 g4 →
  R (.bool false) g4))
  (∀ g5 : G, Ex g1 g5 →
  R (.bool false) g5))
theorem F143_eq (s : ByteArray) (g : G) (R : Value → G → Prop) : fnG cfg143 20 [.tmp 2] c143 an143 [(.string s)] g nobody R = F143 s g R := by kernel_rfl
theorem call143 (s : ByteArray) (g : G) (R : Value → G → Prop) (hF : F143 s g R) : CallsG Tryz.prog 143 #[(.string s)] g nobody R :=
  fn_soundG (c := cfg143) TTok FNSok mixed Tryz.func143 (show Tryz.f143.body = some c143 by kernel_rfl) (show Tryz.f143.ntmps = 20 by kernel_rfl) (show Tryz.f143.results.toList = [.tmp 2] by kernel_rfl) rfl ((F143_eq s g R).mpr hF)

/- 144 pilaster/syntax.path -/
noncomputable def c144 : Code := match Tryz.f144.body with
  | some c => c
  | none => .skip
noncomputable def cfg144 : Cfg := ⟨Tryz.prog, TT, FNS, [], [], [], TCH, false, false⟩
def an144 : AnnG := (.seq .leaf (.join ⟨[], [], []⟩ (.seq .leaf (.cond (.seq .leaf .leaf) .leaf)) (.seq .leaf (.seq (.seq .leaf (.cond (.seq .leaf .leaf) .leaf)) (.seq (.seq .leaf (.cond (.seq .leaf .leaf) .leaf)) (.seq .leaf .leaf))))))
def F144 (la : Option Addr) (ll : Nat) (lc : Nat) (lower : Bool) (g : G) (R : Value → G → Prop) : Prop :=
  ∀ J : G → Prop,
  (∀ g1 : G, (InI64 (((ll : Nat) : Int) - (1 : Int)) ∧ (0 ≤ (((ll : Nat) : Int) - (1 : Int)) ∧ (((ll : Nat) : Int) - (1 : Int)) ≤ ((lc : Nat) : Int)) ∧ (CallsP Tryz.prog 33 #[(.slice (slAddr la lc 0 1) ((Int.toNat (((ll : Nat) : Int) - (1 : Int))) - 0) (lc - 0)), (.func (.func 164) #[] #[])] g1 fun v g2 =>
  ∃ x : Bool, v = (.bool x) ∧ ifB x
  (∀ g3 : G, Ex g2 g3 →
  R (.bool false) g3)
  (ifB lower
  ((0 ≤ (((ll : Nat) : Int) - (1 : Int)) ∧ (((ll : Nat) : Int) - (1 : Int)) < ((ll : Nat) : Int)) ∧ derefP la fun ad => ∃ x_1 : ByteArray, g2.w.cell? (Addr.add ad (Int.toNat (((ll : Nat) : Int) - (1 : Int)) * 1)) = some (.string x_1) ∧ (CallsP Tryz.prog 145 #[(.string x_1)] g2 fun v g4 =>
  ∃ x_2 : Bool, v = (.bool x_2) ∧ ∀ g5 : G, Ex g4 g5 →
  R (.bool x_2) g5))
  ((0 ≤ (((ll : Nat) : Int) - (1 : Int)) ∧ (((ll : Nat) : Int) - (1 : Int)) < ((ll : Nat) : Int)) ∧ derefP la fun ad_1 => ∃ x_3 : ByteArray, g2.w.cell? (Addr.add ad_1 (Int.toNat (((ll : Nat) : Int) - (1 : Int)) * 1)) = some (.string x_3) ∧ (CallsP Tryz.prog 111 #[(.string x_3)] g2 fun v g6 =>
  ∃ x_4 : Bool, v = (.bool x_4) ∧ ∀ g7 : G, Ex g6 g7 →
  R (.bool x_4) g7))))) → J g1) →
  ifB (ltI ((ll : Nat) : Int) (1 : Int))
  (∀ g8 : G, Ex g g8 →
  R (.bool false) g8)
  (ifB (ltI (8 : Int) ((ll : Nat) : Int))
  (∀ g9 : G, Ex g g9 →
  R (.bool false) g9)
  (J g))
theorem F144_eq (la : Option Addr) (ll : Nat) (lc : Nat) (lower : Bool) (g : G) (R : Value → G → Prop) : fnG cfg144 32 [.tmp 4] c144 an144 [(.slice la ll lc), (.bool lower)] g nobody R = F144 la ll lc lower g R := by kernel_rfl
theorem call144 (la : Option Addr) (ll : Nat) (lc : Nat) (lower : Bool) (g : G) (R : Value → G → Prop) (hF : F144 la ll lc lower g R) : CallsG Tryz.prog 144 #[(.slice la ll lc), (.bool lower)] g nobody R :=
  fn_soundG (c := cfg144) TTok FNSok mixed Tryz.func144 (show Tryz.f144.body = some c144 by kernel_rfl) (show Tryz.f144.ntmps = 32 by kernel_rfl) (show Tryz.f144.results.toList = [.tmp 4] by kernel_rfl) rfl ((F144_eq la ll lc lower g R).mpr hF)

/- 145 pilaster/ident.IsLower -/
noncomputable def c145 : Code := match Tryz.f145.body with
  | some c => c
  | none => .skip
noncomputable def cfg145 : Cfg := ⟨Tryz.prog, TT, FNS, [], [], [], TCH, false, false⟩
def an145 : AnnG := (.seq .leaf (.seq .leaf .leaf))
def F145 (s : ByteArray) (g : G) (R : Value → G → Prop) : Prop :=
  (CallsP Tryz.prog 136 #[(.string s), (.int .i64 (1 : Int))] g fun v g1 =>
  ∃ x : Bool, v = (.bool x) ∧ ifB x
  ((CallsP Tryz.prog 165 #[(.string s)] g1 fun v g2 =>
  ∃ x_1 : Bool, v = (.bool x_1) ∧ ∀ g3 : G, Ex g2 g3 →
  R (.bool (!x_1)) g3))
  (∀ g4 : G, Ex g1 g4 →
  R (.bool false) g4))
theorem F145_eq (s : ByteArray) (g : G) (R : Value → G → Prop) : fnG cfg145 10 [.tmp 2] c145 an145 [(.string s)] g nobody R = F145 s g R := by kernel_rfl
theorem call145 (s : ByteArray) (g : G) (R : Value → G → Prop) (hF : F145 s g R) : CallsG Tryz.prog 145 #[(.string s)] g nobody R :=
  fn_soundG (c := cfg145) TTok FNSok mixed Tryz.func145 (show Tryz.f145.body = some c145 by kernel_rfl) (show Tryz.f145.ntmps = 10 by kernel_rfl) (show Tryz.f145.results.toList = [.tmp 2] by kernel_rfl) rfl ((F145_eq s g R).mpr hF)

/- 146 pilaster/syntax.plain -/
noncomputable def c146 : Code := match Tryz.f146.body with
  | some c => c
  | none => .skip
noncomputable def cfg146 : Cfg := ⟨Tryz.prog, TT, FNS, [], [], [], TCH, false, false⟩
def an146 : AnnG := (.seq .leaf (.seq (.seq .leaf (.blk (.loop ⟨[(6, .int .i64)], [], []⟩ (.seq .leaf (.seq (.cond .leaf .leaf) (.seq (.blk (.seq .leaf (.seq .leaf (.cond (.seq .leaf .leaf) .leaf)))) .leaf)))))) (.seq .leaf .leaf)))
def F146 (s : ByteArray) (g : G) (R : Value → G → Prop) : Prop :=
  ∃ Inv : Nat → Int → G → Prop, ((∃ m0 : Nat, Inv m0 (0 : Int) g)) ∧
  ∀ m : Nat, ∀ v_1 : Int, ∀ g1 : G, Le g g1 → Inv m v_1 g1 →
  ifB (ltI v_1 ((s.size : Nat) : Int))
  (∃ b : UInt8, (0 ≤ v_1 ∧ s[Int.toNat v_1]? = some b) ∧ ifB (!eqI ((b.toNat : Nat) : Int) (10 : Int))
  (∃ b_1 : UInt8, (0 ≤ v_1 ∧ s[Int.toNat v_1]? = some b_1) ∧ ifB (ltI ((b_1.toNat : Nat) : Int) (32 : Int))
  (∀ g2 : G, Ex g1 g2 →
  R (.bool false) g2)
  (∃ b_2 : UInt8, (0 ≤ v_1 ∧ s[Int.toNat v_1]? = some b_2) ∧ ifB (ltI (126 : Int) ((b_2.toNat : Nat) : Int))
  (∀ g3 : G, Ex g1 g3 →
  R (.bool false) g3)
  (InI64 (v_1 + (1 : Int)) ∧ (∃ m_1 : Nat, m_1 < m ∧ Inv m_1 (v_1 + (1 : Int)) g1))))
  (InI64 (v_1 + (1 : Int)) ∧ (∃ m_1 : Nat, m_1 < m ∧ Inv m_1 (v_1 + (1 : Int)) g1)))
  (∀ g4 : G, Ex g1 g4 →
  R (.bool (leI ((s.size : Nat) : Int) (16384 : Int))) g4)
theorem F146_eq (s : ByteArray) (g : G) (R : Value → G → Prop) : fnG cfg146 29 [.tmp 2] c146 an146 [(.string s)] g nobody R = F146 s g R := by kernel_rfl
theorem call146 (s : ByteArray) (g : G) (R : Value → G → Prop) (hF : F146 s g R) : CallsG Tryz.prog 146 #[(.string s)] g nobody R :=
  fn_soundG (c := cfg146) TTok FNSok mixed Tryz.func146 (show Tryz.f146.body = some c146 by kernel_rfl) (show Tryz.f146.ntmps = 29 by kernel_rfl) (show Tryz.f146.results.toList = [.tmp 2] by kernel_rfl) rfl ((F146_eq s g R).mpr hF)

/- 147 pilaster/syntax.own$1 -/
noncomputable def c147 : Code := match Tryz.f147.body with
  | some c => c
  | none => .skip
noncomputable def cfg147 : Cfg := ⟨Tryz.prog, TT, FNS, [], [], [], TCH, false, false⟩
def an147 : AnnG := (.seq .leaf (.seq .leaf .leaf))
def F147 (s : ByteArray) (g : G) (R : Value → G → Prop) : Prop :=
  (CallsP Tryz.prog 145 #[(.string s)] g fun v g1 =>
  ∃ x : Bool, v = (.bool x) ∧ ∀ g2 : G, Ex g1 g2 →
  R (.bool (!x)) g2)
theorem F147_eq (s : ByteArray) (g : G) (R : Value → G → Prop) : fnG cfg147 6 [.tmp 2] c147 an147 [(.string s)] g nobody R = F147 s g R := by kernel_rfl
theorem call147 (s : ByteArray) (g : G) (R : Value → G → Prop) (hF : F147 s g R) : CallsG Tryz.prog 147 #[(.string s)] g nobody R :=
  fn_soundG (c := cfg147) TTok FNSok mixed Tryz.func147 (show Tryz.f147.body = some c147 by kernel_rfl) (show Tryz.f147.ntmps = 6 by kernel_rfl) (show Tryz.f147.results.toList = [.tmp 2] by kernel_rfl) rfl ((F147_eq s g R).mpr hF)

/- 148 pilaster/syntax.params -/
noncomputable def c148 : Code := match Tryz.f148.body with
  | some c => c
  | none => .skip
noncomputable def cfg148 : Cfg := ⟨Tryz.prog, TT, FNS, [], [], [], TCH, false, false⟩
def an148 : AnnG := (.seq .leaf (.seq (.seq .leaf (.blk (.loop ⟨[(7, .int .i64)], [], []⟩ (.seq .leaf (.seq (.cond .leaf .leaf) (.seq (.blk (.seq .leaf (.seq .leaf (.cond (.seq .leaf .leaf) .leaf)))) .leaf)))))) (.seq .leaf .leaf)))
def F148 (la : Option Addr) (ll : Nat) (lc : Nat) (g : G) (R : Value → G → Prop) : Prop :=
  ∃ Inv : Nat → Int → G → Prop, ((∃ m0 : Nat, Inv m0 (0 : Int) g)) ∧
  ∀ m : Nat, ∀ v_1 : Int, ∀ g1 : G, Le g g1 → Inv m v_1 g1 →
  ifB (ltI v_1 ((ll : Nat) : Int))
  ((0 ≤ v_1 ∧ v_1 < ((ll : Nat) : Int)) ∧ derefP la fun ad => ∃ s : ByteArray, g1.w.cell? (Addr.add ad (Int.toNat v_1 * 1)) = some (.string s) ∧ (CallsP Tryz.prog 143 #[(.string s)] g1 fun v g2 =>
  ∃ x : Bool, v = (.bool x) ∧ ifB (!x)
  (∀ g3 : G, Ex g2 g3 →
  R (.bool false) g3)
  ((0 ≤ v_1 ∧ v_1 ≤ ((lc : Nat) : Int)) ∧ (CallsP Tryz.prog 19 #[(.slice (slAddr la lc 0 1) ((Int.toNat v_1) - 0) (lc - 0)), (.string s)] g2 fun v g4 =>
  ∃ x_1 : Bool, v = (.bool x_1) ∧ ifB x_1
  (∀ g5 : G, Ex g4 g5 →
  R (.bool false) g5)
  (InI64 (v_1 + (1 : Int)) ∧ (∃ m_1 : Nat, m_1 < m ∧ Inv m_1 (v_1 + (1 : Int)) g4))))))
  (∀ g6 : G, Ex g1 g6 →
  R (.bool (leI ((ll : Nat) : Int) (4 : Int))) g6)
theorem F148_eq (la : Option Addr) (ll : Nat) (lc : Nat) (g : G) (R : Value → G → Prop) : fnG cfg148 26 [.tmp 2] c148 an148 [(.slice la ll lc)] g nobody R = F148 la ll lc g R := by kernel_rfl
theorem call148 (la : Option Addr) (ll : Nat) (lc : Nat) (g : G) (R : Value → G → Prop) (hF : F148 la ll lc g R) : CallsG Tryz.prog 148 #[(.slice la ll lc)] g nobody R :=
  fn_soundG (c := cfg148) TTok FNSok mixed Tryz.func148 (show Tryz.f148.body = some c148 by kernel_rfl) (show Tryz.f148.ntmps = 26 by kernel_rfl) (show Tryz.f148.results.toList = [.tmp 2] by kernel_rfl) rfl ((F148_eq la ll lc g R).mpr hF)
end Go.Proofs.YtkocjbgdmocmlaaGreatDoor
